/- The law TopReplay, walked. Conditions: the firm and the texts lie as said; the library's variables read as they were laid. -/
import Derived.Test.YthooacpfmjpdmaaGreatDoorOBeside
import Derived.Test.YthooacpfmjpdmaaGreatDoorOAudit
namespace Go.Proofs.YthooacpfmjpdmaaGreatDoor
open Go.RowKit
set_option maxRecDepth 100000 in
set_option maxHeartbeats 4000000 in
theorem topReplay_early (v u : Value) (k : Int) (c : Cal) (l : List ByteArray) (p : Int) (w : World) (h : FirmAt w v k c) (hl : TextsAt w u l) (hb : Base w) (hno : largeB c = true ∨ 150 < l.length ∨ NewE k c ≠ 0) :
    Gives Tryz.prog 14 #[v, u, .int .i64 p] w (.bool true) := by
  obtain ⟨fa, fc, sa, sc, rfl, hcal⟩ := h.open
  have HF := Lib.hid h
  have HC := Lib.hid hcal
  have HT := Lib.hid hl
  have HB := Lib.hid hb
  have h9 := hb.nine
  obtain ⟨ta, tc, rfl, -⟩ := hl
  clear h hcal hb
  unfold Gives
  obtain ⟨b1, hb1e⟩ : ∃ b, largeB c = b := ⟨_, rfl⟩
  obtain ⟨b2, hb2e⟩ : ∃ b, decide (150 < l.length) = b := ⟨_, rfl⟩
  rw [hb1e] at hno
  have HL1 := Lib.hid hb1e
  have HL2 := Lib.hid hb2e
  have hno2 : b1 = true ∨ b2 = true ∨ NewE k c ≠ 0 := by
    rcases hno with h | h | h
    · exact .inl h
    · exact .inr (.inl (by rw [← hb2e]; exact decide_eq_true h))
    · exact .inr (.inr h)
  clear hb1e hb2e hno
  cases b1 with
  | true =>
    go_enter Tryz.func14, Tryz.ntmps14
    go_wp2_with (first | (go_at_call 27; refine (Sum_is (s := ⟨#[]⟩) (n := 1000002) (by decide) (by kernel_rfl)).use ?_; intro w1 hb1 hz1 hc1 hf1; (try simp at hz1); have e10 := fun o => hc1 w.heap.size o (by simp); have hy1 : w.heap.size < w1.heap.size := (by omega); clear hc1 hf1) | (go_at_call 17; refine (Large_is (HF.out.below (by (repeat' (first | exact Below.refl _ _ | assumption | refine below_new ?_ _ | refine below_draw ?_ | refine below_tail (by assumption) ?_ | refine below_set ?_ (by first | omega | (simp <;> omega)) _)))) HL1.out).use ?_; intro w2 hb2 hz2 hc2 hf2; (try simp at hz2); have hy2 : w.heap.size < w2.heap.size := (by omega); have e20 := fun o => (hc2 w.heap.size o hy1).trans (e10 o); clear hc2 hf2))
    go_ret
    exact ⟨rfl, by (repeat' (first | exact Below.refl _ _ | assumption | refine below_new ?_ _ | refine below_draw ?_ | refine below_tail (by assumption) ?_ | refine below_set ?_ (by first | omega | (simp <;> omega)) _))⟩
  | false =>
  cases b2 with
  | true =>
    go_enter Tryz.func14, Tryz.ntmps14
    go_wp2_with (first | (go_at_call 27; refine (Sum_is (s := ⟨#[]⟩) (n := 1000002) (by decide) (by kernel_rfl)).use ?_; intro w1 hb1 hz1 hc1 hf1; (try simp at hz1); have e10 := fun o => hc1 w.heap.size o (by simp); have hy1 : w.heap.size < w1.heap.size := (by omega); clear hc1 hf1) | (go_at_call 17; refine (Large_is (HF.out.below (by (repeat' (first | exact Below.refl _ _ | assumption | refine below_new ?_ _ | refine below_draw ?_ | refine below_tail (by assumption) ?_ | refine below_set ?_ (by first | omega | (simp <;> omega)) _)))) HL1.out).use ?_; intro w2 hb2 hz2 hc2 hf2; (try simp at hz2); have hy2 : w.heap.size < w2.heap.size := (by omega); have e20 := fun o => (hc2 w.heap.size o hy1).trans (e10 o); clear hc2 hf2) | (go_at_call 18; refine (Long_is (HT.out.below (by (repeat' (first | exact Below.refl _ _ | assumption | refine below_new ?_ _ | refine below_draw ?_ | refine below_tail (by assumption) ?_ | refine below_set ?_ (by first | omega | (simp <;> omega)) _)))) HL2.out).use ?_; intro w3 hb3 hz3 hc3 hf3; (try simp at hz3); have hy3 : w.heap.size < w3.heap.size := (by omega); have e30 := fun o => (hc3 w.heap.size o hy2).trans (e20 o); clear hc3 hf3))
    go_ret
    exact ⟨rfl, by (repeat' (first | exact Below.refl _ _ | assumption | refine below_new ?_ _ | refine below_draw ?_ | refine below_tail (by assumption) ?_ | refine below_set ?_ (by first | omega | (simp <;> omega)) _))⟩
  | false =>
    have hz0 : NewE k c ≠ 0 := by
      rcases hno2 with h | h | h
      · cases h
      · cases h
      · exact h
    obtain ⟨r, hr⟩ : ∃ r, NewE k c = r := ⟨_, rfl⟩
    have HR := Lib.hid hr
    have hz : r ≠ 0 := by rw [← hr]; exact hz0
    have kr : (r != 0) = true := by simpa using hz
    clear hno2 hz0 hr
    go_enter Tryz.func14, Tryz.ntmps14
    go_wp2_with (first | (go_at_call 27; refine (Sum_is (s := ⟨#[]⟩) (n := 1000002) (by decide) (by kernel_rfl)).use ?_; intro w1 hb1 hz1 hc1 hf1; (try simp at hz1); have e10 := fun o => hc1 w.heap.size o (by simp); have hy1 : w.heap.size < w1.heap.size := (by omega); clear hc1 hf1) | (go_at_call 17; refine (Large_is (HF.out.below (by (repeat' (first | exact Below.refl _ _ | assumption | refine below_new ?_ _ | refine below_draw ?_ | refine below_tail (by assumption) ?_ | refine below_set ?_ (by first | omega | (simp <;> omega)) _)))) HL1.out).use ?_; intro w2 hb2 hz2 hc2 hf2; (try simp at hz2); have hy2 : w.heap.size < w2.heap.size := (by omega); have e20 := fun o => (hc2 w.heap.size o hy1).trans (e10 o); clear hc2 hf2) | (go_at_call 18; refine (Long_is (HT.out.below (by (repeat' (first | exact Below.refl _ _ | assumption | refine below_new ?_ _ | refine below_draw ?_ | refine below_tail (by assumption) ?_ | refine below_set ?_ (by first | omega | (simp <;> omega)) _)))) HL2.out).use ?_; intro w3 hb3 hz3 hc3 hf3; (try simp at hz3); have hy3 : w.heap.size < w3.heap.size := (by omega); have e30 := fun o => (hc3 w.heap.size o hy2).trans (e20 o); clear hc3 hf3) | (go_at_call 19; refine (New_bad k _ c _ (HC.out.below (by (repeat' (first | exact Below.refl _ _ | assumption | refine below_new ?_ _ | refine below_draw ?_ | refine below_tail (by assumption) ?_ | refine below_set ?_ (by first | omega | (simp <;> omega)) _)))) r HR.out hz).use ?_; intro w4 hb4 hz4 hc4 hf4; clear hc4 hf4))
    go_ret
    exact ⟨rfl, by (repeat' (first | exact Below.refl _ _ | assumption | refine below_new ?_ _ | refine below_draw ?_ | refine below_tail (by assumption) ?_ | refine below_set ?_ (by first | omega | (simp <;> omega)) _))⟩
set_option maxRecDepth 100000 in
set_option maxHeartbeats 4000000 in
theorem topReplay_late (v u : Value) (k : Int) (c : Cal) (l : List ByteArray) (p : Int) (w : World) (h : FirmAt w v k c) (hl : TextsAt w u l) (hb : Base w) (h1 : largeB c = false) (h2 : decide (150 < l.length) = false) (hz : NewE k c = 0) :
    Gives Tryz.prog 14 #[v, u, .int .i64 p] w (.bool true) := by
  obtain ⟨fa, fc, sa, sc, rfl, hcal⟩ := h.open
  have HF := Lib.hid h
  have HC := Lib.hid hcal
  have HT := Lib.hid hl
  have HB := Lib.hid hb
  have h9 := hb.nine
  obtain ⟨ta, tc, rfl, -⟩ := hl
  clear h hcal hb
  unfold Gives
  have HL1 := Lib.hid h1
  have HL2 := Lib.hid h2
  have HZ := Lib.hid hz
  obtain ⟨i0, hi0, hz0, hi1_, hi2_⟩ := info_parts infoStr
  obtain ⟨X, hX⟩ : ∃ X, l.length = X := ⟨_, rfl⟩
  have HX := Lib.hid hX
  rw [hX] at HT ⊢
  clear h1 h2 hz hX
  go_enter Tryz.func14, Tryz.ntmps14
  go_wp2_with (first
    | (go_at_call 27; refine (Sum_is (s := ⟨#[]⟩) (n := 1000002) (by decide) (by kernel_rfl)).use ?_; intro w1 hb1 hz1 hc1 hf1; (try simp at hz1); have e10 := fun o => hc1 w.heap.size o (by simp); have hy1 : w.heap.size < w1.heap.size := (by omega); clear hc1 hf1)
    | (go_at_call 17; refine (Large_is (HF.out.below (by (repeat' (first | exact Below.refl _ _ | assumption | refine below_new ?_ _ | refine below_draw ?_ | refine below_tail (by assumption) ?_ | refine below_set ?_ (by first | omega | (simp <;> omega)) _)))) HL1.out).use ?_; intro w2 hb2 hz2 hc2 hf2; (try simp at hz2); have hy2 : w.heap.size < w2.heap.size := (by omega); have e20 := fun o => (hc2 w.heap.size o hy1).trans (e10 o); clear hc2 hf2)
    | (go_at_call 18; refine (Long_is (HT.out.below (by (repeat' (first | exact Below.refl _ _ | assumption | refine below_new ?_ _ | refine below_draw ?_ | refine below_tail (by assumption) ?_ | refine below_set ?_ (by first | omega | (simp <;> omega)) _)))) HL2.out).use ?_; intro w3 hb3 hz3 hc3 hf3; (try simp at hz3); have hy3 : w.heap.size < w3.heap.size := (by omega); have e30 := fun o => (hc3 w.heap.size o hy2).trans (e20 o); clear hc3 hf3)
    | (go_at_call 19; refine Calls.mono (New_t 0 k _ c _ (HC.out.below (by (repeat' (first | exact Below.refl _ _ | assumption | refine below_new ?_ _ | refine below_draw ?_ | refine below_tail (by assumption) ?_ | refine below_set ?_ (by first | omega | (simp <;> omega)) _)))) HZ.out) ?_; rintro e w4 ⟨B, rfl, ⟨ho4, hm4⟩, hb4⟩; have BW3 : Hid (Below w.heap.size w w3) := (by (repeat' (first | exact Below.refl _ _ | assumption | refine below_new ?_ _ | refine below_draw ?_ | refine below_tail (by assumption) ?_ | refine below_set ?_ (by first | omega | (simp <;> omega)) _))); have BW : Hid (Below w3.heap.size w3 w4) := hb4; have e40 : Hid (∀ o, w3.cell? ⟨w.heap.size, o, none⟩ = (w.alloc (.cells #[.int .i64 k, .int .i64 c.first, .slice fa c.free.length fc, .slice sa c.still.length sc] 27)).cell? ⟨w.heap.size, o, none⟩) := fun o => e30 o; have hm3 : w.heap.size ≤ w3.heap.size := Nat.le_of_lt hy3; have h93 : 9 ≤ w3.heap.size := Nat.le_trans h9 hm3))
  have HBS : Hid (Beside w3.heap.size w4.heap.size w4 B k.toNat (manyO (newO k.toNat c) (l.take 0)) (.slice none 0 0) (.slice none 0 0) (manyO (newO k.toNat c) (l.take 0)).os) :=
    { off := ho4, made := hm4, row := World.ownsRow_nil _ _ _ _, nB := (by intro e; cases e), nO := (by intro b e; cases e) }
  have hBl : B < w4.heap.size := ho4.facts.2.1
  clear ho4 hm4
  go_loopw [9, 10] (fun v i wr => ∃ (j N : Nat) (ov : Value) (va : Option Addr) (vc : Nat), j ≤ X ∧ j ≤ 40 ∧ i = .int .i64 j ∧ v = .slice va N vc ∧ Hid (Below w3.heap.size w3 wr) ∧ w4.heap.size ≤ wr.heap.size ∧ Hid ((manyO (newO k.toNat c) (l.take j)).os.length = N) ∧ Hid (Beside w3.heap.size w4.heap.size wr B k.toNat (manyO (newO k.toNat c) (l.take j)) ov (.slice va N vc) (manyO (newO k.toNat c) (l.take j)).os)) (fun _ i _ => 40 - (intOf i).toNat)
  case atStart => exact ⟨0, 0, .slice none 0 0, none, 0, Nat.zero_le _, Nat.zero_le _, rfl, rfl, BW, Nat.le_refl _, rfl, HBS⟩
  case round =>
    obtain ⟨j, N, ov, va, vc, hj, hj25, rfl, rfl, hbw, hsz, hN, hbs⟩ := hrel
    by_cases hlt : j < X
    · have k2 : decide ((j : Int) < (X : Int)) = true := decide_eq_true (by omega)
      by_cases h25 : j < 40
      · have k3 : decide ((j : Int) < 40) = true := decide_eq_true (by omega)
        obtain ⟨tb, tof, rfl, hBc, hcell⟩ := (HT.out.below (Below.trans BW3.out (hbw.out.mono BW3.out.size))).cellAt (m := j) (by rw [HX.out]; exact hlt)
        obtain ⟨d, hd⟩ : ∃ d, gi l default j = d := ⟨_, rfl⟩
        have hTK : l.take (j + 1) = l.take j ++ [d] := by rw [List.take_succ_eq_append_getElem (by rw [HX.out]; exact hlt), ← hd, gi_lt (by rw [HX.out]; exact hlt)]
        rw [hd] at hcell
        clear hd
        obtain ⟨x, hx⟩ : ∃ x, manyO (newO k.toNat c) (l.take j) = x := ⟨_, rfl⟩
        have HTK : Hid (manyO (newO k.toNat c) (l.take (j + 1)) = stepO x d) := by show _ = _; rw [many_next hTK, hx]
        rw [hx] at hN hbs
        clear hTK hx
        have hw6 : IntKind.i64.wrap ((j : Int) + 1) = (j : Int) + 1 := IntWalk.i64_in _ (by omega)
        have htb3 : tb < w3.heap.size := by
          obtain ⟨tb2, tof2, e2, h2, -⟩ := HT.out.cellAt (m := j) (by rw [HX.out]; exact hlt)
          injection e2 with e2
          injection e2 with e2
          omega
        have hN80 : N ≤ 80 := by rw [← hN.out]; exact hbs.out.made.few
        have HN := Lib.hid hN.out
        obtain ⟨E, hE⟩ : ∃ E, stepE x d = E := ⟨_, rfl⟩
        have HE := Lib.hid hE
        by_cases hE0 : E = 0
        · subst hE0
          have HS : Hid ((stepO x d).os = x.os ++ [d]) := step_os_yes hE
          clear hE
          go_wp2_with (first
            | (go_at_call 21; refine Calls.mono (hbs.out.step d h93 (HB.out.below (Below.trans BW3.out (hbw.out.mono BW3.out.size)))) ?_; rintro e w7 ⟨rfl, ⟨ov7, hbs7⟩, hb7⟩; rw [HE.out]; have HBS7 := Lib.hid hbs7; have hcell7 : w7.cell? ⟨tb, tof + j, none⟩ = some (.string d) := (hb7.cell (p := ⟨tb, tof + j, none⟩) htb3).trans hcell; have HB7 := Lib.hid hb7; have htb7 : tb < w7.heap.size := Nat.lt_of_lt_of_le hBc hb7.size; have hz7 : w4.heap.size ≤ w7.heap.size := Nat.le_trans hsz hb7.size; clear hbs7 hb7)
            | (at_builtin; refine wpList_append_own_at _ rfl _ _ 28 rfl w4.heap.size 9 i0 (.string ⟨#[]⟩) 1 16 Tryz.underlying28 hi0 hz0 hi1_ hi2_ rfl (by decide) _ _ _ rfl ((HBS7.out.rowN HN.out).alloc _) ⟨w7.heap.size, 0, none⟩ 1 1 [.string d] rfl rfl (app_src1 _ _ _) (one_str _) (by unfold maxLen; omega) (by omega) (by first | omega | (simp; omega)) ?_; intro v' w8 hown8 hgrow8 _ hat8; replace hat8 : v'.ownBlock = (Value.slice va N vc).ownBlock ∨ v'.ownBlock = some (w7.alloc (.cells #[.string d] 9)).heap.size := hat8; replace hgrow8 : (w7.alloc (.cells #[.string d] 9)).grownBy w8 (Value.slice va N vc).ownBlock := hgrow8; obtain ⟨va8, vc8, rfl⟩ := own_slice hown8; have HB8 : Hid (Beside w3.heap.size w4.heap.size w8 B k.toNat (stepO x d) ov7 (.slice va8 (N + 1) vc8) (x.os ++ [d])) := (HBS7.out.grow hBl hown8 hgrow8 hat8 rfl HN.out); have HW8 : Hid (Below w3.heap.size w3 w8) := Below.trans (Below.trans hbw.out HB7.out) (beside_below HBS7.out.row hgrow8 BW.out.size (Nat.le_trans BW.out.size (Nat.le_trans hsz HB7.out.size))); have hz8 : w4.heap.size ≤ w8.heap.size := (by have g1 := hgrow8.size; have g2 := HB7.out.size; simp at g1; omega); clear hat8 hgrow8 hown8))
          go_roundw
          case rel => exact ⟨j + 1, N + 1, ov7, va8, vc8, by omega, by omega, by go_num, rfl, HW8, hz8, by unfold Hid; rw [HTK.out, HS.out, List.length_append, HN.out]; rfl, by unfold Hid; rw [HTK.out, HS.out]; exact HB8.out⟩
          case measure => simp [intOf]; omega
        · have kE : (E == 0) = false := by simpa using hE0
          have HS : Hid ((stepO x d).os = x.os) := step_os_no (by rw [hE]; exact hE0)
          clear hE
          go_wp2_with (first
            | (go_at_call 21; refine Calls.mono (hbs.out.step d h93 (HB.out.below (Below.trans BW3.out (hbw.out.mono BW3.out.size)))) ?_; rintro e w7 ⟨rfl, ⟨ov7, hbs7⟩, hb7⟩; rw [HE.out]; have HBS7 := Lib.hid hbs7; have hcell7 : w7.cell? ⟨tb, tof + j, none⟩ = some (.string d) := (hb7.cell (p := ⟨tb, tof + j, none⟩) htb3).trans hcell; have HB7 := Lib.hid hb7; have htb7 : tb < w7.heap.size := Nat.lt_of_lt_of_le hBc hb7.size; have hz7 : w4.heap.size ≤ w7.heap.size := Nat.le_trans hsz hb7.size; clear hbs7 hb7))
          go_roundw
          case rel => exact ⟨j + 1, N, ov7, va, vc, by omega, by omega, by go_num, rfl, Below.trans hbw.out (HB7.out.mono (Nat.le_refl _)), Nat.le_trans hsz HB7.out.size, by unfold Hid; rw [HTK.out, HS.out, HN.out], by unfold Hid; rw [HTK.out, HS.out]; exact HBS7.out⟩
          case measure => simp [intOf]; omega
      · have k3 : decide ((j : Int) < 40) = false := decide_eq_false (by omega)
        have hQ : Hid (Below w.heap.size w wr) := Below.trans BW3.out (hbw.out.mono BW3.out.size)
        obtain ⟨x, hx⟩ : ∃ x, manyO (newO k.toNat c) (l.take j) = x := ⟨_, rfl⟩
        rw [hx] at hN hbs
        have hcx : x.c = c := by rw [← hx]; exact manyO_c _ _
        have hmk := hbs.out.made
        have hok := hmk.ok
        have hfew := hmk.few
        have hrun : runs (newO k.toNat c) x.os = some x := hcx ▸ hmk.run
        obtain ⟨wh, hwh⟩ : ∃ wh, minF x.os = wh := ⟨_, rfl⟩
        obtain ⟨q1, q2⟩ := writeE_fit hok hfew
        have HTB : Hid (TextsAt wr (.slice va N vc) x.os) := own_texts hbs.out.row
        have HO : Hid (OffS w3.heap.size wr B k.toNat x) := hbs.out.toS
        have HWT : Hid (∀ y, TextsAt y (.slice va N vc) x.os → Env y → Gives Tryz.prog 23 #[.slice va N vc] y (.tuple #[.string wh, .int .i64 0])) := fun y h he => by
          have := Write_calls _ x.os y h he
          rwa [q1, q2, hwh] at this
        have hNL : x.os.length = N := hN.out
        obtain ⟨U, hU⟩ : ∃ U, IntKind.u64.wrap p = U := ⟨_, rfl⟩
        have hU0 : 0 ≤ U ∧ U < 18446744073709551616 := by rw [← hU]; exact u64_range p
        obtain ⟨K, hK1, hK2⟩ : ∃ K : Nat, U.tmod ((N : Int) + 1) = (K : Int) ∧ K ≤ N := by
          refine ⟨(U.tmod ((N : Int) + 1)).toNat, ?_, ?_⟩
          · have := Int.tmod_nonneg ((N : Int) + 1) hU0.1; omega
          · have := Int.tmod_lt_of_pos U (b := (N : Int) + 1) (by omega); omega
        have hN80 : N ≤ 80 := by rw [← hNL]; exact hfew
        obtain ⟨bg, hbg⟩ : ∃ bg, minF (x.os.take K) = bg := ⟨_, rfl⟩
        obtain ⟨r1, r2⟩ := writeE_fit (take_ok hok K) (by rw [List.length_take]; omega)
        have HWK : Hid (∀ y, TextsAt y (.slice va K K) (x.os.take K) → Env y → Gives Tryz.prog 23 #[.slice va K K] y (.tuple #[.string bg, .int .i64 0])) := fun y h he => by
          have := Write_calls _ (x.os.take K) y h he
          rwa [r1, r2, hbg] at this
        have hKL : K ≤ x.os.length := by omega
        have hpo := part_os hrun rfl hKL
        have HYR : Hid (runs (newO k.toNat c) (partF (newO k.toNat c) x.os K).os = some (partF (newO k.toNat c) x.os K)) := by
          show _ = _
          rw [hpo]; exact part_run hrun hKL
        have HKM : Hid (minF (partF (newO k.toNat c) x.os K).os = bg) := by show _ = _; rw [hpo]; exact hbg
        have HYL : Hid ((partF (newO k.toNat c) x.os K).os.length = K) := by show _ = _; rw [hpo, List.length_take]; omega
        have HXR : Hid (runs (newO k.toNat c) x.os = some x) := hrun
        have HXL : Hid (x.os.length = N) := hNL
        have HLN : Hid (x.os.length = N) := hNL
        have HOS : Hid (minF x.os = wh) := hwh
        have HST : Hid (∀ i, i < N → stepE (partF (newO k.toNat c) x.os i) (gi x.os default i) = 0 ∧ stepO (partF (newO k.toNat c) x.os i) (gi x.os default i) = partF (newO k.toNat c) x.os (i + 1)) := fun i hi => part_step hrun (by omega)
        have HEND : Hid (partF (newO k.toNat c) x.os N = x) := by show _ = _; rw [← hNL]; exact part_end hrun
        obtain ⟨va', vc', hv, hcap, hmax, -⟩ := id HTB.out
        injection hv with hv1 hv2 hv3
        subst hv1 hv3
        have hKc : K ≤ vc := by omega
        have hNc : N ≤ vc := by omega
        have e4q : Hid (∀ o, wr.cell? ⟨w.heap.size, o, none⟩ = (w.alloc (.cells #[.int .i64 k, .int .i64 c.first, .slice fa c.free.length fc, .slice sa c.still.length sc] 27)).cell? ⟨w.heap.size, o, none⟩) := fun o => (hbw.out.cell (p := ⟨w.heap.size, o, none⟩) (by exact hy3)).trans (e40.out o)
        have hxq : w.heap.size < wr.heap.size := by have := hbw.out.size; omega
        have hw1 : IntKind.i64.wrap ((N : Int) + 1) = (N : Int) + 1 := IntWalk.i64_in _ (by omega)
        have hw2 : IntKind.u64.wrap ((N : Int) + 1) = (N : Int) + 1 := IntWalk.u64_in _ ⟨by omega, by omega⟩
        have hw3 : IntKind.i64.wrap (K : Int) = (K : Int) := IntWalk.i64_in _ (by omega)
        have kz : ((N : Int) + 1 == 0) = false := by simp; omega
        clear hbs hmk hok hfew hrun hwh q1 q2 hbg r1 r2 hpo hN hv2 hx hcx hNL
        go_upto_region 17 with (first
          | (go_at_call 23; (with_reducible refine (HWT.out _ HTB.out (HB.out.below hQ.out).env).use ?_); intro w5 hb5 hz5 hc5 hf5; clear hc5 hf5 hz5; replace e4q : Hid (∀ o, w5.cell? ⟨w.heap.size, o, none⟩ = (w.alloc (.cells #[.int .i64 k, .int .i64 c.first, .slice fa c.free.length fc, .slice sa c.still.length sc] 27)).cell? ⟨w.heap.size, o, none⟩) := fun o => (hb5.cell (p := ⟨w.heap.size, o, none⟩) hxq).trans (e4q.out o); replace hxq : w.heap.size < w5.heap.size := Nat.lt_of_lt_of_le hxq hb5.size; replace HTB := Lib.hid (HTB.out.below hb5); replace HO := Lib.hid (HO.out.below hb5); replace hQ := Lib.hid (Below.trans hQ.out (hb5.mono hQ.out.size)); clear hb5)
          | (go_at_call 20; (with_reducible refine (HO.out.min HOS.out).use ?_); intro w6 hb6 hz6 hc6 hf6; clear hc6 hf6 hz6; replace e4q : Hid (∀ o, w6.cell? ⟨w.heap.size, o, none⟩ = (w.alloc (.cells #[.int .i64 k, .int .i64 c.first, .slice fa c.free.length fc, .slice sa c.still.length sc] 27)).cell? ⟨w.heap.size, o, none⟩) := fun o => (hb6.cell (p := ⟨w.heap.size, o, none⟩) hxq).trans (e4q.out o); replace hxq : w.heap.size < w6.heap.size := Nat.lt_of_lt_of_le hxq hb6.size; replace HTB := Lib.hid (HTB.out.below hb6); replace HO := Lib.hid (HO.out.below hb6); replace hQ := Lib.hid (Below.trans hQ.out (hb6.mono hQ.out.size)); clear hb6))
        go_upto_region 19 with (first
          | (go_at_call 23; (with_reducible refine (HWK.out _ (HTB.out.first hKL) (HB.out.below hQ.out).env).use ?_); intro w9 hb9 hz9 hc9 hf9; clear hc9 hf9 hz9; replace e4q : Hid (∀ o, w9.cell? ⟨w.heap.size, o, none⟩ = (w.alloc (.cells #[.int .i64 k, .int .i64 c.first, .slice fa c.free.length fc, .slice sa c.still.length sc] 27)).cell? ⟨w.heap.size, o, none⟩) := fun o => (hb9.cell (p := ⟨w.heap.size, o, none⟩) hxq).trans (e4q.out o); replace hxq : w.heap.size < w9.heap.size := Nat.lt_of_lt_of_le hxq hb9.size; replace HTB := Lib.hid (HTB.out.below hb9); replace HO := Lib.hid (HO.out.below hb9); replace hQ := Lib.hid (Below.trans hQ.out (hb9.mono hQ.out.size)); clear hb9; have e4x := e4q.out))
        go_upto_region 23 with (first
          | (go_at_call 25; (with_reducible refine (Replay_at HKM.out (HC.out.below hQ.out) (HB.out.below hQ.out) HZ.out HYR.out).mono ?_); rintro e w10 ⟨B2, rfl, ho10, hb10⟩; rw [HYL.out]; have HP := Lib.hid ho10; have HBA := Lib.hid hb10; have HOA := Lib.hid HO.out; have HTA := Lib.hid HTB.out; have hQA := Lib.hid hQ.out; clear ho10 e4x; replace e4q : Hid (∀ o, w10.cell? ⟨w.heap.size, o, none⟩ = (w.alloc (.cells #[.int .i64 k, .int .i64 c.first, .slice fa c.free.length fc, .slice sa c.still.length sc] 27)).cell? ⟨w.heap.size, o, none⟩) := fun o => (hb10.cell (p := ⟨w.heap.size, o, none⟩) hxq).trans (e4q.out o); replace hxq : w.heap.size < w10.heap.size := Nat.lt_of_lt_of_le hxq hb10.size; replace HTB := Lib.hid (HTB.out.below hb10); replace HO := Lib.hid (HO.out.below hb10); replace hQ := Lib.hid (Below.trans hQ.out (hb10.mono hQ.out.size)); clear hb10; have e4x := e4q.out)
          | (go_at_call 25; (with_reducible refine (Replay_at HOS.out (HC.out.below hQ.out) (HB.out.below hQ.out) HZ.out HXR.out).mono ?_); rintro e w11 ⟨B3, rfl, ho11, hb11⟩; rw [HXL.out]; have HR3 := Lib.hid ho11; replace HBA := Lib.hid (Below.trans HBA.out (hb11.mono HBA.out.size)); clear ho11 e4x; replace e4q : Hid (∀ o, w11.cell? ⟨w.heap.size, o, none⟩ = (w.alloc (.cells #[.int .i64 k, .int .i64 c.first, .slice fa c.free.length fc, .slice sa c.still.length sc] 27)).cell? ⟨w.heap.size, o, none⟩) := fun o => (hb11.cell (p := ⟨w.heap.size, o, none⟩) hxq).trans (e4q.out o); replace hxq : w.heap.size < w11.heap.size := Nat.lt_of_lt_of_le hxq hb11.size; replace HTB := Lib.hid (HTB.out.below hb11); replace HO := Lib.hid (HO.out.below hb11); replace HP := Lib.hid (HP.out.below hb11); replace hQ := Lib.hid (Below.trans hQ.out (hb11.mono hQ.out.size)); clear hb11)
          | (go_at_call 20; (with_reducible refine (HP.out.min HKM.out).use ?_); intro w12 hb12 hz12 hc12 hf12; clear hc12 hf12 hz12; replace HBA := Lib.hid (Below.trans HBA.out (hb12.mono HBA.out.size)); replace e4q : Hid (∀ o, w12.cell? ⟨w.heap.size, o, none⟩ = (w.alloc (.cells #[.int .i64 k, .int .i64 c.first, .slice fa c.free.length fc, .slice sa c.still.length sc] 27)).cell? ⟨w.heap.size, o, none⟩) := fun o => (hb12.cell (p := ⟨w.heap.size, o, none⟩) hxq).trans (e4q.out o); replace hxq : w.heap.size < w12.heap.size := Nat.lt_of_lt_of_le hxq hb12.size; replace HTB := Lib.hid (HTB.out.below hb12); replace HO := Lib.hid (HO.out.below hb12); replace HP := Lib.hid (HP.out.below hb12); replace HR3 := Lib.hid (HR3.out.below hb12); replace hQ := Lib.hid (Below.trans hQ.out (hb12.mono hQ.out.size)); clear hb12)
          | (go_at_call 43; (with_reducible refine (Audit_calls HP.out (HB.out.below hQ.out)).use ?_); intro w13 hb13 hz13 hc13 hf13; clear hc13 hf13 hz13; replace HBA := Lib.hid (Below.trans HBA.out (hb13.mono HBA.out.size)); replace e4q : Hid (∀ o, w13.cell? ⟨w.heap.size, o, none⟩ = (w.alloc (.cells #[.int .i64 k, .int .i64 c.first, .slice fa c.free.length fc, .slice sa c.still.length sc] 27)).cell? ⟨w.heap.size, o, none⟩) := fun o => (hb13.cell (p := ⟨w.heap.size, o, none⟩) hxq).trans (e4q.out o); replace hxq : w.heap.size < w13.heap.size := Nat.lt_of_lt_of_le hxq hb13.size; replace HTB := Lib.hid (HTB.out.below hb13); replace HO := Lib.hid (HO.out.below hb13); replace HP := Lib.hid (HP.out.below hb13); replace HR3 := Lib.hid (HR3.out.below hb13); replace hQ := Lib.hid (Below.trans hQ.out (hb13.mono hQ.out.size)); clear hb13)
          | (go_at_call 43; (with_reducible refine (Audit_calls HR3.out (HB.out.below hQ.out)).use ?_); intro w14 hb14 hz14 hc14 hf14; clear hc14 hf14 hz14; replace HBA := Lib.hid (Below.trans HBA.out (hb14.mono HBA.out.size)); replace e4q : Hid (∀ o, w14.cell? ⟨w.heap.size, o, none⟩ = (w.alloc (.cells #[.int .i64 k, .int .i64 c.first, .slice fa c.free.length fc, .slice sa c.still.length sc] 27)).cell? ⟨w.heap.size, o, none⟩) := fun o => (hb14.cell (p := ⟨w.heap.size, o, none⟩) hxq).trans (e4q.out o); replace hxq : w.heap.size < w14.heap.size := Nat.lt_of_lt_of_le hxq hb14.size; replace HTB := Lib.hid (HTB.out.below hb14); replace HO := Lib.hid (HO.out.below hb14); replace HP := Lib.hid (HP.out.below hb14); replace HR3 := Lib.hid (HR3.out.below hb14); replace hQ := Lib.hid (Below.trans hQ.out (hb14.mono hQ.out.size)); clear hb14)
          | (go_at_call 45; (with_reducible refine (sameOffice_calls HR3.out HO.out).use ?_); intro w15 hb15 hz15 hc15 hf15; clear hc15 hf15 hz15; replace HBA := Lib.hid (Below.trans HBA.out (hb15.mono HBA.out.size)); replace e4q : Hid (∀ o, w15.cell? ⟨w.heap.size, o, none⟩ = (w.alloc (.cells #[.int .i64 k, .int .i64 c.first, .slice fa c.free.length fc, .slice sa c.still.length sc] 27)).cell? ⟨w.heap.size, o, none⟩) := fun o => (hb15.cell (p := ⟨w.heap.size, o, none⟩) hxq).trans (e4q.out o); replace hxq : w.heap.size < w15.heap.size := Nat.lt_of_lt_of_le hxq hb15.size; replace HTB := Lib.hid (HTB.out.below hb15); replace HO := Lib.hid (HO.out.below hb15); replace HP := Lib.hid (HP.out.below hb15); replace hQ := Lib.hid (Below.trans hQ.out (hb15.mono hQ.out.size)); clear hb15; clear HR3 e4q))
        have HP2 : Hid (OffS w9.heap.size w15 B2 k.toNat (partF (newO k.toNat c) x.os K)) := HP.out
        clear HTB HO HP HWT HWK HYR HKM HYL HXR HXL HOS
        go_wp2
        go_loopw [20] (fun i wr => ∃ (i0 : Nat), K ≤ i0 ∧ i0 ≤ N ∧ i = .int .i64 i0 ∧ Hid (Below w9.heap.size w9 wr) ∧ Hid (OffS w9.heap.size wr B2 k.toNat (partF (newO k.toNat c) x.os i0))) (fun i _ => 80 - (intOf i).toNat)
        case atStart => exact ⟨K, Nat.le_refl _, hK2, rfl, HBA, HP2⟩
        case round =>
          obtain ⟨i0, hKi, hiN, rfl, hba, hp⟩ := hrel
          by_cases hi : i0 < N
          · have q2 : decide ((i0 : Int) < (N : Int)) = true := decide_eq_true (by omega)
            obtain ⟨s1, s2⟩ := HST.out i0 hi
            obtain ⟨tb, tof, rfl, hBc, hcell⟩ := (HTA.out.below hba.out).cellAt (m := i0) (by rw [HLN.out]; exact hi)
            obtain ⟨d, hd⟩ : ∃ d, gi x.os default i0 = d := ⟨_, rfl⟩
            rw [hd] at s1 s2 hcell
            have HS1 := Lib.hid s1
            have HS2 := Lib.hid s2
            clear hd s1 s2
            have hw6 : IntKind.i64.wrap ((i0 : Int) + 1) = (i0 : Int) + 1 := IntWalk.i64_in _ (by omega)
            go_wp2_with (go_at_call 21; (with_reducible refine (Do_step d hp.out (Nat.le_trans h9 hQA.out.size) (HB.out.below (Below.trans hQA.out (hba.out.mono hQA.out.size)))).mono ?_); rintro e w16 ⟨rfl, ho16, hb16, -, -⟩; rw [HS1.out]; rw [HS2.out] at ho16; have HP16 := Lib.hid ho16; have HB16 := Lib.hid hb16; clear ho16 hb16)
            go_roundw
            case rel => exact ⟨i0 + 1, by omega, by omega, by go_num, Below.trans hba.out HB16.out, HP16⟩
            case measure => simp [intOf]; omega
          · have q2 : decide ((i0 : Int) < (N : Int)) = false := decide_eq_false (by omega)
            have hiN2 : i0 = N := by omega
            have HPE : Hid (OffS w9.heap.size wr B2 k.toNat x) := by
              have h1 := hp.out
              rw [hiN2, HEND.out] at h1
              exact h1
            clear hp hiN2
            go_wp2_with (go_at_call 45; (with_reducible refine (sameOffice_calls HPE.out (HOA.out.below hba.out)).use ?_); intro w17 hb17 hz17 hc17 hf17; clear hc17 hf17 hz17; have HQE : Hid (Below w.heap.size w w17) := Below.trans (Below.trans hQA.out (hba.out.mono hQA.out.size)) (hb17.mono (Below.trans hQA.out (hba.out.mono hQA.out.size)).size); clear hb17)
            go_ret
            exact ⟨rfl, HQE.out⟩
    · have k2 : decide ((j : Int) < (X : Int)) = false := decide_eq_false (by omega)
      have hQ : Hid (Below w.heap.size w wr) := Below.trans BW3.out (hbw.out.mono BW3.out.size)
      obtain ⟨x, hx⟩ : ∃ x, manyO (newO k.toNat c) (l.take j) = x := ⟨_, rfl⟩
      rw [hx] at hN hbs
      have hcx : x.c = c := by rw [← hx]; exact manyO_c _ _
      have hmk := hbs.out.made
      have hok := hmk.ok
      have hfew := hmk.few
      have hrun : runs (newO k.toNat c) x.os = some x := hcx ▸ hmk.run
      obtain ⟨wh, hwh⟩ : ∃ wh, minF x.os = wh := ⟨_, rfl⟩
      obtain ⟨q1, q2⟩ := writeE_fit hok hfew
      have HTB : Hid (TextsAt wr (.slice va N vc) x.os) := own_texts hbs.out.row
      have HO : Hid (OffS w3.heap.size wr B k.toNat x) := hbs.out.toS
      have HWT : Hid (∀ y, TextsAt y (.slice va N vc) x.os → Env y → Gives Tryz.prog 23 #[.slice va N vc] y (.tuple #[.string wh, .int .i64 0])) := fun y h he => by
        have := Write_calls _ x.os y h he
        rwa [q1, q2, hwh] at this
      have hNL : x.os.length = N := hN.out
      obtain ⟨U, hU⟩ : ∃ U, IntKind.u64.wrap p = U := ⟨_, rfl⟩
      have hU0 : 0 ≤ U ∧ U < 18446744073709551616 := by rw [← hU]; exact u64_range p
      obtain ⟨K, hK1, hK2⟩ : ∃ K : Nat, U.tmod ((N : Int) + 1) = (K : Int) ∧ K ≤ N := by
        refine ⟨(U.tmod ((N : Int) + 1)).toNat, ?_, ?_⟩
        · have := Int.tmod_nonneg ((N : Int) + 1) hU0.1; omega
        · have := Int.tmod_lt_of_pos U (b := (N : Int) + 1) (by omega); omega
      have hN80 : N ≤ 80 := by rw [← hNL]; exact hfew
      obtain ⟨bg, hbg⟩ : ∃ bg, minF (x.os.take K) = bg := ⟨_, rfl⟩
      obtain ⟨r1, r2⟩ := writeE_fit (take_ok hok K) (by rw [List.length_take]; omega)
      have HWK : Hid (∀ y, TextsAt y (.slice va K K) (x.os.take K) → Env y → Gives Tryz.prog 23 #[.slice va K K] y (.tuple #[.string bg, .int .i64 0])) := fun y h he => by
        have := Write_calls _ (x.os.take K) y h he
        rwa [r1, r2, hbg] at this
      have hKL : K ≤ x.os.length := by omega
      have hpo := part_os hrun rfl hKL
      have HYR : Hid (runs (newO k.toNat c) (partF (newO k.toNat c) x.os K).os = some (partF (newO k.toNat c) x.os K)) := by
        show _ = _
        rw [hpo]; exact part_run hrun hKL
      have HKM : Hid (minF (partF (newO k.toNat c) x.os K).os = bg) := by show _ = _; rw [hpo]; exact hbg
      have HYL : Hid ((partF (newO k.toNat c) x.os K).os.length = K) := by show _ = _; rw [hpo, List.length_take]; omega
      have HXR : Hid (runs (newO k.toNat c) x.os = some x) := hrun
      have HXL : Hid (x.os.length = N) := hNL
      have HLN : Hid (x.os.length = N) := hNL
      have HOS : Hid (minF x.os = wh) := hwh
      have HST : Hid (∀ i, i < N → stepE (partF (newO k.toNat c) x.os i) (gi x.os default i) = 0 ∧ stepO (partF (newO k.toNat c) x.os i) (gi x.os default i) = partF (newO k.toNat c) x.os (i + 1)) := fun i hi => part_step hrun (by omega)
      have HEND : Hid (partF (newO k.toNat c) x.os N = x) := by show _ = _; rw [← hNL]; exact part_end hrun
      obtain ⟨va', vc', hv, hcap, hmax, -⟩ := id HTB.out
      injection hv with hv1 hv2 hv3
      subst hv1 hv3
      have hKc : K ≤ vc := by omega
      have hNc : N ≤ vc := by omega
      have e4q : Hid (∀ o, wr.cell? ⟨w.heap.size, o, none⟩ = (w.alloc (.cells #[.int .i64 k, .int .i64 c.first, .slice fa c.free.length fc, .slice sa c.still.length sc] 27)).cell? ⟨w.heap.size, o, none⟩) := fun o => (hbw.out.cell (p := ⟨w.heap.size, o, none⟩) (by exact hy3)).trans (e40.out o)
      have hxq : w.heap.size < wr.heap.size := by have := hbw.out.size; omega
      have hw1 : IntKind.i64.wrap ((N : Int) + 1) = (N : Int) + 1 := IntWalk.i64_in _ (by omega)
      have hw2 : IntKind.u64.wrap ((N : Int) + 1) = (N : Int) + 1 := IntWalk.u64_in _ ⟨by omega, by omega⟩
      have hw3 : IntKind.i64.wrap (K : Int) = (K : Int) := IntWalk.i64_in _ (by omega)
      have kz : ((N : Int) + 1 == 0) = false := by simp; omega
      clear hbs hmk hok hfew hrun hwh q1 q2 hbg r1 r2 hpo hN hv2 hx hcx hNL
      go_upto_region 17 with (first
        | (go_at_call 23; (with_reducible refine (HWT.out _ HTB.out (HB.out.below hQ.out).env).use ?_); intro w5 hb5 hz5 hc5 hf5; clear hc5 hf5 hz5; replace e4q : Hid (∀ o, w5.cell? ⟨w.heap.size, o, none⟩ = (w.alloc (.cells #[.int .i64 k, .int .i64 c.first, .slice fa c.free.length fc, .slice sa c.still.length sc] 27)).cell? ⟨w.heap.size, o, none⟩) := fun o => (hb5.cell (p := ⟨w.heap.size, o, none⟩) hxq).trans (e4q.out o); replace hxq : w.heap.size < w5.heap.size := Nat.lt_of_lt_of_le hxq hb5.size; replace HTB := Lib.hid (HTB.out.below hb5); replace HO := Lib.hid (HO.out.below hb5); replace hQ := Lib.hid (Below.trans hQ.out (hb5.mono hQ.out.size)); clear hb5)
        | (go_at_call 20; (with_reducible refine (HO.out.min HOS.out).use ?_); intro w6 hb6 hz6 hc6 hf6; clear hc6 hf6 hz6; replace e4q : Hid (∀ o, w6.cell? ⟨w.heap.size, o, none⟩ = (w.alloc (.cells #[.int .i64 k, .int .i64 c.first, .slice fa c.free.length fc, .slice sa c.still.length sc] 27)).cell? ⟨w.heap.size, o, none⟩) := fun o => (hb6.cell (p := ⟨w.heap.size, o, none⟩) hxq).trans (e4q.out o); replace hxq : w.heap.size < w6.heap.size := Nat.lt_of_lt_of_le hxq hb6.size; replace HTB := Lib.hid (HTB.out.below hb6); replace HO := Lib.hid (HO.out.below hb6); replace hQ := Lib.hid (Below.trans hQ.out (hb6.mono hQ.out.size)); clear hb6))
      go_upto_region 19 with (first
        | (go_at_call 23; (with_reducible refine (HWK.out _ (HTB.out.first hKL) (HB.out.below hQ.out).env).use ?_); intro w9 hb9 hz9 hc9 hf9; clear hc9 hf9 hz9; replace e4q : Hid (∀ o, w9.cell? ⟨w.heap.size, o, none⟩ = (w.alloc (.cells #[.int .i64 k, .int .i64 c.first, .slice fa c.free.length fc, .slice sa c.still.length sc] 27)).cell? ⟨w.heap.size, o, none⟩) := fun o => (hb9.cell (p := ⟨w.heap.size, o, none⟩) hxq).trans (e4q.out o); replace hxq : w.heap.size < w9.heap.size := Nat.lt_of_lt_of_le hxq hb9.size; replace HTB := Lib.hid (HTB.out.below hb9); replace HO := Lib.hid (HO.out.below hb9); replace hQ := Lib.hid (Below.trans hQ.out (hb9.mono hQ.out.size)); clear hb9; have e4x := e4q.out))
      go_upto_region 23 with (first
        | (go_at_call 25; (with_reducible refine (Replay_at HKM.out (HC.out.below hQ.out) (HB.out.below hQ.out) HZ.out HYR.out).mono ?_); rintro e w10 ⟨B2, rfl, ho10, hb10⟩; rw [HYL.out]; have HP := Lib.hid ho10; have HBA := Lib.hid hb10; have HOA := Lib.hid HO.out; have HTA := Lib.hid HTB.out; have hQA := Lib.hid hQ.out; clear ho10 e4x; replace e4q : Hid (∀ o, w10.cell? ⟨w.heap.size, o, none⟩ = (w.alloc (.cells #[.int .i64 k, .int .i64 c.first, .slice fa c.free.length fc, .slice sa c.still.length sc] 27)).cell? ⟨w.heap.size, o, none⟩) := fun o => (hb10.cell (p := ⟨w.heap.size, o, none⟩) hxq).trans (e4q.out o); replace hxq : w.heap.size < w10.heap.size := Nat.lt_of_lt_of_le hxq hb10.size; replace HTB := Lib.hid (HTB.out.below hb10); replace HO := Lib.hid (HO.out.below hb10); replace hQ := Lib.hid (Below.trans hQ.out (hb10.mono hQ.out.size)); clear hb10; have e4x := e4q.out)
        | (go_at_call 25; (with_reducible refine (Replay_at HOS.out (HC.out.below hQ.out) (HB.out.below hQ.out) HZ.out HXR.out).mono ?_); rintro e w11 ⟨B3, rfl, ho11, hb11⟩; rw [HXL.out]; have HR3 := Lib.hid ho11; replace HBA := Lib.hid (Below.trans HBA.out (hb11.mono HBA.out.size)); clear ho11 e4x; replace e4q : Hid (∀ o, w11.cell? ⟨w.heap.size, o, none⟩ = (w.alloc (.cells #[.int .i64 k, .int .i64 c.first, .slice fa c.free.length fc, .slice sa c.still.length sc] 27)).cell? ⟨w.heap.size, o, none⟩) := fun o => (hb11.cell (p := ⟨w.heap.size, o, none⟩) hxq).trans (e4q.out o); replace hxq : w.heap.size < w11.heap.size := Nat.lt_of_lt_of_le hxq hb11.size; replace HTB := Lib.hid (HTB.out.below hb11); replace HO := Lib.hid (HO.out.below hb11); replace HP := Lib.hid (HP.out.below hb11); replace hQ := Lib.hid (Below.trans hQ.out (hb11.mono hQ.out.size)); clear hb11)
        | (go_at_call 20; (with_reducible refine (HP.out.min HKM.out).use ?_); intro w12 hb12 hz12 hc12 hf12; clear hc12 hf12 hz12; replace HBA := Lib.hid (Below.trans HBA.out (hb12.mono HBA.out.size)); replace e4q : Hid (∀ o, w12.cell? ⟨w.heap.size, o, none⟩ = (w.alloc (.cells #[.int .i64 k, .int .i64 c.first, .slice fa c.free.length fc, .slice sa c.still.length sc] 27)).cell? ⟨w.heap.size, o, none⟩) := fun o => (hb12.cell (p := ⟨w.heap.size, o, none⟩) hxq).trans (e4q.out o); replace hxq : w.heap.size < w12.heap.size := Nat.lt_of_lt_of_le hxq hb12.size; replace HTB := Lib.hid (HTB.out.below hb12); replace HO := Lib.hid (HO.out.below hb12); replace HP := Lib.hid (HP.out.below hb12); replace HR3 := Lib.hid (HR3.out.below hb12); replace hQ := Lib.hid (Below.trans hQ.out (hb12.mono hQ.out.size)); clear hb12)
        | (go_at_call 43; (with_reducible refine (Audit_calls HP.out (HB.out.below hQ.out)).use ?_); intro w13 hb13 hz13 hc13 hf13; clear hc13 hf13 hz13; replace HBA := Lib.hid (Below.trans HBA.out (hb13.mono HBA.out.size)); replace e4q : Hid (∀ o, w13.cell? ⟨w.heap.size, o, none⟩ = (w.alloc (.cells #[.int .i64 k, .int .i64 c.first, .slice fa c.free.length fc, .slice sa c.still.length sc] 27)).cell? ⟨w.heap.size, o, none⟩) := fun o => (hb13.cell (p := ⟨w.heap.size, o, none⟩) hxq).trans (e4q.out o); replace hxq : w.heap.size < w13.heap.size := Nat.lt_of_lt_of_le hxq hb13.size; replace HTB := Lib.hid (HTB.out.below hb13); replace HO := Lib.hid (HO.out.below hb13); replace HP := Lib.hid (HP.out.below hb13); replace HR3 := Lib.hid (HR3.out.below hb13); replace hQ := Lib.hid (Below.trans hQ.out (hb13.mono hQ.out.size)); clear hb13)
        | (go_at_call 43; (with_reducible refine (Audit_calls HR3.out (HB.out.below hQ.out)).use ?_); intro w14 hb14 hz14 hc14 hf14; clear hc14 hf14 hz14; replace HBA := Lib.hid (Below.trans HBA.out (hb14.mono HBA.out.size)); replace e4q : Hid (∀ o, w14.cell? ⟨w.heap.size, o, none⟩ = (w.alloc (.cells #[.int .i64 k, .int .i64 c.first, .slice fa c.free.length fc, .slice sa c.still.length sc] 27)).cell? ⟨w.heap.size, o, none⟩) := fun o => (hb14.cell (p := ⟨w.heap.size, o, none⟩) hxq).trans (e4q.out o); replace hxq : w.heap.size < w14.heap.size := Nat.lt_of_lt_of_le hxq hb14.size; replace HTB := Lib.hid (HTB.out.below hb14); replace HO := Lib.hid (HO.out.below hb14); replace HP := Lib.hid (HP.out.below hb14); replace HR3 := Lib.hid (HR3.out.below hb14); replace hQ := Lib.hid (Below.trans hQ.out (hb14.mono hQ.out.size)); clear hb14)
        | (go_at_call 45; (with_reducible refine (sameOffice_calls HR3.out HO.out).use ?_); intro w15 hb15 hz15 hc15 hf15; clear hc15 hf15 hz15; replace HBA := Lib.hid (Below.trans HBA.out (hb15.mono HBA.out.size)); replace e4q : Hid (∀ o, w15.cell? ⟨w.heap.size, o, none⟩ = (w.alloc (.cells #[.int .i64 k, .int .i64 c.first, .slice fa c.free.length fc, .slice sa c.still.length sc] 27)).cell? ⟨w.heap.size, o, none⟩) := fun o => (hb15.cell (p := ⟨w.heap.size, o, none⟩) hxq).trans (e4q.out o); replace hxq : w.heap.size < w15.heap.size := Nat.lt_of_lt_of_le hxq hb15.size; replace HTB := Lib.hid (HTB.out.below hb15); replace HO := Lib.hid (HO.out.below hb15); replace HP := Lib.hid (HP.out.below hb15); replace hQ := Lib.hid (Below.trans hQ.out (hb15.mono hQ.out.size)); clear hb15; clear HR3 e4q))
      have HP2 : Hid (OffS w9.heap.size w15 B2 k.toNat (partF (newO k.toNat c) x.os K)) := HP.out
      clear HTB HO HP HWT HWK HYR HKM HYL HXR HXL HOS
      go_wp2
      go_loopw [20] (fun i wr => ∃ (i0 : Nat), K ≤ i0 ∧ i0 ≤ N ∧ i = .int .i64 i0 ∧ Hid (Below w9.heap.size w9 wr) ∧ Hid (OffS w9.heap.size wr B2 k.toNat (partF (newO k.toNat c) x.os i0))) (fun i _ => 80 - (intOf i).toNat)
      case atStart => exact ⟨K, Nat.le_refl _, hK2, rfl, HBA, HP2⟩
      case round =>
        obtain ⟨i0, hKi, hiN, rfl, hba, hp⟩ := hrel
        by_cases hi : i0 < N
        · have q2 : decide ((i0 : Int) < (N : Int)) = true := decide_eq_true (by omega)
          obtain ⟨s1, s2⟩ := HST.out i0 hi
          obtain ⟨tb, tof, rfl, hBc, hcell⟩ := (HTA.out.below hba.out).cellAt (m := i0) (by rw [HLN.out]; exact hi)
          obtain ⟨d, hd⟩ : ∃ d, gi x.os default i0 = d := ⟨_, rfl⟩
          rw [hd] at s1 s2 hcell
          have HS1 := Lib.hid s1
          have HS2 := Lib.hid s2
          clear hd s1 s2
          have hw6 : IntKind.i64.wrap ((i0 : Int) + 1) = (i0 : Int) + 1 := IntWalk.i64_in _ (by omega)
          go_wp2_with (go_at_call 21; (with_reducible refine (Do_step d hp.out (Nat.le_trans h9 hQA.out.size) (HB.out.below (Below.trans hQA.out (hba.out.mono hQA.out.size)))).mono ?_); rintro e w16 ⟨rfl, ho16, hb16, -, -⟩; rw [HS1.out]; rw [HS2.out] at ho16; have HP16 := Lib.hid ho16; have HB16 := Lib.hid hb16; clear ho16 hb16)
          go_roundw
          case rel => exact ⟨i0 + 1, by omega, by omega, by go_num, Below.trans hba.out HB16.out, HP16⟩
          case measure => simp [intOf]; omega
        · have q2 : decide ((i0 : Int) < (N : Int)) = false := decide_eq_false (by omega)
          have hiN2 : i0 = N := by omega
          have HPE : Hid (OffS w9.heap.size wr B2 k.toNat x) := by
            have h1 := hp.out
            rw [hiN2, HEND.out] at h1
            exact h1
          clear hp hiN2
          go_wp2_with (go_at_call 45; (with_reducible refine (sameOffice_calls HPE.out (HOA.out.below hba.out)).use ?_); intro w17 hb17 hz17 hc17 hf17; clear hc17 hf17 hz17; have HQE : Hid (Below w.heap.size w w17) := Below.trans (Below.trans hQA.out (hba.out.mono hQA.out.size)) (hb17.mono (Below.trans hQA.out (hba.out.mono hQA.out.size)).size); clear hb17)
          go_ret
          exact ⟨rfl, HQE.out⟩
theorem topReplay_calls (v u : Value) (k : Int) (c : Cal) (l : List ByteArray) (p : Int) (w : World) (h : FirmAt w v k c) (hl : TextsAt w u l) (hb : Base w) :
    Gives Tryz.prog 14 #[v, u, .int .i64 p] w (.bool true) := by
  by_cases hno : largeB c = true ∨ 150 < l.length ∨ NewE k c ≠ 0
  · exact topReplay_early v u k c l p w h hl hb hno
  · refine topReplay_late v u k c l p w h hl hb ?_ (decide_eq_false fun e => hno (.inr (.inl e))) ?_
    · cases hh : largeB c
      · rfl
      · exact absurd (.inl hh) hno
    · exact Classical.byContradiction fun e => hno (.inr (.inr e))
end Go.Proofs.YthooacpfmjpdmaaGreatDoor
