/- Minutes read by package office. Conditions: the library's variables read as they were laid. -/
import Derived.Test.YthooacpfmjpdmaaGreatDoorOMin2
namespace Go.Proofs.YthooacpfmjpdmaaGreatDoor
open Go.RowKit

/-- What is read of a text, and its rest. -/
def readO (t : ByteArray) : List ByteArray := (readF 80 0 t.data.toList).1.map mkB
def readT (t : ByteArray) : ByteArray := mkB (readF 80 0 t.data.toList).2
def ReadR (t : ByteArray) (w : World) (e : Ending) (w' : World) : Prop :=
  ∃ v, e = .returned (.tuple #[v, .string (readT t)]) ∧ w'.ownsRow w.heap.size 9 1 v (readO t).length (cellsS (readO t)) ∧ Below w.heap.size w w'
/-- Where the reading stands: what was read, the sum, and the text that is left. -/
def ReadAt (t : ByteArray) (k : Nat) (acc : List ByteArray) (b : Nat) (M : ByteArray) : Prop :=
  readF 80 0 t.data.toList = (acc.map (·.data.toList) ++ (readF (80 - k) b M.data.toList).1, (readF (80 - k) b M.data.toList).2)
theorem map_mk2 (l : List ByteArray) : (l.map (·.data.toList)).map mkB = l := by
  rw [List.map_map]
  conv => rhs; rw [← List.map_id l]
  exact List.map_congr_left fun x _ => mkB_eq x
/-- The reading is over. -/
def ReadEnd (t : ByteArray) (acc : List ByteArray) (M : ByteArray) : Prop := readO t = acc ∧ readT t = M
theorem ReadAt.stop {t : ByteArray} {k : Nat} {acc : List ByteArray} {b : Nat} {M : ByteArray} (h : ReadAt t k acc b M) (hn : readF (80 - k) b M.data.toList = ([], M.data.toList)) : ReadEnd t acc M := by
  unfold ReadAt at h
  rw [hn] at h
  unfold ReadEnd readO readT
  rw [h]
  simp only [List.append_nil]
  exact ⟨map_mk2 acc, mkB_eq M⟩
theorem ReadR.mk {t : ByteArray} {w w' wr : World} {acc : List ByteArray} {M : ByteArray} {k : Nat} {va : Option Addr} {vc : Nat} (he : ReadEnd t acc M) (hk : acc.length = k) (how : wr.ownsRow w.heap.size 9 1 (.slice va k vc) k (cellsS acc)) (hb : Below w.heap.size w wr) (hb2 : Below wr.heap.size wr w') :
    ReadR t w (.returned (.tuple #[.slice va k vc, .string M])) w' := by
  obtain ⟨e1, e2⟩ := he
  refine ⟨_, by rw [e2], ?_, hb.trans (hb2.mono hb.size)⟩
  rw [e1, hk]
  exact own_below how hb2
theorem ReadAt.next {t : ByteArray} {k : Nat} {acc : List ByteArray} {b : Nat} {M o r : ByteArray} (h : ReadAt t k acc b M) (hk : k < 80) (ho : okB o.data.toList = true) (hM : M.data.toList = lineF b o.data.toList ++ r.data.toList) : ReadAt t (k + 1) (acc ++ [o]) (sumF b o.data.toList) r := by
  unfold ReadAt at h ⊢
  rw [h, hM, show 80 - k = (80 - (k + 1)) + 1 by omega, readF_line ho]
  simp
theorem readF_zero (b : Nat) (t : List UInt8) : readF 0 b t = ([], t) := rfl
/-- No line of an order stands first. -/
theorem no_line1 {b : Nat} {t : List UInt8} (h : (Lib.cut t [10]).2.2 = false) (k : Nat) : readF k b t = ([], t) := by
  cases k with
  | zero => rfl
  | succ k => rw [readF, h]; rfl
theorem no_line2 {b : Nat} {t : List UInt8} (h : (Lib.cut (Lib.cut t [10]).1 [32]).2.2 = false) (k : Nat) : readF k b t = ([], t) := by
  cases k with
  | zero => rfl
  | succ k => rw [readF, h]; simp
theorem no_line3 {b : Nat} {t : List UInt8} (h : okB (Lib.cut (Lib.cut t [10]).1 [32]).2.1 = false) (k : Nat) : readF k b t = ([], t) := by
  cases k with
  | zero => rfl
  | succ k => rw [readF, h]; simp
theorem no_line4 {b : Nat} {t : List UInt8} (h : Lib.itoa (sumF b (Lib.cut (Lib.cut t [10]).1 [32]).2.1 : Nat) ≠ (Lib.cut (Lib.cut t [10]).1 [32]).1) (k : Nat) : readF k b t = ([], t) := by
  cases k with
  | zero => rfl
  | succ k => rw [readF, if_neg]; intro hh; simp only [Bool.and_eq_true, beq_iff_eq] at hh; exact h hh.2.2.2
theorem is_line {b : Nat} {t : List UInt8} (h1 : (Lib.cut t [10]).2.2 = true) (h2 : (Lib.cut (Lib.cut t [10]).1 [32]).2.2 = true) (h4 : Lib.itoa (sumF b (Lib.cut (Lib.cut t [10]).1 [32]).2.1 : Nat) = (Lib.cut (Lib.cut t [10]).1 [32]).1) :
    t = lineF b (Lib.cut (Lib.cut t [10]).1 [32]).2.1 ++ (Lib.cut t [10]).2.1 := by
  rcases part_at 10 t with hn | ⟨a, r, rfl, hn⟩
  · rw [cut_no hn] at h1; cases h1
  · rw [cut_yes hn] at h2 h4 ⊢
    simp only [] at h2 h4 ⊢
    rcases part_at 32 a with hm | ⟨s, o, rfl, hm⟩
    · rw [cut_no hm] at h2; cases h2
    · rw [cut_yes hm] at h4 ⊢
      simp only [] at h4 ⊢
      rw [lineF_eq, h4]
def sliceLen : Value → Nat
  | .slice _ n _ => n
  | _ => 0
set_option maxRecDepth 100000 in
set_option maxHeartbeats 2000000 in
theorem Read_calls (t : ByteArray) (w : World) (hs : t.size ≤ 100000) (he : Env w) : Calls Tryz.prog 16 #[.string t] w (ReadR t w) := by
  have HE := Lib.hid he
  clear he
  obtain ⟨i0, hi0, hz0, hi1, hi2⟩ := info_parts infoStr
  go_enter Tryz.func16, Tryz.ntmps16
  go_wp2
  go_loopw [0, 4, 5, 6, 7, 8, 9, 10, 11, 12] (fun m v b _ _ _ _ _ _ _ wr => ∃ (k : Nat) (M : ByteArray) (s : Nat) (va : Option Addr) (vc : Nat), k ≤ 80 ∧ m = .string M ∧ v = .slice va k vc ∧ b = .int .i64 s ∧ M.size ≤ 100000 ∧ s < 1000003 ∧ Hid (Below w.heap.size w wr) ∧ ∃ acc : List ByteArray, Hid (acc.length = k) ∧ Hid (ReadAt t k acc s M) ∧ Hid (wr.ownsRow w.heap.size 9 1 (.slice va k vc) k (cellsS acc))) (fun _ v _ _ _ _ _ _ _ _ _ => 80 - sliceLen v)
  case atStart => exact ⟨0, t, 0, none, 0, by omega, rfl, rfl, rfl, hs, by omega, by show Below _ _ _; (repeat' (first | exact Below.refl _ _ | assumption | refine below_new ?_ _ | refine below_draw ?_ | refine below_tail (by assumption) ?_ | refine below_set ?_ (by first | omega | (simp <;> omega)) _)), [], rfl, by show readF 80 0 _ = _; simp, World.ownsRow_nil _ _ _ _⟩
  case round =>
    obtain ⟨k, M, s, va, vc, hk, rfl, rfl, rfl, hMs, hss, hb, acc, hacc, hat, how⟩ := hrel
    by_cases hlt : k < 80
    · obtain ⟨line, hline⟩ : ∃ x, mkB (Lib.cut M.data.toList [10]).1 = x := ⟨_, rfl⟩
      obtain ⟨rest, hrest⟩ : ∃ x, mkB (Lib.cut M.data.toList [10]).2.1 = x := ⟨_, rfl⟩
      obtain ⟨b1, hb1_⟩ : ∃ x, (Lib.cut M.data.toList [10]).2.2 = x := ⟨_, rfl⟩
      have hls : line.size ≤ 100000 := by have := (cut_size M.data.toList [10]).1; rw [← hline, mkB_size]; rw [size_list] at this; omega
      have hrs : rest.size ≤ 100000 := by have := (cut_size M.data.toList [10]).2; rw [← hrest, mkB_size]; rw [size_list] at this; omega
      have hld : (Lib.cut M.data.toList [10]).1 = line.data.toList := by rw [← hline]; rfl
      have hrd : (Lib.cut M.data.toList [10]).2.1 = rest.data.toList := by rw [← hrest]; rfl
      obtain ⟨num, hnum⟩ : ∃ x, mkB (Lib.cut line.data.toList [32]).1 = x := ⟨_, rfl⟩
      obtain ⟨ord, hord⟩ : ∃ x, mkB (Lib.cut line.data.toList [32]).2.1 = x := ⟨_, rfl⟩
      obtain ⟨b2, hb2_⟩ : ∃ x, (Lib.cut line.data.toList [32]).2.2 = x := ⟨_, rfl⟩
      have hos : ord.size ≤ 100000 := by have := (cut_size line.data.toList [32]).2; rw [← hord, mkB_size]; rw [size_list] at this; omega
      have hnd : (Lib.cut line.data.toList [32]).1 = num.data.toList := by rw [← hnum]; rfl
      have hod : (Lib.cut line.data.toList [32]).2.1 = ord.data.toList := by rw [← hord]; rfl
      obtain ⟨n, hn⟩ : ∃ n, sumF s ord.data.toList = n := ⟨_, rfl⟩
      have hn1 : n < 1000003 := by rw [← hn]; exact sumF_lt _ _
      obtain ⟨d, hd⟩ : ∃ d, mkB (Lib.itoa (n : Nat)) = d := ⟨_, rfl⟩
      obtain ⟨b3, hb3_⟩ : ∃ x, okB ord.data.toList = x := ⟨_, rfl⟩
      have HC1 : Hid (∀ W, Env W → Gives Tryz.prog 52 #[.string M, .string ⟨#[10]⟩] W (.tuple #[.string line, .string rest, .bool b1])) := by
        intro W hW
        rw [← hline, ← hrest, ← hb1_]
        exact cut_calls M nl W (by omega) hW
      have HC2 : Hid (∀ W, Env W → Gives Tryz.prog 52 #[.string line, .string ⟨#[32]⟩] W (.tuple #[.string num, .string ord, .bool b2])) := by
        intro W hW
        rw [← hnum, ← hord, ← hb2_]
        exact cut_calls line blank W (by omega) hW
      have HSU : Hid (∀ W, Gives Tryz.prog 27 #[.int .i64 s, .string ord] W (.int .i64 n)) := fun W => Sum_is (by omega) hn
      have HQ := Lib.hid hb3_
      have HDD : Hid ((⟨(Lib.itoa (n : Nat)).toArray⟩ : ByteArray) = d) := hd
      have HN1 : Hid (b1 = false → ReadEnd t acc M) := fun h => hat.out.stop (no_line1 (by rw [hb1_]; exact h) _)
      have HN2 : Hid (b2 = false → ReadEnd t acc M) := fun h => hat.out.stop (no_line2 (by rw [hld, hb2_]; exact h) _)
      have HN3 : Hid (b3 = false → ReadEnd t acc M) := fun h => hat.out.stop (no_line3 (by rw [hld, hod, hb3_]; exact h) _)
      have HN4 : Hid (d ≠ num → ReadEnd t acc M) := fun h => hat.out.stop (no_line4 (by
        rw [hld, hod, hnd, hn]
        intro e
        apply h
        apply bytes_ext
        rw [← hd, mkB_data, e]) _)
      have HNX : Hid (b1 = true → b2 = true → b3 = true → d = num → ReadAt t (k + 1) (acc ++ [ord]) n rest) := by
        intro h1 h2 h3 h4
        have hl := is_line (b := s) (t := M.data.toList) (by rw [hb1_]; exact h1) (by rw [hld, hb2_]; exact h2) (by rw [hld, hod, hnd, hn, ← h4, ← hd]; rfl)
        rw [hld, hod, hrd] at hl
        have := hat.out.next hlt (by rw [hb3_]; exact h3) hl
        rw [hn] at this
        exact this
      have hw6 : IntKind.i64.wrap ((k : Int) + 1) = (k : Int) + 1 := IntWalk.i64_in _ (by omega)
      clear hline hrest hb1_ hld hrd hnum hord hb2_ hnd hod hn hd hb3_
      cases b1
      · have HEND := Lib.hid (HN1.out rfl)
        clear HN1 HN2 HN3 HN4 HNX
        go_wp2_with (first
            | (go_at_call 52; (with_reducible refine (HC1.out _ (HE.out.below hb.out)).use ?_); intro w1 hb1 hz1 hc1 hf1; clear hc1 hf1)
            | (go_at_call 52; (with_reducible refine (HC2.out _ (HE.out.below (hb.out.trans (hb1.mono hb.out.size)))).use ?_); intro w2 hb2 hz2 hc2 hf2; clear hc2 hf2; have HB2 : Below wr.heap.size wr w2 := hb1.trans (hb2.mono hb1.size))
            | (go_at_call 27; refine (HSU.out _).use ?_; intro w3 hb3 hz3 hc3 hf3; clear hc3 hf3; have HB3 : Below wr.heap.size wr w3 := HB2.trans (hb3.mono HB2.size)))
        go_ret2
        exact ReadR.mk HEND.out hacc.out how.out hb.out HB3
      · cases b2
        · have HEND := Lib.hid (HN2.out rfl)
          clear HN1 HN2 HN3 HN4 HNX
          go_wp2_with (first
            | (go_at_call 52; (with_reducible refine (HC1.out _ (HE.out.below hb.out)).use ?_); intro w1 hb1 hz1 hc1 hf1; clear hc1 hf1)
            | (go_at_call 52; (with_reducible refine (HC2.out _ (HE.out.below (hb.out.trans (hb1.mono hb.out.size)))).use ?_); intro w2 hb2 hz2 hc2 hf2; clear hc2 hf2; have HB2 : Below wr.heap.size wr w2 := hb1.trans (hb2.mono hb1.size))
            | (go_at_call 27; refine (HSU.out _).use ?_; intro w3 hb3 hz3 hc3 hf3; clear hc3 hf3; have HB3 : Below wr.heap.size wr w3 := HB2.trans (hb3.mono HB2.size)))
          go_ret2
          exact ReadR.mk HEND.out hacc.out how.out hb.out HB3
        · cases b3
          · have HEND := Lib.hid (HN3.out rfl)
            clear HN1 HN2 HN3 HN4 HNX
            go_wp2_with (first
            | (go_at_call 52; (with_reducible refine (HC1.out _ (HE.out.below hb.out)).use ?_); intro w1 hb1 hz1 hc1 hf1; clear hc1 hf1)
            | (go_at_call 52; (with_reducible refine (HC2.out _ (HE.out.below (hb.out.trans (hb1.mono hb.out.size)))).use ?_); intro w2 hb2 hz2 hc2 hf2; clear hc2 hf2; have HB2 : Below wr.heap.size wr w2 := hb1.trans (hb2.mono hb1.size))
            | (go_at_call 27; refine (HSU.out _).use ?_; intro w3 hb3 hz3 hc3 hf3; clear hc3 hf3; have HB3 : Below wr.heap.size wr w3 := HB2.trans (hb3.mono HB2.size))
            | (go_at_call 53; (with_reducible refine (isOrder_is HQ.out).use ?_)))
            go_ret2
            exact ReadR.mk HEND.out hacc.out how.out hb.out HB3
          · by_cases hdn : d = num
            · have HNX2 := Lib.hid (HNX.out rfl rfl rfl hdn)
              subst hdn
              clear HN1 HN2 HN3 HN4 HNX
              go_wp2_with (first
            | (go_at_call 52; (with_reducible refine (HC1.out _ (HE.out.below hb.out)).use ?_); intro w1 hb1 hz1 hc1 hf1; clear hc1 hf1)
            | (go_at_call 52; (with_reducible refine (HC2.out _ (HE.out.below (hb.out.trans (hb1.mono hb.out.size)))).use ?_); intro w2 hb2 hz2 hc2 hf2; clear hc2 hf2; have HB2 : Below wr.heap.size wr w2 := hb1.trans (hb2.mono hb1.size))
            | (go_at_call 27; refine (HSU.out _).use ?_; intro w3 hb3 hz3 hc3 hf3; clear hc3 hf3; have HB3 : Below wr.heap.size wr w3 := HB2.trans (hb3.mono HB2.size))
            | (go_at_call 53; (with_reducible refine (isOrder_is HQ.out).use ?_))
            | (go_at_call 54; refine (itoa_is (by omega) (by omega) (HE.out.below (hb.out.trans (HB3.mono hb.out.size))) HDD.out).use ?_; intro w4 hb4 hz4 hc4 hf4; clear hc4 hf4; have HB4 : Below wr.heap.size wr w4 := HB3.trans (hb4.mono HB3.size))
            | (at_builtin; refine wpList_append_own _ rfl _ _ 28 rfl w.heap.size 9 i0 (.string ⟨#[]⟩) 1 16 Tryz.underlying28 hi0 hz0 hi1 hi2 rfl (by decide) _ _ _ rfl ((own_below how.out HB4).alloc _) ⟨w4.heap.size, 0, none⟩ 1 1 [.string ord] rfl rfl (app_src1 _ _ _) (one_str _) (by unfold maxLen; omega) (by omega) (by have := (hb.out.trans (HB4.mono hb.out.size)).size; simp; omega) ?_; intro v' w5 hown4 hgrow _))
              obtain ⟨va', vc', rfl⟩ := own_slice hown4
              go_roundw
              case rel => exact ⟨k + 1, rest, n, va', vc', by omega, rfl, rfl, rfl, hrs, hn1, below_app (hb.out.trans (HB4.mono hb.out.size)) (Nat.le_refl _) hgrow (fun j hj => (how.out.lt j hj).1), acc ++ [ord], by unfold Hid; rw [List.length_append, hacc.out]; rfl, HNX2.out, by unfold Hid; rw [cellsS_append]; exact hown4⟩
              case measure => simp [sliceLen]; omega
            · have HEND := Lib.hid (HN4.out hdn)
              have hdn1 : (d.toList == num.toList) = false := beq_eq_false_iff_ne.2 (fun e => hdn (list_inj e))
              clear HN1 HN2 HN3 HN4 HNX hdn
              go_wp2_with (first
            | (go_at_call 52; (with_reducible refine (HC1.out _ (HE.out.below hb.out)).use ?_); intro w1 hb1 hz1 hc1 hf1; clear hc1 hf1)
            | (go_at_call 52; (with_reducible refine (HC2.out _ (HE.out.below (hb.out.trans (hb1.mono hb.out.size)))).use ?_); intro w2 hb2 hz2 hc2 hf2; clear hc2 hf2; have HB2 : Below wr.heap.size wr w2 := hb1.trans (hb2.mono hb1.size))
            | (go_at_call 27; refine (HSU.out _).use ?_; intro w3 hb3 hz3 hc3 hf3; clear hc3 hf3; have HB3 : Below wr.heap.size wr w3 := HB2.trans (hb3.mono HB2.size))
            | (go_at_call 53; (with_reducible refine (isOrder_is HQ.out).use ?_))
            | (go_at_call 54; refine (itoa_is (by omega) (by omega) (HE.out.below (hb.out.trans (HB3.mono hb.out.size))) HDD.out).use ?_; intro w4 hb4 hz4 hc4 hf4; clear hc4 hf4; have HB4 : Below wr.heap.size wr w4 := HB3.trans (hb4.mono HB3.size)))
              go_ret2
              exact ReadR.mk HEND.out hacc.out how.out hb.out HB4
    · obtain rfl : k = 80 := by omega
      have HEND : Hid (ReadEnd t acc M) := hat.out.stop (readF_zero _ _)
      go_wp2
      go_ret2
      exact ReadR.mk HEND.out hacc.out how.out hb.out (Below.refl _ _)
end Go.Proofs.YthooacpfmjpdmaaGreatDoor
