/- An office made again from minutes. Conditions: as said. -/
import Derived.Test.YthooacpfmjpdmaaGreatDoorODone
namespace Go.Proofs.YthooacpfmjpdmaaGreatDoor
open Go.RowKit

theorem readO_min {l : List ByteArray} (h : ∀ o ∈ l, okB o.data.toList = true) (hl : l.length ≤ 80) : readO (minF l) = l ∧ readT (minF l) = ⟨#[]⟩ := by
  have hb : (minF l).data.toList = bookF 0 (l.map (·.data.toList)) := rfl
  have := readF_whole (l := l.map (·.data.toList)) (k := 80) (b := 0) (fun o ho => by obtain ⟨y, hy, rfl⟩ := List.mem_map.1 ho; exact h y hy) (by rw [List.length_map]; exact hl)
  unfold readO readT
  rw [hb, this]
  exact ⟨map_mk2 l, rfl⟩
theorem runs_take : ∀ (l : List ByteArray) (x y : Off), runs x l = some y → ∀ j, (h : j < l.length) → ∃ z, runs x (l.take j) = some z ∧ stepE z l[j] = 0 ∧ runs x (l.take (j + 1)) = some (stepO z l[j]) := by
  intro l
  induction l with
  | nil => intro x y _ j h; simp at h
  | cons o l ih =>
    intro x y hr j h
    unfold runs at hr
    split at hr
    · rename_i he
      cases j with
      | zero => exact ⟨x, rfl, he, by simp only [List.take_succ_cons, List.take_zero, runs, List.getElem_cons_zero]; rw [if_pos he]⟩
      | succ j =>
        obtain ⟨z, h1, h2, h3⟩ := ih _ _ hr j (by simpa using h)
        refine ⟨z, ?_, by simpa using h2, ?_⟩
        · simp only [List.take_succ_cons, runs]; rw [if_pos he]; exact h1
        · simp only [List.take_succ_cons, runs, List.getElem_cons_succ]; rw [if_pos he]; simpa using h3
    · cases hr
/-- An office whose orders lie from block q on. -/
def OffT (q m : Nat) (w : World) (B n : Nat) (x : Off) : Prop := (∃ ov, OffIn m w B n x ov ∧ ∀ b, ov.ownBlock = some b → q ≤ b) ∧ Made n x
theorem OffT.s {q m : Nat} {w : World} {B n : Nat} {x : Off} (h : OffT q m w B n x) : OffS m w B n x := by
  obtain ⟨⟨ov, h, _⟩, hm⟩ := h
  exact ⟨⟨ov, h⟩, hm⟩
theorem OffT.below {q m : Nat} {w w' : World} {B n : Nat} {x : Off} (h : OffT q m w B n x) (hb : Below w.heap.size w w') : OffT q m w' B n x := by
  obtain ⟨⟨ov, h, h2⟩, hm⟩ := h
  exact ⟨⟨ov, h.below hb, h2⟩, hm⟩
def StepQ (q m : Nat) (w : World) (B n : Nat) (x : Off) (o : ByteArray) (e : Ending) (w' : World) : Prop :=
  e = .returned (.int .i64 (stepE x o)) ∧ OffT q m w' B n (stepO x o) ∧ Below m w w' ∧ ∀ b, b < q → b ≠ B → w'.heap[b]? = w.heap[b]?
theorem Do_q {q m : Nat} {w : World} {B n : Nat} {x : Off} (o : ByteArray) (h : OffT q m w B n x) (hq : q ≤ w.heap.size) (hm : 9 ≤ m) (he : Base w) :
    Calls Tryz.prog 21 #[.pointer (some ⟨B, 0, none⟩), .string o] w (StepQ q m w B n x o) := by
  obtain ⟨⟨ov, h, hov⟩, hmk⟩ := h
  refine (Do_calls m w B n x ov o h hmk hm he.env).mono fun e w' hd => ?_
  obtain ⟨he1, hon, ov', ho', hnew⟩ := id hd
  refine ⟨he1, ⟨⟨ov', ho', fun b hb => ?_⟩, hmk.step o⟩, DoO.below h hd, fun b hb hB => hon.block b (by omega) hB (fun e => by have := hov b e; omega)⟩
  rcases hnew b hb with h1 | h1
  · exact hov b h1
  · omega
/-- A new office: its orders lie nowhere. -/
theorem New_t (_q : Nat) (k : Int) (v : Value) (c : Cal) (w : World) (h : CalAt w v c) (hz : NewE k c = 0) :
    Calls Tryz.prog 19 #[.int .i64 k, v] w fun e w' => ∃ B, e = .returned (.tuple #[.pointer (some ⟨B, 0, none⟩), .int .i64 0]) ∧ (OffIn w.heap.size w' B k.toNat (newO k.toNat c) (.slice none 0 0) ∧ Made k.toNat (newO k.toNat c)) ∧ Below w.heap.size w w' := by
  refine (New_calls k v c w h).mono fun e w' hn => ?_
  obtain ⟨hb, _, hy⟩ := hn
  obtain ⟨B, he, ho⟩ := hy hz
  have hr : ¬ (k < 1 ∨ 8 < k) := by intro hh; unfold NewE at hz; rw [if_pos hh] at hz; cases hz
  have hv : validF c = 0 := by unfold NewE at hz; rwa [if_neg hr] at hz
  exact ⟨B, he, ⟨ho, Made.new (by omega) (by omega) hv⟩, hb⟩
theorem OffIn.base {m m' : Nat} {w : World} {B n : Nat} {x : Off} {ov : Value} (h : OffIn m w B n x ov) (hm : m' ≤ m) : OffIn m' w B n x ov := by
  obtain ⟨fv, sv, g1, c1, g2, c2, g3, c3, h⟩ := h
  exact ⟨fv, sv, g1, c1, g2, c2, g3, c3, { box := h.box, st := h.st.mono hm, fr := own_base h.fr hm, sp := own_base h.sp hm, od := own_base h.od hm, mB := Nat.le_trans hm h.mB }⟩
theorem TextsAt.keep {w w' : World} {v : Value} {l : List ByteArray} (h : TextsAt w v l) (hs : w.heap.size ≤ w'.heap.size) (hk : ∀ b, v.ownBlock = some b → w'.heap[b]? = w.heap[b]?) : TextsAt w' v l := by
  obtain ⟨a, cap, rfl, h1, h2, h3⟩ := h
  refine ⟨a, cap, rfl, h1, h2, fun i hi => ?_⟩
  obtain ⟨b, o, rfl, hlt, hc⟩ := h3 i hi
  exact ⟨b, o, rfl, Nat.lt_of_lt_of_le hlt hs, (World.cell?_of_block (a := ⟨b, o + i, none⟩) (hk b rfl)).trans hc⟩
/-- What Replay returns, if the minutes are those of orders that are done one by one. -/
def ReplayR (w : World) (k : Int) (y : Off) (e : Ending) (w' : World) : Prop :=
  ∃ B, e = .returned (.tuple #[.pointer (some ⟨B, 0, none⟩), .int .i64 (y.os.length : Nat), .int .i64 0]) ∧ OffS w.heap.size w' B k.toNat y ∧ Below w.heap.size w w'
theorem runs_os {x y : Off} {l : List ByteArray} (h : runs x l = some y) : y.os = x.os ++ l := by
  induction l generalizing x with
  | nil => injection h with h; subst h; simp
  | cons o l ih =>
    unfold runs at h
    split at h
    · rename_i he
      rw [ih h, stepO_ok he]; simp
    · cases h
set_option maxRecDepth 100000 in
set_option maxHeartbeats 4000000 in
theorem Replay_ok (v : Value) (k : Int) (c : Cal) (l : List ByteArray) (y : Off) (w : World) (h : CalAt w v c) (hb : Base w) (hz : NewE k c = 0) (hrun : runs (newO k.toNat c) l = some y) :
    Calls Tryz.prog 25 #[.int .i64 k, v, .string (minF l)] w (ReplayR w k y) := by
  obtain ⟨fa, fc, sa, sc, rfl, -⟩ := h.cells
  have HC := Lib.hid h
  have HB := Lib.hid hb
  have h9 := hb.nine
  have HZ := Lib.hid hz
  have HRUN := Lib.hid hrun
  have hok := runs_ok l _ y hrun
  have hyo : y.os = l := by rw [runs_os hrun]; rfl
  have hl80 : l.length ≤ 80 := by have := hok.2 (Nat.zero_le _); rwa [hyo] at this
  have HYO := Lib.hid hyo
  obtain ⟨hro, hrt⟩ := readO_min hok.1 hl80
  have hts : (minF l).size ≤ 100000 := by have := minF_size hok.1; omega
  obtain ⟨t, ht⟩ : ∃ t, minF l = t := ⟨_, rfl⟩
  rw [ht] at hro hrt hts ⊢
  have HRO := Lib.hid hro
  have HRT := Lib.hid hrt
  obtain ⟨L, hL⟩ : ∃ L, l.length = L := ⟨_, rfl⟩
  have HL := Lib.hid hL
  have hL80 : L ≤ 80 := by rw [← hL]; exact hl80
  clear h hb hz hrun hok hyo hro hrt ht hl80 hL
  go_enter Tryz.func25, Tryz.ntmps25
  go_wp2_with (first
    | (go_at_call 19; refine (New_t 0 k _ c _ (HC.out.below (by (repeat' (first | exact Below.refl _ _ | assumption | refine below_new ?_ _ | refine below_draw ?_ | refine below_tail (by assumption) ?_ | refine below_set ?_ (by first | omega | (simp <;> omega)) _)))) HZ.out).mono ?_; rintro e w0 ⟨B, rfl, ho0, hb0⟩; have H0 := Lib.hid ho0; have B0 : Hid (Below w.heap.size w w0) := (by (repeat' (first | exact Below.refl _ _ | assumption | refine below_new ?_ _ | refine below_draw ?_ | refine below_tail (by assumption) ?_ | refine below_set ?_ (by first | omega | (simp <;> omega)) _))); have E0 := Lib.hid (HB.out.below B0.out); clear ho0; have hs0 : w.heap.size < w0.heap.size := (by have := hb0.size; simp at this; omega); clear hb0)
    | (go_at_call 16; refine (Read_calls t _ hts E0.out.env).mono ?_; rintro e w1 ⟨v1, rfl, hi1, hb1⟩; rw [HRT.out]; rw [HRO.out, HL.out] at hi1; have HI1 := Lib.hid hi1; obtain ⟨va, vc, rfl⟩ := own_slice hi1; have HB1 := Lib.hid hb1; clear hi1 hb1))
  have HO1 : Hid (OffT w1.heap.size w.heap.size w1 B k.toNat (newO k.toNat c)) := ⟨⟨_, (H0.out.1.base (by simp)).below HB1.out, fun b hb => by cases hb⟩, H0.out.2⟩
  have hBlt : B < w0.heap.size := H0.out.1.facts.2.1
  have HT1 : Hid (TextsAt w1 (.slice va L vc) l) := by
    have h0 := HI1.out
    rw [← HL.out] at h0 ⊢
    exact own_texts h0
  have HTB : Hid (∀ b, (Value.slice va L vc).ownBlock = some b → b < w1.heap.size ∧ b ≠ B) := by
    intro b hb
    have := HI1.out.lt b hb
    exact ⟨this.2, by omega⟩
  have hs1 : w0.heap.size ≤ w1.heap.size := HB1.out.size
  clear H0 HI1
  have E1 := Lib.hid (E0.out.below HB1.out)
  have B1 : Hid (Below w.heap.size w w1) := B0.out.trans (HB1.out.mono (by omega))
  clear B0 E0 HB1
  go_loopw [13, 14, 15, 34] (fun _ _ _ i wr => ∃ (j : Nat) (z : Off), j ≤ L ∧ i = .int .i64 j ∧ Hid (runs (newO k.toNat c) (l.take j) = some z) ∧ Hid (Below w.heap.size w wr) ∧ Hid (Base wr) ∧ Hid (OffT w1.heap.size w.heap.size wr B k.toNat z) ∧ w1.heap.size ≤ wr.heap.size ∧ Hid (∀ b, b < w1.heap.size → b ≠ B → wr.heap[b]? = w1.heap[b]?)) (fun _ _ _ i _ => L - (intOf i).toNat)
  case atStart => exact ⟨0, _, Nat.zero_le _, rfl, rfl, B1, E1, HO1, Nat.le_refl _, fun _ _ _ => rfl⟩
  case round =>
    obtain ⟨j, z, hj, rfl, hrz, hbl, hbs, hof, hsz, hkp⟩ := hrel
    have HTW : Hid (TextsAt wr (.slice va L vc) l) := HT1.out.keep hsz (fun b hb => hkp.out b (HTB.out b hb).1 (HTB.out b hb).2)
    by_cases hlt : j < L
    · obtain ⟨b, o, rfl, hBc, hcell⟩ := HTW.out.cellAt (m := j) (by rw [HL.out]; exact hlt)
      obtain ⟨q, hq⟩ : ∃ q, gi l default j = q := ⟨_, rfl⟩
      have HSZ : Hid (stepE z q = 0 ∧ runs (newO k.toNat c) (l.take (j + 1)) = some (stepO z q)) := by
        obtain ⟨z', h1, h2, h3⟩ := runs_take l _ _ HRUN.out j (by rw [HL.out]; exact hlt)
        have := hrz.out.symm.trans h1
        obtain rfl := Option.some.inj this
        have e : l[j]'(by rw [HL.out]; exact hlt) = q := by rw [← hq, gi_lt (by rw [HL.out]; exact hlt)]
        rw [e] at h2 h3
        exact ⟨h2, h3⟩
      rw [hq] at hcell
      have hw6 : IntKind.i64.wrap ((j : Int) + 1) = (j : Int) + 1 := IntWalk.i64_in _ (by omega)
      clear hq
      go_wp2_with (go_at_call 21; refine (Do_q q hof.out hsz h9 hbs.out).mono ?_; rintro e w2 ⟨rfl, ho2, hb2, hk2⟩; rw [HSZ.out.1]; have HO2 := Lib.hid ho2; have HB2 := Lib.hid hb2; have HK2 := Lib.hid hk2; clear ho2 hb2 hk2)
      go_roundw
      case rel => exact ⟨j + 1, stepO z q, by omega, by go_num, HSZ.out.2, hbl.out.trans HB2.out, hbs.out.low h9 HB2.out, HO2.out, Nat.le_trans hsz HB2.out.size, fun b hb hB => (HK2.out b hb hB).trans (hkp.out b hb hB)⟩
      case measure => simp [intOf]; omega
    · obtain rfl : j = L := by omega
      have HY : Hid (z = y) := by
        have h1 := hrz.out
        rw [List.take_of_length_le (by rw [HL.out]; exact Nat.le_refl _)] at h1
        exact Option.some.inj (h1.symm.trans HRUN.out)
      have HLY : Hid (y.os.length = j) := by show _ = _; rw [HYO.out, HL.out]
      go_wp2
      refine bodyPost_ret (v := .tuple #[.pointer (some ⟨B, 0, none⟩), .int .i64 j, .int .i64 0]) (by simp [results, Tryz.f25, go_sem]) rfl ?_
      exact ⟨B, by rw [HLY.out], HY.out ▸ hof.out.s, hbl.out⟩
end Go.Proofs.YthooacpfmjpdmaaGreatDoor
