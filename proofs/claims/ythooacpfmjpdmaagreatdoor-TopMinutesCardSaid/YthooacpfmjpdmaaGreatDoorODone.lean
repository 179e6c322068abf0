/- What the laws begin with: firms, long lists, the office that has done some texts. Conditions: as said. -/
import Derived.Test.YthooacpfmjpdmaaGreatDoorOKnown
namespace Go.Proofs.YthooacpfmjpdmaaGreatDoor
open Go.RowKit

/-- What an office is made with, in memory. -/
def FirmAt (w : World) (v : Value) (k : Int) (c : Cal) : Prop := ∃ fv sv, v = .agg #[.int .i64 k, .int .i64 c.first, fv, sv] ∧ CalAt w (.agg #[.int .i64 c.first, fv, sv]) c
theorem FirmAt.below {w w' : World} {v : Value} {k : Int} {c : Cal} (h : FirmAt w v k c) (hb : Below w.heap.size w w') : FirmAt w' v k c := by
  obtain ⟨fv, sv, e, hc⟩ := h
  exact ⟨fv, sv, e, hc.below hb⟩
def largeB (c : Cal) : Bool := decide (60 < c.free.length) || decide (60 < c.still.length)
theorem FirmAt.open {w : World} {v : Value} {k : Int} {c : Cal} (h : FirmAt w v k c) :
    ∃ fa fc sa sc, v = .agg #[.int .i64 k, .int .i64 c.first, .slice fa c.free.length fc, .slice sa c.still.length sc] ∧ CalAt w (.agg #[.int .i64 c.first, .slice fa c.free.length fc, .slice sa c.still.length sc]) c := by
  obtain ⟨fv, sv, rfl, hc⟩ := h
  obtain ⟨fa, fc, sa, sc, e, -⟩ := hc.cells
  simp only [Value.agg.injEq, Array.mk.injEq, List.cons.injEq, and_true, true_and] at e
  obtain ⟨rfl, rfl⟩ := e
  exact ⟨fa, fc, sa, sc, rfl, hc⟩
set_option maxHeartbeats 1000000 in
theorem Large_calls (v : Value) (k : Int) (c : Cal) (w : World) (h : FirmAt w v k c) : Gives Tryz.prog 17 #[v] w (.bool (largeB c)) := by
  obtain ⟨fa, fc, sa, sc, rfl, hc⟩ := h.open
  clear h hc
  unfold Gives
  by_cases h1 : 60 < c.free.length
  · have H : Hid (largeB c = true) := by show _ = _; unfold largeB; rw [decide_eq_true h1]; rfl
    have k1 : decide ((60 : Int) < (c.free.length : Int)) = true := decide_eq_true (by omega)
    have k1' : (60 : Int) < (c.free.length : Int) := by omega
    clear h1
    go_enter Tryz.func17, Tryz.ntmps17
    go_wp2
    go_ret
    exact ⟨ret_bool H.out.symm, by (repeat' (first | exact Below.refl _ _ | assumption | refine below_new ?_ _ | refine below_draw ?_ | refine below_tail (by assumption) ?_ | refine below_set ?_ (by first | omega | (simp <;> omega)) _))⟩
  · obtain ⟨b, hb⟩ : ∃ b, decide ((60 : Int) < (c.still.length : Int)) = b := ⟨_, rfl⟩
    have H : Hid (largeB c = b) := by show _ = _; unfold largeB; rw [decide_eq_false h1, ← hb, Bool.false_or, decide_eq_decide]; omega
    have k1 : decide ((60 : Int) < (c.free.length : Int)) = false := decide_eq_false (by omega)
    have k1' : ¬ (60 : Int) < (c.free.length : Int) := by omega
    clear h1
    go_enter Tryz.func17, Tryz.ntmps17
    go_wp2
    go_ret
    exact ⟨ret_bool H.out.symm, by (repeat' (first | exact Below.refl _ _ | assumption | refine below_new ?_ _ | refine below_draw ?_ | refine below_tail (by assumption) ?_ | refine below_set ?_ (by first | omega | (simp <;> omega)) _))⟩
theorem Large_is {v : Value} {k : Int} {c : Cal} {b : Bool} {w : World} (h : FirmAt w v k c) (hb : largeB c = b) : Gives Tryz.prog 17 #[v] w (.bool b) := hb ▸ Large_calls v k c w h
theorem Long_calls (v : Value) (l : List ByteArray) (w : World) (h : TextsAt w v l) : Gives Tryz.prog 18 #[v] w (.bool (decide (150 < l.length))) := by
  obtain ⟨a, cap, rfl, -⟩ := h
  unfold Gives
  obtain ⟨b, hb⟩ : ∃ b, decide ((150 : Int) < (l.length : Int)) = b := ⟨_, rfl⟩
  have H : Hid (decide (150 < l.length) = b) := by show _ = _; rw [← hb, decide_eq_decide]; omega
  go_enter Tryz.func18, Tryz.ntmps18
  go_wp2
  go_ret
  exact ⟨ret_bool H.out.symm, by (repeat' (first | exact Below.refl _ _ | assumption | refine below_new ?_ _ | refine below_draw ?_ | refine below_tail (by assumption) ?_ | refine below_set ?_ (by first | omega | (simp <;> omega)) _))⟩
theorem Long_is {v : Value} {l : List ByteArray} {b : Bool} {w : World} (h : TextsAt w v l) (hb : decide (150 < l.length) = b) : Gives Tryz.prog 18 #[v] w (.bool b) := hb ▸ Long_calls v l w h
/-- Some texts, one by one. -/
def manyO (x : Off) (l : List ByteArray) : Off := l.foldl stepO x
theorem manyO_snoc (x : Off) (l : List ByteArray) (o : ByteArray) : manyO x (l ++ [o]) = stepO (manyO x l) o := by unfold manyO; rw [List.foldl_append]; rfl
theorem manyO_c (x : Off) (l : List ByteArray) : (manyO x l).c = x.c := by
  unfold manyO
  induction l generalizing x with
  | nil => rfl
  | cons o l ih => rw [List.foldl_cons, ih, stepO_c]
def doneO (k : Int) (c : Cal) (l : List ByteArray) : Off := manyO (newO k.toNat c) (l.take 40)
set_option maxRecDepth 100000 in
set_option maxHeartbeats 4000000 in
theorem done_yes (v u : Value) (k : Int) (c : Cal) (l : List ByteArray) (w : World) (h : FirmAt w v k c) (hl : TextsAt w u l) (hb : Base w) (hz : NewE k c = 0) :
    Calls Tryz.prog 29 #[v, u] w fun e w' => ∃ B, e = .returned (.pointer (some ⟨B, 0, none⟩)) ∧ OffS w.heap.size w' B k.toNat (doneO k c l) ∧ Below w.heap.size w w' := by
  obtain ⟨fa, fc, sa, sc, rfl, hc⟩ := h.open
  have HC := Lib.hid hc
  have HT := Lib.hid hl
  have HB := Lib.hid hb
  have h9 := hb.nine
  have HZ := Lib.hid hz
  obtain ⟨a, cap, rfl, hlc, hcm, -⟩ := hl
  obtain ⟨L, hL⟩ : ∃ L, l.length = L := ⟨_, rfl⟩
  have HL := Lib.hid hL
  rw [hL] at HT hlc ⊢
  clear h hc hb hz hL
  go_enter Tryz.func29, Tryz.ntmps29
  go_wp2_with (go_at_call 19; refine (New_step k _ c _ (HC.out.below (by (repeat' (first | exact Below.refl _ _ | assumption | refine below_new ?_ _ | refine below_draw ?_ | refine below_tail (by assumption) ?_ | refine below_set ?_ (by first | omega | (simp <;> omega)) _)))) HZ.out).mono ?_; rintro e w0 ⟨B, rfl, ho0, hb0⟩; have H0 := Lib.hid ho0; have B0 : Hid (Below w.heap.size w w0) := (by (repeat' (first | exact Below.refl _ _ | assumption | refine below_new ?_ _ | refine below_draw ?_ | refine below_tail (by assumption) ?_ | refine below_set ?_ (by first | omega | (simp <;> omega)) _))); have E0 := Lib.hid (HB.out.below B0.out); clear ho0; have hs0 : w.heap.size < w0.heap.size := (by have := hb0.size; simp at this; omega); clear hb0)
  have HO0 : Hid (OffS w.heap.size w0 B k.toNat (newO k.toNat c)) := by
    obtain ⟨⟨ov, h⟩, hm⟩ := H0.out
    obtain ⟨fv, sv, g1, c1, g2, c2, g3, c3, h⟩ := h
    exact ⟨⟨ov, fv, sv, g1, c1, g2, c2, g3, c3, { box := h.box, st := h.st.mono (by simp), fr := own_base h.fr (by simp), sp := own_base h.sp (by simp), od := own_base h.od (by simp), mB := Nat.le_trans (by simp) h.mB }⟩, hm⟩
  clear H0
  go_loopw [7] (fun i wr => ∃ j : Nat, j ≤ L ∧ j ≤ 40 ∧ i = .int .i64 j ∧ Hid (Below w.heap.size w wr) ∧ Hid (Base wr) ∧ Hid (OffS w.heap.size wr B k.toNat (manyO (newO k.toNat c) (l.take j)))) (fun i _ => 40 - (intOf i).toNat)
  case atStart => exact ⟨0, Nat.zero_le _, Nat.zero_le _, rfl, B0, E0, HO0⟩
  case round =>
    obtain ⟨j, hj, hj40, rfl, hbl, hbs, hof⟩ := hrel
    by_cases hlt : j < L
    · have k1 : decide ((j : Int) < (L : Int)) = true := decide_eq_true (by omega)
      by_cases h40 : j < 40
      · have k2 : decide ((j : Int) < 40) = true := decide_eq_true (by omega)
        obtain ⟨b, o, rfl, hBc, hcell⟩ := (HT.out.below hbl.out).cellAt (m := j) (by rw [HL.out]; exact hlt)
        obtain ⟨q, hq⟩ : ∃ q, gi l default j = q := ⟨_, rfl⟩
        have HX : Hid (l.take (j + 1) = l.take j ++ [q]) := by show _ = _; rw [List.take_succ_eq_append_getElem (by rw [HL.out]; exact hlt), ← hq, gi_lt (by rw [HL.out]; exact hlt)]
        rw [hq] at hcell
        have hw6 : IntKind.i64.wrap ((j : Int) + 1) = (j : Int) + 1 := IntWalk.i64_in _ (by omega)
        clear hq
        go_wp2_with (go_at_call 21; refine (Do_step q hof.out h9 hbs.out).mono ?_; rintro e w2 ⟨rfl, ho2, hb2, -, -⟩; have HO2 := Lib.hid ho2; have HB2 := Lib.hid hb2; clear ho2 hb2)
        go_roundw
        case rel => exact ⟨j + 1, by omega, by omega, by go_num, hbl.out.trans HB2.out, hbs.out.low h9 HB2.out, by unfold Hid; rw [HX.out, manyO_snoc]; exact HO2.out⟩
        case measure => simp [intOf]; omega
      · have k2 : decide ((j : Int) < 40) = false := decide_eq_false (by omega)
        have HD : Hid (manyO (newO k.toNat c) (l.take j) = doneO k c l) := by
          show _ = _
          unfold doneO
          rw [show j = 40 by omega]
        go_wp2
        go_ret
        exact ⟨B, rfl, HD.out ▸ hof.out, hbl.out⟩
    · have k1 : decide ((j : Int) < (L : Int)) = false := decide_eq_false (by omega)
      have HD : Hid (manyO (newO k.toNat c) (l.take j) = doneO k c l) := by
        show _ = _
        unfold doneO
        rw [List.take_of_length_le (by rw [HL.out]; omega), List.take_of_length_le (by rw [HL.out]; omega)]
      go_wp2
      go_ret
      exact ⟨B, rfl, HD.out ▸ hof.out, hbl.out⟩
set_option maxHeartbeats 1000000 in
theorem done_no (v u : Value) (k : Int) (c : Cal) (l : List ByteArray) (w : World) (h : FirmAt w v k c) (hl : TextsAt w u l) (hz : NewE k c ≠ 0) :
    Gives Tryz.prog 29 #[v, u] w (.pointer none) := by
  obtain ⟨fa, fc, sa, sc, rfl, hc⟩ := h.open
  have HC := Lib.hid hc
  obtain ⟨a, cap, rfl, hlc, hcm, -⟩ := hl
  obtain ⟨r, hr⟩ : ∃ r, NewE k c = r := ⟨_, rfl⟩
  have HR := Lib.hid hr
  have hz' : r ≠ 0 := by rw [← hr]; exact hz
  have kr : (r != 0) = true := by simpa using hz'
  clear h hc hz hr
  unfold Gives
  go_enter Tryz.func29, Tryz.ntmps29
  go_wp2_with (go_at_call 19; refine (New_bad k _ c _ (HC.out.below (by (repeat' (first | exact Below.refl _ _ | assumption | refine below_new ?_ _ | refine below_draw ?_ | refine below_tail (by assumption) ?_ | refine below_set ?_ (by first | omega | (simp <;> omega)) _)))) r HR.out hz').use ?_; intro w0 hb0 hz0 hc0 hf0; clear hc0 hf0)
  go_ret
  exact ⟨rfl, by (repeat' (first | exact Below.refl _ _ | assumption | refine below_new ?_ _ | refine below_draw ?_ | refine below_tail (by assumption) ?_ | refine below_set ?_ (by first | omega | (simp <;> omega)) _))⟩
end Go.Proofs.YthooacpfmjpdmaaGreatDoor
