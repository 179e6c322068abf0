/- Minutes with something behind them make no office. Conditions: as said. -/
import Derived.Test.YthooacpfmjpdmaaGreatDoorOTell
import Derived.Test.YthooacpfmjpdmaaGreatDoorOMergeP
import Derived.Test.YthooacpfmjpdmaaGreatDoorOBeside
namespace Go.Proofs.YthooacpfmjpdmaaGreatDoor
open Go.RowKit
set_option maxRecDepth 100000 in
set_option maxHeartbeats 2000000 in
theorem Replay_torn (v : Value) (k : Int) (c : Cal) (t : ByteArray) (w : World) (h : CalAt w v c) (hb : Base w) (hz : NewE k c = 0) (hs : t.size ≤ 100000) (hr : readT t ≠ ⟨#[]⟩) :
    Gives Tryz.prog 25 #[.int .i64 k, v, .string t] w (.tuple #[.pointer none, .int .i64 0, .int .i64 11]) := by
  obtain ⟨fa, fc, sa, sc, rfl, -⟩ := h.cells
  have HC := Lib.hid h
  have HB := Lib.hid hb
  have HZ := Lib.hid hz
  have BW : Hid (Below w.heap.size w w) := Below.refl _ _
  have hne := ne_empty hr
  obtain ⟨r, hre⟩ : ∃ r, readT t = r := ⟨_, rfl⟩
  have HR := Lib.hid hre
  rw [hre] at hne
  clear h hb hz hr hre
  unfold Gives
  go_enter Tryz.func25, Tryz.ntmps25
  go_wp2_with (first
    | (go_at_call 19; refine Calls.mono (New_t 0 k _ c _ (HC.out.below (by (repeat' (first | exact Below.refl _ _ | assumption | refine below_new ?_ _ | refine below_draw ?_ | refine below_tail (by assumption) ?_ | refine below_set ?_ (by first | omega | (simp <;> omega)) _)))) HZ.out) ?_; rintro e w0 ⟨B, rfl, ho0, hb0⟩; clear ho0 BW; have BW : Hid (Below w.heap.size w w0) := (by (repeat' (first | exact Below.refl _ _ | assumption | refine below_new ?_ _ | refine below_draw ?_ | refine below_tail (by assumption) ?_ | refine below_set ?_ (by first | omega | (simp <;> omega)) _))); clear hb0)
    | (go_at_call 16; refine Calls.mono (Read_calls t _ hs (HB.out.below BW.out).env) ?_; rintro e w1 ⟨v1, rfl, hi1, hb1⟩; rw [HR.out]; clear hi1; replace BW := Lib.hid (Below.trans BW.out (hb1.mono BW.out.size)); clear hb1))
  refine bodyPost_ret (v := .tuple #[.pointer none, .int .i64 0, .int .i64 11]) (by simp [results, Tryz.f25, go_sem]) rfl ?_
  exact ⟨rfl, BW.out⟩
end Go.Proofs.YthooacpfmjpdmaaGreatDoor
/- TopMinutes in plain: what is said of minutes of one office, and of minutes with something behind them. Conditions: as said. -/
namespace Go.Proofs.YthooacpfmjpdmaaGreatDoor
open Go.RowKit
theorem min_read {l : List ByteArray} (h : ∀ o ∈ l, okB o.data.toList = true) (hl : l.length ≤ 80) : readO (minF l) = l ∧ readT (minF l) = ⟨#[]⟩ := readO_min h hl
theorem cp_prefix : ∀ (l r : List ByteArray), cp l (l ++ r) = l.length
  | [], r => by cases r <;> rfl
  | x :: l, r => by
    show cp (x :: l) (x :: (l ++ r)) = _
    unfold cp
    rw [if_pos rfl, cp_prefix l r]; rfl
theorem merge_prefix {l r : List ByteArray} (h : ∀ o ∈ l ++ r, okB o.data.toList = true) (hl : (l ++ r).length ≤ 80) : ∃ N, MergeIs (minF l) (minF (l ++ r)) (minF (l ++ r)) N 0 ∧ MergeIs (minF (l ++ r)) (minF l) (minF (l ++ r)) N 0 := by
  obtain ⟨a1, a2⟩ := min_read (l := l) (fun o ho => h o (List.mem_append_left _ ho)) (by rw [List.length_append] at hl; omega)
  obtain ⟨b1, b2⟩ := min_read h hl
  have hc : cp (readO (minF l)) (readO (minF (l ++ r))) = (readO (minF l)).length := by rw [a1, b1]; exact cp_prefix l r
  have hc2 : cp (readO (minF (l ++ r))) (readO (minF l)) = (readO (minF l)).length := by rw [cp_comm]; exact hc
  have hle : (readO (minF l)).length ≤ (readO (minF (l ++ r))).length := by rw [a1, b1, List.length_append]; omega
  by_cases hlt : (readO (minF l)).length < (readO (minF (l ++ r))).length
  · exact ⟨_, .right a2 b2 hlt hc, .left b2 a2 hle hc2⟩
  · have hr : r = [] := by
      rw [a1, b1, List.length_append] at hlt
      exact List.eq_nil_of_length_eq_zero (by omega)
    subst hr
    simp only [List.append_nil] at b1 b2 hc hc2 hle ⊢
    exact ⟨_, .left a2 b2 hle hc, .left a2 b2 hle hc⟩
theorem many_os (x : Off) : ∀ l : List ByteArray, ∃ r, (manyO x l).os = x.os ++ r := by
  intro l
  induction l generalizing x with
  | nil => exact ⟨[], (List.append_nil _).symm⟩
  | cons o l ih =>
    obtain ⟨r, hr⟩ := ih (stepO x o)
    have h1 : ∃ q, (stepO x o).os = x.os ++ q := by
      unfold stepO
      split
      · exact ⟨[o], rfl⟩
      · exact ⟨[], (List.append_nil _).symm⟩
    obtain ⟨q, hq⟩ := h1
    exact ⟨q ++ r, by show (manyO (stepO x o) l).os = _; rw [hr, hq, List.append_assoc]⟩
theorem many_take (x : Off) (l : List ByteArray) {i j : Nat} (h : i ≤ j) : ∃ r, (manyO x (l.take j)).os = (manyO x (l.take i)).os ++ r := by
  have e : l.take j = l.take i ++ (l.take j).drop i := by
    have := (List.take_append_drop i (l.take j)).symm
    rwa [List.take_take, Nat.min_eq_left h] at this
  have e2 : manyO x (l.take j) = manyO (manyO x (l.take i)) ((l.take j).drop i) := by
    conv => lhs; rw [e]
    unfold manyO
    rw [List.foldl_append]
  rw [e2]
  exact many_os _ _
/-- The minutes before each order. -/
def booksF (x : Off) (l : List ByteArray) (j : Nat) : List ByteArray := (List.range j).map fun i => minF (manyO x (l.take i)).os
theorem booksF_len (x : Off) (l : List ByteArray) (j : Nat) : (booksF x l j).length = j := by simp [booksF]
theorem booksF_succ (x : Off) (l : List ByteArray) (j : Nat) : booksF x l (j + 1) = booksF x l j ++ [minF (manyO x (l.take j)).os] := by simp [booksF, List.range_succ]
theorem booksF_get (x : Off) (l : List ByteArray) {j i : Nat} (h : i < j) : gi (booksF x l j) default i = minF (manyO x (l.take i)).os := by
  rw [gi_lt (by rw [booksF_len]; exact h)]
  simp [booksF]
/-- What is read of minutes with something behind them. -/
structure Behind (os : List ByteArray) (whole torn z rest text : ByteArray) (m : List ByteArray) : Prop where
  wh : minF os = whole
  rw' : readO whole = os
  tw : readT whole = ⟨#[]⟩
  zz : whole ++ torn = z
  rm : readO z = m
  rr : readT z = rest
  wt : writeT m = text
  we : writeE m = 0
  tx : text ++ rest = z
  ln : os.length ≤ m.length
  sz : text.size + rest.size = whole.size + torn.size
  sm : whole.size ≤ 3200
theorem behind_of {os : List ByteArray} (h : ∀ o ∈ os, okB o.data.toList = true) (hl : os.length ≤ 80) (torn : ByteArray) : ∃ z rest text m, Behind os (minF os) torn z rest text m := by
  obtain ⟨a1, a2⟩ := min_read h hl
  obtain ⟨p1, p2, p3⟩ := read_parts (minF os ++ torn)
  obtain ⟨e1, e2⟩ := writeE_ok p1 p2
  refine ⟨_, _, _, _, { wh := rfl, rw' := a1, tw := a2, zz := rfl, rm := rfl, rr := rfl, wt := rfl, we := e1, tx := by rw [e2]; exact p3, ln := ?_, sz := ?_, sm := by have := minF_size h; omega }⟩
  · have hb := readF_book (os.map (·.data.toList)) 80 0 torn.data.toList (fun o ho => by obtain ⟨y, hy, rfl⟩ := List.mem_map.1 ho; exact h y hy) (by rw [List.length_map]; exact hl)
    have e : (minF os ++ torn).data.toList = bookF 0 (os.map (·.data.toList)) ++ torn.data.toList := by rw [ByteArray.data_append, Array.toList_append]; rfl
    unfold readO
    rw [e, hb]
    simp
  · have := congrArg ByteArray.size p3
    rw [ByteArray.size_append, ByteArray.size_append] at this
    rw [e2]; exact this
end Go.Proofs.YthooacpfmjpdmaaGreatDoor
/- The law TopMinutes, walked. Conditions: the firm and the texts lie as said; the library's variables read as they were laid. -/
namespace Go.Proofs.YthooacpfmjpdmaaGreatDoor
open Go.RowKit
theorem longT9 {v : Value} {l : List ByteArray} {b : Bool} {w : World} (h : TextsAt w v l) (hb : decide (150 < l.length) = b) : Gives Tryz.prog 18 #[v] w (.bool b) := Long_is h hb
theorem tm_read : readO ⟨#[57, 56, 32, 97, 10, 57, 56]⟩ = [⟨#[97]⟩] := by kernel_rfl
theorem tm_rest : readT ⟨#[57, 56, 32, 97, 10, 57, 56]⟩ = ⟨#[57, 56]⟩ := by kernel_rfl
theorem tm_any {t r : ByteArray} {l : List ByteArray} {y : World} (he : Env y) (hs : t.size ≤ 100000) (h1 : readO t = l) (h2 : readT t = r) : Calls Tryz.prog 16 #[.string t] y fun e w' => ∃ v1, e = .returned (.tuple #[v1, .string r]) ∧ TextsAt w' v1 l ∧ Below y.heap.size y w' :=
  (Read_calls t y hs he).mono fun _ _ ⟨v, he1, hi, hb⟩ => ⟨v, h2 ▸ he1, h1 ▸ own_texts hi, hb⟩
theorem tm_first (y : World) (he : Env y) : Calls Tryz.prog 16 #[.string ⟨#[57, 56, 32, 97, 10, 57, 56]⟩] y fun e w' => ∃ v1, e = .returned (.tuple #[v1, .string ⟨#[57, 56]⟩]) ∧ TextsAt w' v1 [⟨#[97]⟩] ∧ Below y.heap.size y w' :=
  tm_any he (by decide) tm_read tm_rest
set_option maxRecDepth 100000 in
set_option maxHeartbeats 4000000 in
theorem topMinutes_early (v u : Value) (k : Int) (c : Cal) (l : List ByteArray) (t : ByteArray) (w : World) (h : FirmAt w v k c) (hl : TextsAt w u l) (hb : Base w) (hno : largeB c = true ∨ 150 < l.length ∨ 4000 < t.size ∨ NewE k c ≠ 0) :
    Gives Tryz.prog 3 #[v, u, .string t] w (.bool true) := by
  obtain ⟨fa, fc, sa, sc, rfl, hcal⟩ := h.open
  have HF := Lib.hid h
  have HC := Lib.hid hcal
  have HT := Lib.hid hl
  have HB := Lib.hid hb
  obtain ⟨ta, tc, rfl, -⟩ := hl
  clear h hcal hb
  unfold Gives
  obtain ⟨b1, hb1e⟩ : ∃ b, largeB c = b := ⟨_, rfl⟩
  obtain ⟨b2, hb2e⟩ : ∃ b, decide (150 < l.length) = b := ⟨_, rfl⟩
  rw [hb1e] at hno
  have HL1 := Lib.hid hb1e
  have HL2 := Lib.hid hb2e
  have hno2 : b1 = true ∨ b2 = true ∨ 4000 < t.size ∨ NewE k c ≠ 0 := by
    rcases hno with h | h | h
    · exact .inl h
    · exact .inr (.inl (by rw [← hb2e]; exact decide_eq_true h))
    · exact .inr (.inr h)
  clear hb1e hb2e hno
  cases b1 with
  | true =>
    go_enter Tryz.func3, Tryz.ntmps3
    go_wp2_with (first | (go_at_call 16; refine Calls.mono (tm_first _ (HB.out.below (by (repeat' (first | exact Below.refl _ _ | assumption | refine below_new ?_ _ | refine below_draw ?_ | refine below_tail (by assumption) ?_ | refine below_set ?_ (by first | omega | (simp <;> omega)) _)))).env) ?_; rintro e w1 ⟨v1, rfl, HT1, hb1⟩; obtain ⟨ta1, tc1, e1, -⟩ := id HT1; subst e1; obtain ⟨rb, ro, rfl, hrb, hrc⟩ := HT1.cellAt (m := 0) (by decide); clear HT1; have hrd : w1.cell? ⟨rb, ro, none⟩ = some (.string ⟨#[97]⟩) := hrc; clear hrc; have hz1 := hb1.size; (try simp at hz1); have e10 := fun o => hb1.cell (p := ⟨w.heap.size, o, none⟩) (by simp); have hy1 : w.heap.size < w1.heap.size := (by omega)) | (go_at_call 17; refine (Large_is (HF.out.below (by (repeat' (first | exact Below.refl _ _ | assumption | refine below_new ?_ _ | refine below_draw ?_ | refine below_tail (by assumption) ?_ | refine below_set ?_ (by first | omega | (simp <;> omega)) _)))) HL1.out).use ?_; intro w2 hb2 hz2 hc2 hf2; (try simp at hz2); have hy2 : w.heap.size < w2.heap.size := (by omega); have e20 := fun o => (hc2 w.heap.size o hy1).trans (e10 o); clear hc2 hf2))
    go_ret
    exact ⟨rfl, by (repeat' (first | exact Below.refl _ _ | assumption | refine below_new ?_ _ | refine below_draw ?_ | refine below_tail (by assumption) ?_ | refine below_set ?_ (by first | omega | (simp <;> omega)) _))⟩
  | false =>
  cases b2 with
  | true =>
    go_enter Tryz.func3, Tryz.ntmps3
    go_wp2_with (first | (go_at_call 16; refine Calls.mono (tm_first _ (HB.out.below (by (repeat' (first | exact Below.refl _ _ | assumption | refine below_new ?_ _ | refine below_draw ?_ | refine below_tail (by assumption) ?_ | refine below_set ?_ (by first | omega | (simp <;> omega)) _)))).env) ?_; rintro e w1 ⟨v1, rfl, HT1, hb1⟩; obtain ⟨ta1, tc1, e1, -⟩ := id HT1; subst e1; obtain ⟨rb, ro, rfl, hrb, hrc⟩ := HT1.cellAt (m := 0) (by decide); clear HT1; have hrd : w1.cell? ⟨rb, ro, none⟩ = some (.string ⟨#[97]⟩) := hrc; clear hrc; have hz1 := hb1.size; (try simp at hz1); have e10 := fun o => hb1.cell (p := ⟨w.heap.size, o, none⟩) (by simp); have hy1 : w.heap.size < w1.heap.size := (by omega)) | (go_at_call 17; refine (Large_is (HF.out.below (by (repeat' (first | exact Below.refl _ _ | assumption | refine below_new ?_ _ | refine below_draw ?_ | refine below_tail (by assumption) ?_ | refine below_set ?_ (by first | omega | (simp <;> omega)) _)))) HL1.out).use ?_; intro w2 hb2 hz2 hc2 hf2; (try simp at hz2); have hy2 : w.heap.size < w2.heap.size := (by omega); have e20 := fun o => (hc2 w.heap.size o hy1).trans (e10 o); clear hc2 hf2) | (go_at_call 18; refine (longT9 (HT.out.below (by (repeat' (first | exact Below.refl _ _ | assumption | refine below_new ?_ _ | refine below_draw ?_ | refine below_tail (by assumption) ?_ | refine below_set ?_ (by first | omega | (simp <;> omega)) _)))) HL2.out).use ?_; intro w3 hb3 hz3 hc3 hf3; (try simp at hz3); have hy3 : w.heap.size < w3.heap.size := (by omega); have e30 := fun o => (hc3 w.heap.size o hy2).trans (e20 o); clear hc3 hf3))
    go_ret
    exact ⟨rfl, by (repeat' (first | exact Below.refl _ _ | assumption | refine below_new ?_ _ | refine below_draw ?_ | refine below_tail (by assumption) ?_ | refine below_set ?_ (by first | omega | (simp <;> omega)) _))⟩
  | false =>
  by_cases hts : 4000 < t.size
  · have k1 : decide ((4000 : Int) < (t.size : Int)) = true := decide_eq_true (by omega)
    have k1' : (4000 : Int) < (t.size : Int) := by omega
    clear hts hno2
    go_enter Tryz.func3, Tryz.ntmps3
    go_wp2_with (first | (go_at_call 16; refine Calls.mono (tm_first _ (HB.out.below (by (repeat' (first | exact Below.refl _ _ | assumption | refine below_new ?_ _ | refine below_draw ?_ | refine below_tail (by assumption) ?_ | refine below_set ?_ (by first | omega | (simp <;> omega)) _)))).env) ?_; rintro e w1 ⟨v1, rfl, HT1, hb1⟩; obtain ⟨ta1, tc1, e1, -⟩ := id HT1; subst e1; obtain ⟨rb, ro, rfl, hrb, hrc⟩ := HT1.cellAt (m := 0) (by decide); clear HT1; have hrd : w1.cell? ⟨rb, ro, none⟩ = some (.string ⟨#[97]⟩) := hrc; clear hrc; have hz1 := hb1.size; (try simp at hz1); have e10 := fun o => hb1.cell (p := ⟨w.heap.size, o, none⟩) (by simp); have hy1 : w.heap.size < w1.heap.size := (by omega)) | (go_at_call 17; refine (Large_is (HF.out.below (by (repeat' (first | exact Below.refl _ _ | assumption | refine below_new ?_ _ | refine below_draw ?_ | refine below_tail (by assumption) ?_ | refine below_set ?_ (by first | omega | (simp <;> omega)) _)))) HL1.out).use ?_; intro w2 hb2 hz2 hc2 hf2; (try simp at hz2); have hy2 : w.heap.size < w2.heap.size := (by omega); have e20 := fun o => (hc2 w.heap.size o hy1).trans (e10 o); clear hc2 hf2) | (go_at_call 18; refine (longT9 (HT.out.below (by (repeat' (first | exact Below.refl _ _ | assumption | refine below_new ?_ _ | refine below_draw ?_ | refine below_tail (by assumption) ?_ | refine below_set ?_ (by first | omega | (simp <;> omega)) _)))) HL2.out).use ?_; intro w3 hb3 hz3 hc3 hf3; (try simp at hz3); have hy3 : w.heap.size < w3.heap.size := (by omega); have e30 := fun o => (hc3 w.heap.size o hy2).trans (e20 o); clear hc3 hf3))
    go_ret
    exact ⟨rfl, by (repeat' (first | exact Below.refl _ _ | assumption | refine below_new ?_ _ | refine below_draw ?_ | refine below_tail (by assumption) ?_ | refine below_set ?_ (by first | omega | (simp <;> omega)) _))⟩
  · have k1 : decide ((4000 : Int) < (t.size : Int)) = false := decide_eq_false (by omega)
    have k1' : ¬ (4000 : Int) < (t.size : Int) := by omega
    have hz0 : NewE k c ≠ 0 := by
      rcases hno2 with h | h | h | h
      · cases h
      · cases h
      · exact absurd h hts
      · exact h
    obtain ⟨r, hr⟩ : ∃ r, NewE k c = r := ⟨_, rfl⟩
    have HR := Lib.hid hr
    have hz : r ≠ 0 := by rw [← hr]; exact hz0
    have kr : (r != 0) = true := by simpa using hz
    clear hno2 hts hz0 hr
    go_enter Tryz.func3, Tryz.ntmps3
    go_wp2_with (first | (go_at_call 16; refine Calls.mono (tm_first _ (HB.out.below (by (repeat' (first | exact Below.refl _ _ | assumption | refine below_new ?_ _ | refine below_draw ?_ | refine below_tail (by assumption) ?_ | refine below_set ?_ (by first | omega | (simp <;> omega)) _)))).env) ?_; rintro e w1 ⟨v1, rfl, HT1, hb1⟩; obtain ⟨ta1, tc1, e1, -⟩ := id HT1; subst e1; obtain ⟨rb, ro, rfl, hrb, hrc⟩ := HT1.cellAt (m := 0) (by decide); clear HT1; have hrd : w1.cell? ⟨rb, ro, none⟩ = some (.string ⟨#[97]⟩) := hrc; clear hrc; have hz1 := hb1.size; (try simp at hz1); have e10 := fun o => hb1.cell (p := ⟨w.heap.size, o, none⟩) (by simp); have hy1 : w.heap.size < w1.heap.size := (by omega)) | (go_at_call 17; refine (Large_is (HF.out.below (by (repeat' (first | exact Below.refl _ _ | assumption | refine below_new ?_ _ | refine below_draw ?_ | refine below_tail (by assumption) ?_ | refine below_set ?_ (by first | omega | (simp <;> omega)) _)))) HL1.out).use ?_; intro w2 hb2 hz2 hc2 hf2; (try simp at hz2); have hy2 : w.heap.size < w2.heap.size := (by omega); have e20 := fun o => (hc2 w.heap.size o hy1).trans (e10 o); clear hc2 hf2) | (go_at_call 18; refine (longT9 (HT.out.below (by (repeat' (first | exact Below.refl _ _ | assumption | refine below_new ?_ _ | refine below_draw ?_ | refine below_tail (by assumption) ?_ | refine below_set ?_ (by first | omega | (simp <;> omega)) _)))) HL2.out).use ?_; intro w3 hb3 hz3 hc3 hf3; (try simp at hz3); have hy3 : w.heap.size < w3.heap.size := (by omega); have e30 := fun o => (hc3 w.heap.size o hy2).trans (e20 o); clear hc3 hf3) | (go_at_call 19; refine (New_bad k _ c _ (HC.out.below (by (repeat' (first | exact Below.refl _ _ | assumption | refine below_new ?_ _ | refine below_draw ?_ | refine below_tail (by assumption) ?_ | refine below_set ?_ (by first | omega | (simp <;> omega)) _)))) r HR.out hz).use ?_; intro w4 hb4 hz4 hc4 hf4; clear hc4 hf4))
    go_ret
    exact ⟨rfl, by (repeat' (first | exact Below.refl _ _ | assumption | refine below_new ?_ _ | refine below_draw ?_ | refine below_tail (by assumption) ?_ | refine below_set ?_ (by first | omega | (simp <;> omega)) _))⟩
end Go.Proofs.YthooacpfmjpdmaaGreatDoor
/- The law TopMinutes, its long case: walked as far as the first loop. Conditions: as said. -/
namespace Go.Proofs.YthooacpfmjpdmaaGreatDoor
open Go.RowKit
set_option maxRecDepth 100000 in
set_option maxHeartbeats 4000000 in
theorem topMinutes_late (v u : Value) (k : Int) (c : Cal) (l : List ByteArray) (t : ByteArray) (w : World) (h : FirmAt w v k c) (hl : TextsAt w u l) (hb : Base w) (h1 : largeB c = false) (h2 : decide (150 < l.length) = false) (h3 : t.size ≤ 4000) (hz : NewE k c = 0) :
    Gives Tryz.prog 3 #[v, u, .string t] w (.bool true) := by
  obtain ⟨fa, fc, sa, sc, rfl, hcal⟩ := h.open
  have HF := Lib.hid h
  have HC := Lib.hid hcal
  have HT := Lib.hid hl
  have HB := Lib.hid hb
  have h9 := hb.nine
  have HL1 := Lib.hid h1
  have HL2 := Lib.hid h2
  have HZ := Lib.hid hz
  obtain ⟨i0, hi0, hz0, hi1_, hi2_⟩ := info_parts infoStr
  obtain ⟨ta, tc, rfl, -⟩ := hl
  obtain ⟨X, hX⟩ : ∃ X, l.length = X := ⟨_, rfl⟩
  have HX := Lib.hid hX
  rw [hX] at HT ⊢
  have k1 : decide ((4000 : Int) < (t.size : Int)) = false := decide_eq_false (by omega)
  have k1' : ¬ (4000 : Int) < (t.size : Int) := by omega
  clear h hcal hb h1 h2 hz hX
  unfold Gives
  go_enter Tryz.func3, Tryz.ntmps3
  go_wp2_with (first
    | (go_at_call 16; refine Calls.mono (tm_first _ (HB.out.below (by (repeat' (first | exact Below.refl _ _ | assumption | refine below_new ?_ _ | refine below_draw ?_ | refine below_tail (by assumption) ?_ | refine below_set ?_ (by first | omega | (simp <;> omega)) _)))).env) ?_; rintro e w1 ⟨v1, rfl, HT1, hb1⟩; obtain ⟨ta1, tc1, e1, -⟩ := id HT1; subst e1; obtain ⟨rb, ro, rfl, hrb, hrc⟩ := HT1.cellAt (m := 0) (by decide); clear HT1; have hrd : w1.cell? ⟨rb, ro, none⟩ = some (.string ⟨#[97]⟩) := hrc; clear hrc; have hz1 := hb1.size; (try simp at hz1); have e10 := fun o => hb1.cell (p := ⟨w.heap.size, o, none⟩) (by simp); have hy1 : w.heap.size < w1.heap.size := (by omega))
    | (go_at_call 17; refine (Large_is (HF.out.below (by (repeat' (first | exact Below.refl _ _ | assumption | refine below_new ?_ _ | refine below_draw ?_ | refine below_tail (by assumption) ?_ | refine below_set ?_ (by first | omega | (simp <;> omega)) _)))) HL1.out).use ?_; intro w2 hb2 hz2 hc2 hf2; (try simp at hz2); have hy2 : w.heap.size < w2.heap.size := (by omega); have e20 := fun o => (hc2 w.heap.size o hy1).trans (e10 o); clear hc2 hf2)
    | (go_at_call 18; refine (longT9 (HT.out.below (by (repeat' (first | exact Below.refl _ _ | assumption | refine below_new ?_ _ | refine below_draw ?_ | refine below_tail (by assumption) ?_ | refine below_set ?_ (by first | omega | (simp <;> omega)) _)))) HL2.out).use ?_; intro w3 hb3 hz3 hc3 hf3; (try simp at hz3); have hy3 : w.heap.size < w3.heap.size := (by omega); have e30 := fun o => (hc3 w.heap.size o hy2).trans (e20 o); clear hc3 hf3)
    | (go_at_call 19; refine Calls.mono (New_t 0 k _ c _ (HC.out.below (by (repeat' (first | exact Below.refl _ _ | assumption | refine below_new ?_ _ | refine below_draw ?_ | refine below_tail (by assumption) ?_ | refine below_set ?_ (by first | omega | (simp <;> omega)) _)))) HZ.out) ?_; rintro e w4 ⟨B, rfl, ⟨ho4, hm4⟩, hb4⟩; have BW3 : Hid (Below w.heap.size w w3) := (by (repeat' (first | exact Below.refl _ _ | assumption | refine below_new ?_ _ | refine below_draw ?_ | refine below_tail (by assumption) ?_ | refine below_set ?_ (by first | omega | (simp <;> omega)) _))); have BW : Hid (Below w3.heap.size w3 w4) := hb4; have e40 : Hid (∀ o, w3.cell? ⟨w.heap.size, o, none⟩ = (w.alloc (.cells #[.int .i64 k, .int .i64 c.first, .slice fa c.free.length fc, .slice sa c.still.length sc] 27)).cell? ⟨w.heap.size, o, none⟩) := fun o => e30 o; have hm3 : w.heap.size ≤ w3.heap.size := Nat.le_of_lt hy3; have h93 : 9 ≤ w3.heap.size := Nat.le_trans h9 hm3))
  have HBS : Hid (Beside w3.heap.size w4.heap.size w4 B k.toNat (manyO (newO k.toNat c) (l.take 0)) (.slice none 0 0) (.slice none 0 0) (booksF (newO k.toNat c) l 0)) :=
    { off := ho4, made := hm4, row := World.ownsRow_nil _ _ _ _, nB := (by intro e; cases e), nO := (by intro b e; cases e) }
  have hBl : B < w4.heap.size := ho4.facts.2.1
  clear ho4 hm4
  go_loopw [11, 12] (fun v i wr => ∃ (j : Nat) (ov : Value) (va : Option Addr) (vc : Nat), j ≤ X ∧ j ≤ 25 ∧ i = .int .i64 j ∧ v = .slice va j vc ∧ Hid (Below w3.heap.size w3 wr) ∧ w4.heap.size ≤ wr.heap.size ∧ Hid (Beside w3.heap.size w4.heap.size wr B k.toNat (manyO (newO k.toNat c) (l.take j)) ov (.slice va j vc) (booksF (newO k.toNat c) l j))) (fun _ i _ => 25 - (intOf i).toNat)
  case atStart => exact ⟨0, .slice none 0 0, none, 0, Nat.zero_le _, Nat.zero_le _, rfl, rfl, BW, Nat.le_refl _, HBS⟩
  case round =>
    obtain ⟨j, ov, va, vc, hj, hj25, rfl, rfl, hbw, hsz, hbs⟩ := hrel
    have HJ : Hid (booksF (newO k.toNat c) l (j + 1) = booksF (newO k.toNat c) l j ++ [minF (manyO (newO k.toNat c) (l.take j)).os]) := booksF_succ _ _ _
    by_cases hlt : j < X
    · have k2 : decide ((j : Int) < (X : Int)) = true := decide_eq_true (by omega)
      by_cases h25 : j < 25
      · have k3 : decide ((j : Int) < 25) = true := decide_eq_true (by omega)
        obtain ⟨q, hq⟩ : ∃ q, minF (manyO (newO k.toNat c) (l.take j)).os = q := ⟨_, rfl⟩
        have HQ := Lib.hid hq
        rw [hq] at HJ
        clear hq
        obtain ⟨tb, tof, rfl, hBc, hcell⟩ := (HT.out.below (Below.trans BW3.out (hbw.out.mono BW3.out.size))).cellAt (m := j) (by rw [HX.out]; exact hlt)
        obtain ⟨d, hd⟩ : ∃ d, gi l default j = d := ⟨_, rfl⟩
        have HTK : Hid (l.take (j + 1) = l.take j ++ [d]) := by show _ = _; rw [List.take_succ_eq_append_getElem (by rw [HX.out]; exact hlt), ← hd, gi_lt (by rw [HX.out]; exact hlt)]
        rw [hd] at hcell
        clear hd
        have hw6 : IntKind.i64.wrap ((j : Int) + 1) = (j : Int) + 1 := IntWalk.i64_in _ (by omega)
        have HBK := Lib.hid (booksF_len (newO k.toNat c) l j)
        have htbB : tb < w4.heap.size := by
          obtain ⟨tb2, tof2, e2, h2, -⟩ := HT.out.cellAt (m := j) (by rw [HX.out]; exact hlt)
          injection e2 with e2
          injection e2 with e2
          have := BW.out.size
          omega
        go_wp2_with (first
          | (go_at_call 20; (with_reducible refine ((hbs.out.toS).min HQ.out).use ?_); intro w5 hb5 hz5 hc5 hf5; have hcell5 := (hc5 tb (tof + j) hBc).trans hcell; have htb5 : tb < w5.heap.size := (by omega); clear hc5 hf5 hcell; replace hbs := Lib.hid (hbs.out.below hb5); have HB5 := Lib.hid hb5; clear hb5)
          | (at_builtin; refine wpList_append_own_at _ rfl _ _ 28 rfl w4.heap.size 9 i0 (.string ⟨#[]⟩) 1 16 Tryz.underlying28 hi0 hz0 hi1_ hi2_ rfl (by decide) _ _ _ rfl ((HBK.out ▸ hbs.out.row : _).alloc _) ⟨w5.heap.size, 0, none⟩ 1 1 [.string q] rfl rfl (app_src1 _ _ _) (one_str _) (by unfold maxLen; omega) (by omega) (by first | omega | (simp; omega)) ?_; intro v' w6 hown6 hgrow6 _ hat6; replace hat6 : v'.ownBlock = (Value.slice va j vc).ownBlock ∨ v'.ownBlock = some (w5.alloc (.cells #[.string q] 9)).heap.size := hat6; replace hgrow6 : (w5.alloc (.cells #[.string q] 9)).grownBy w6 (Value.slice va j vc).ownBlock := hgrow6; have hcell6 : w6.cell? ⟨tb, tof + j, none⟩ = some (.string d) := beside_cell hbs.out.row hgrow6 htbB htb5 hcell5; obtain ⟨va6, vc6, rfl⟩ := own_slice hown6; have HB6 : Hid (Beside w3.heap.size w4.heap.size w6 B k.toNat (manyO (newO k.toNat c) (l.take j)) ov (.slice va6 (j + 1) vc6) (booksF (newO k.toNat c) l (j + 1))) := hbs.out.grow hBl hown6 hgrow6 hat6 HJ.out HBK.out; have HW6 : Hid (Below w3.heap.size w3 w6) := Below.trans (hbw.out.trans (HB5.out.mono hbw.out.size)) (beside_below hbs.out.row hgrow6 BW.out.size (Nat.le_trans BW.out.size (Nat.le_trans hsz HB5.out.size))); have hz6 : w4.heap.size ≤ w6.heap.size := (by have := hgrow6.size; simp at this; omega); clear hcell5 hat6 hgrow6 hown6 hbs)
          | (go_at_call 21; refine Calls.mono (HB6.out.step d h93 (HB.out.below (Below.trans BW3.out (HW6.out.mono BW3.out.size)))) ?_; rintro e w7 ⟨rfl, ⟨ov7, hbs7⟩, hb7⟩; have HBS7 := Lib.hid hbs7; clear hbs7))
        go_roundw
        case rel => exact ⟨j + 1, ov7, va6, vc6, by omega, by omega, by go_num, rfl, HW6.out.trans hb7, by have := hb7.size; omega, by unfold Hid; rw [HTK.out, manyO_snoc]; exact HBS7.out⟩
        case measure => simp [intOf]; omega
      · have k3 : decide ((j : Int) < 25) = false := decide_eq_false (by omega)
        have hBW : Hid (Below w.heap.size w wr) := Below.trans BW3.out (hbw.out.mono BW3.out.size)
        obtain ⟨x, hx⟩ : ∃ x, manyO (newO k.toNat c) (l.take j) = x := ⟨_, rfl⟩
        have HMY := hbs.out.made
        rw [hx] at HMY
        obtain ⟨bs, hbk⟩ : ∃ bs, booksF (newO k.toNat c) l j = bs := ⟨_, rfl⟩
        obtain ⟨wh, hwh⟩ : ∃ wh, minF x.os = wh := ⟨_, rfl⟩
        have HTB : Hid (TextsAt wr (.slice va j vc) bs) := by
          have h1 := hbs.out.row
          rw [hbk] at h1
          have h2 := booksF_len (newO k.toNat c) l j
          rw [hbk] at h2
          show TextsAt _ _ _
          rw [h2] at h1
          rw [← h2] at h1
          have h3 := own_texts h1
          rwa [h2] at h3
        have HLN : Hid (bs.length = j) := by show _ = _; rw [← hbk]; exact booksF_len _ _ _
        have HMG : Hid (∀ i, i < j → (gi bs default i).size ≤ 3200 ∧ ∃ N, MergeIs (gi bs default i) wh wh N 0 ∧ MergeIs wh (gi bs default i) wh N 0) := fun i hi => by
          obtain ⟨r, hr⟩ := many_take (newO k.toNat c) l (Nat.le_of_lt hi)
          rw [hx] at hr
          have h1 : gi bs default i = minF (manyO (newO k.toNat c) (l.take i)).os := by rw [← hbk]; exact booksF_get _ _ hi
          have h2 := merge_prefix (l := (manyO (newO k.toNat c) (l.take i)).os) (r := r) (by rw [← hr]; exact HMY.ok) (by rw [← hr]; exact HMY.few)
          rw [← hr, hwh, ← h1] at h2
          refine ⟨?_, h2⟩
          have h3 := minF_size (l := (manyO (newO k.toNat c) (l.take i)).os) (fun o ho => HMY.ok o (by rw [hr]; exact List.mem_append_left _ ho))
          have h4 := HMY.few
          rw [hr, List.length_append] at h4
          rw [h1]; omega
        obtain ⟨z, rest, text, m, hbh⟩ := behind_of HMY.ok HMY.few t
        rw [hwh] at hbh
        have HBH := Lib.hid hbh
        have hwz : wh.size ≤ 3200 := hbh.sm
        have hsum := hbh.sz
        obtain ⟨A, hA⟩ : ∃ A, text.size = A := ⟨_, rfl⟩
        obtain ⟨R, hR⟩ : ∃ R, rest.size = R := ⟨_, rfl⟩
        obtain ⟨H, hH⟩ : ∃ H, wh.size = H := ⟨_, rfl⟩
        obtain ⟨M, hM⟩ : ∃ M, m.length = M := ⟨_, rfl⟩
        obtain ⟨L, hL⟩ : ∃ L, x.os.length = L := ⟨_, rfl⟩
        have hML : L ≤ M := by rw [← hM, ← hL]; exact hbh.ln
        have HMM := Lib.hid hM
        have HLL := Lib.hid hL
        rw [hA, hR, hH] at hsum
        have hHz : H ≤ 3200 := by omega
        have c1 : ¬ 9223372036854775807 < H + t.size := by omega
        have c2 : ¬ 9223372036854775807 < A + R := by omega
        have hwA : IntKind.i64.wrap ((H : Int) + (t.size : Int)) = (H : Int) + (t.size : Int) := IntWalk.i64_in _ (by omega)
        have hwB : IntKind.i64.wrap ((H : Int) + (t.size : Int) - (R : Int)) = (A : Int) := by rw [IntWalk.i64_in _ (by omega)]; omega
        have kM : decide ((M : Int) < (L : Int)) = false := decide_eq_false (by omega)
        have kM' : ¬ M < L := by omega
        have htx := hbh.tx
        have hzz := hbh.zz
        have hzs : z.size ≤ 100000 := by rw [← hzz, ByteArray.size_append]; omega
        have hws : wh.size ≤ 100000 := by omega
        have HOS := Lib.hid (show minF x.os = wh from hwh)
        have HBQ : Hid (OffS w3.heap.size wr B k.toNat x) := hx ▸ hbs.out.toS
        have e4r : Hid (∀ o, wr.cell? ⟨w.heap.size, o, none⟩ = (w.alloc (.cells #[.int .i64 k, .int .i64 c.first, .slice fa c.free.length fc, .slice sa c.still.length sc] 27)).cell? ⟨w.heap.size, o, none⟩) := fun o => (hbw.out.cell (p := ⟨w.heap.size, o, none⟩) (by exact hy3)).trans (e40.out o)
        have HWT : Hid (∀ v y, TextsAt y v m → Env y → Gives Tryz.prog 23 #[v] y (.tuple #[.string text, .int .i64 0])) := fun v y h he => by
          have := Write_calls v m y h he
          rwa [HBH.out.wt, HBH.out.we] at this
        have hxr : w.heap.size < wr.heap.size := by have := hbw.out.size; omega
        clear hbs hbk hx hwh hbh HMY hM hL HJ hwz
        go_wp2_with (go_at_call 20; (with_reducible refine (HBQ.out.min HOS.out).use ?_); intro w5 hb5 hz5 hc5 hf5; replace HTB := Lib.hid (HTB.out.below hb5); replace hBW := Lib.hid (Below.trans hBW.out (hb5.mono hBW.out.size)); replace e4r : Hid (∀ o, w5.cell? ⟨w.heap.size, o, none⟩ = (w.alloc (.cells #[.int .i64 k, .int .i64 c.first, .slice fa c.free.length fc, .slice sa c.still.length sc] 27)).cell? ⟨w.heap.size, o, none⟩) := fun o => (hb5.cell (p := ⟨w.heap.size, o, none⟩) hxr).trans (e4r.out o); replace hxr : w.heap.size < w5.heap.size := (by omega); clear hc5 hf5 hz5 hb5 HBQ)
        go_loopw [14, 15, 16, 17, 18, 19, 20] (fun i2 _ _ _ _ _ _ wr => ∃ (i : Nat), i ≤ j ∧ i2 = .int .i64 i ∧ Hid (Below w5.heap.size w5 wr)) (fun i _ _ _ _ _ _ _ => 25 - (intOf i).toNat)
        case atStart => exact ⟨0, Nat.zero_le _, rfl, Below.refl _ _⟩
        case round =>
          obtain ⟨i, hij, rfl, hbq⟩ := hrel
          by_cases hi : i < j
          · have q2 : decide ((i : Int) < (j : Int)) = true := decide_eq_true (by omega)
            obtain ⟨g1, N, g2, g3⟩ := HMG.out i hi
            have HTB2 := Lib.hid HTB.out
            obtain ⟨tb, tof, rfl, hBc, hcell⟩ := (HTB2.out.below hbq.out).cellAt (m := i) (by rw [HLN.out]; exact hi)
            obtain ⟨bq, hbq1⟩ : ∃ bq, gi bs default i = bq := ⟨_, rfl⟩
            rw [hbq1] at g1 g2 g3 hcell
            have G2 := Lib.hid g2
            have G3 := Lib.hid g3
            have hqs : bq.size ≤ 100000 := by omega
            clear hbq1 g1 g2 g3 HTB2
            have hw6 : IntKind.i64.wrap ((i : Int) + 1) = (i : Int) + 1 := IntWalk.i64_in _ (by omega)
            have HQ : Hid (Below w.heap.size w _) := Below.trans hBW.out (hbq.out.mono hBW.out.size)
            go_wp2_with (first
              | (go_at_call 22; (with_reducible refine (pMerge_calls G2.out hqs hws (HB.out.below HQ.out)).use ?_); intro w6 hb6 hz6 hc6 hf6; have hcell6 := (hc6 tb (tof + i) hBc).trans hcell; have HQ6 := Lib.hid (Below.trans HQ.out (hb6.mono HQ.out.size)); have HB6 := Lib.hid hb6; clear hc6 hf6 hb6 hcell)
              | (go_at_call 22; (with_reducible refine (pMerge_calls G3.out hws hqs (HB.out.below HQ6.out)).use ?_); intro w7 hb7 hz7 hc7 hf7; have HB7 := Lib.hid hb7; clear hc7 hf7 hb7))
            go_roundw
            case rel => exact ⟨i + 1, by omega, by go_num, Below.trans hbq.out ((HB6.out.trans (HB7.out.mono HB6.out.size)).mono hbq.out.size)⟩
            case measure => simp [intOf]; omega
          · have q2 : decide ((i : Int) < (j : Int)) = false := decide_eq_false (by omega)
            have hQ : Hid (Below w.heap.size w wr) := Below.trans hBW.out (hbq.out.mono hBW.out.size)
            have e4q : Hid (∀ o, wr.cell? ⟨w.heap.size, o, none⟩ = (w.alloc (.cells #[.int .i64 k, .int .i64 c.first, .slice fa c.free.length fc, .slice sa c.still.length sc] 27)).cell? ⟨w.heap.size, o, none⟩) := fun o => (hbq.out.cell (p := ⟨w.heap.size, o, none⟩) hxr).trans (e4r.out o)
            have hxq : w.heap.size < wr.heap.size := by have := hbq.out.size; omega
            clear HTB HMG hbq HOS
            by_cases hre : rest = ⟨#[]⟩
            · have kre : rest.toList.isEmpty = true := by rw [hre]; kernel_rfl
              clear hre
              go_wp2_with (first
                | (go_at_call 16; (with_reducible refine Calls.mono (Read_calls z _ hzs (HB.out.below hQ.out).env) ?_); rintro e w6 ⟨v6, rfl, hi6, hb6⟩; rw [HBH.out.rr]; rw [HBH.out.rm] at hi6; have HT6 := Lib.hid (own_texts hi6); clear hi6; obtain ⟨ma, mc, e6, -⟩ := id HT6.out; rw [HMM.out] at e6; subst e6; replace e4q : Hid (∀ o, w6.cell? ⟨w.heap.size, o, none⟩ = (w.alloc (.cells #[.int .i64 k, .int .i64 c.first, .slice fa c.free.length fc, .slice sa c.still.length sc] 27)).cell? ⟨w.heap.size, o, none⟩) := fun o => (hb6.cell (p := ⟨w.heap.size, o, none⟩) hxq).trans (e4q.out o); replace hxq : w.heap.size < w6.heap.size := Nat.lt_of_lt_of_le hxq hb6.size; replace hQ := Lib.hid (Below.trans hQ.out (hb6.mono hQ.out.size)); clear hb6)
                | (go_at_call 16; (with_reducible refine Calls.mono (Read_calls wh _ hws (HB.out.below hQ.out).env) ?_); rintro e w7 ⟨v7, rfl, hi7, hb7⟩; rw [HBH.out.tw]; rw [HBH.out.rw'] at hi7; have HT7 := Lib.hid (own_texts hi7); clear hi7; obtain ⟨oa, oc, e7, -⟩ := id HT7.out; rw [HLL.out] at e7; subst e7; clear HT7; replace HT6 := Lib.hid (HT6.out.below hb7); replace e4q : Hid (∀ o, w7.cell? ⟨w.heap.size, o, none⟩ = (w.alloc (.cells #[.int .i64 k, .int .i64 c.first, .slice fa c.free.length fc, .slice sa c.still.length sc] 27)).cell? ⟨w.heap.size, o, none⟩) := fun o => (hb7.cell (p := ⟨w.heap.size, o, none⟩) hxq).trans (e4q.out o); replace hxq : w.heap.size < w7.heap.size := Nat.lt_of_lt_of_le hxq hb7.size; replace hQ := Lib.hid (Below.trans hQ.out (hb7.mono hQ.out.size)); clear hb7)
                | (go_at_call 23; refine (HWT.out _ _ HT6.out (HB.out.below hQ.out).env).use ?_; intro w8 hb8 hz8 hc8 hf8; clear hc8 hf8 hz8 HT6; replace e4q : Hid (∀ o, w8.cell? ⟨w.heap.size, o, none⟩ = (w.alloc (.cells #[.int .i64 k, .int .i64 c.first, .slice fa c.free.length fc, .slice sa c.still.length sc] 27)).cell? ⟨w.heap.size, o, none⟩) := fun o => (hb8.cell (p := ⟨w.heap.size, o, none⟩) hxq).trans (e4q.out o); replace hxq : w.heap.size < w8.heap.size := Nat.lt_of_lt_of_le hxq hb8.size; replace hQ := Lib.hid (Below.trans hQ.out (hb8.mono hQ.out.size)); clear hb8)
                | (go_at_call 24; refine (sameInts_is (t := true) ((ints1 rfl).below ((Below.refl _ _).alloc (Nat.le_refl _) _)) (ints1 (by simp)) (by simp)).use ?_; intro w9 hb9 hz9 hc9 hf9; clear hc9 hf9 hz9; replace hb9 : Below w8.heap.size w8 w9 := (((Below.refl _ w8).alloc (Nat.le_refl _) _).alloc (by simp) _).trans (hb9.mono (by simp; omega)); replace e4q : Hid (∀ o, w9.cell? ⟨w.heap.size, o, none⟩ = (w.alloc (.cells #[.int .i64 k, .int .i64 c.first, .slice fa c.free.length fc, .slice sa c.still.length sc] 27)).cell? ⟨w.heap.size, o, none⟩) := fun o => (hb9.cell (p := ⟨w.heap.size, o, none⟩) hxq).trans (e4q.out o); replace hxq : w.heap.size < w9.heap.size := Nat.lt_of_lt_of_le hxq hb9.size; replace hQ := Lib.hid (Below.trans hQ.out (hb9.mono hQ.out.size)); clear hb9))
              go_ret
              exact ⟨rfl, hQ.out⟩
            · have kre := ne_empty hre
              go_wp2_with (first
                | (go_at_call 16; (with_reducible refine Calls.mono (Read_calls z _ hzs (HB.out.below hQ.out).env) ?_); rintro e w6 ⟨v6, rfl, hi6, hb6⟩; rw [HBH.out.rr]; rw [HBH.out.rm] at hi6; have HT6 := Lib.hid (own_texts hi6); clear hi6; obtain ⟨ma, mc, e6, -⟩ := id HT6.out; rw [HMM.out] at e6; subst e6; replace e4q : Hid (∀ o, w6.cell? ⟨w.heap.size, o, none⟩ = (w.alloc (.cells #[.int .i64 k, .int .i64 c.first, .slice fa c.free.length fc, .slice sa c.still.length sc] 27)).cell? ⟨w.heap.size, o, none⟩) := fun o => (hb6.cell (p := ⟨w.heap.size, o, none⟩) hxq).trans (e4q.out o); replace hxq : w.heap.size < w6.heap.size := Nat.lt_of_lt_of_le hxq hb6.size; replace hQ := Lib.hid (Below.trans hQ.out (hb6.mono hQ.out.size)); clear hb6)
                | (go_at_call 16; (with_reducible refine Calls.mono (Read_calls wh _ hws (HB.out.below hQ.out).env) ?_); rintro e w7 ⟨v7, rfl, hi7, hb7⟩; rw [HBH.out.tw]; rw [HBH.out.rw'] at hi7; have HT7 := Lib.hid (own_texts hi7); clear hi7; obtain ⟨oa, oc, e7, -⟩ := id HT7.out; rw [HLL.out] at e7; subst e7; clear HT7; replace HT6 := Lib.hid (HT6.out.below hb7); replace e4q : Hid (∀ o, w7.cell? ⟨w.heap.size, o, none⟩ = (w.alloc (.cells #[.int .i64 k, .int .i64 c.first, .slice fa c.free.length fc, .slice sa c.still.length sc] 27)).cell? ⟨w.heap.size, o, none⟩) := fun o => (hb7.cell (p := ⟨w.heap.size, o, none⟩) hxq).trans (e4q.out o); replace hxq : w.heap.size < w7.heap.size := Nat.lt_of_lt_of_le hxq hb7.size; replace hQ := Lib.hid (Below.trans hQ.out (hb7.mono hQ.out.size)); clear hb7)
                | (go_at_call 23; refine (HWT.out _ _ HT6.out (HB.out.below hQ.out).env).use ?_; intro w8 hb8 hz8 hc8 hf8; clear hc8 hf8 hz8 HT6; replace e4q : Hid (∀ o, w8.cell? ⟨w.heap.size, o, none⟩ = (w.alloc (.cells #[.int .i64 k, .int .i64 c.first, .slice fa c.free.length fc, .slice sa c.still.length sc] 27)).cell? ⟨w.heap.size, o, none⟩) := fun o => (hb8.cell (p := ⟨w.heap.size, o, none⟩) hxq).trans (e4q.out o); replace hxq : w.heap.size < w8.heap.size := Nat.lt_of_lt_of_le hxq hb8.size; replace hQ := Lib.hid (Below.trans hQ.out (hb8.mono hQ.out.size)); clear hb8)
                | (go_at_call 24; refine (sameInts_is (t := true) ((ints1 rfl).below ((Below.refl _ _).alloc (Nat.le_refl _) _)) (ints1 (by simp)) (by simp)).use ?_; intro w9 hb9 hz9 hc9 hf9; clear hc9 hf9 hz9; replace hb9 : Below w8.heap.size w8 w9 := (((Below.refl _ w8).alloc (Nat.le_refl _) _).alloc (by simp) _).trans (hb9.mono (by simp; omega)); replace e4q : Hid (∀ o, w9.cell? ⟨w.heap.size, o, none⟩ = (w.alloc (.cells #[.int .i64 k, .int .i64 c.first, .slice fa c.free.length fc, .slice sa c.still.length sc] 27)).cell? ⟨w.heap.size, o, none⟩) := fun o => (hb9.cell (p := ⟨w.heap.size, o, none⟩) hxq).trans (e4q.out o); replace hxq : w.heap.size < w9.heap.size := Nat.lt_of_lt_of_le hxq hb9.size; replace hQ := Lib.hid (Below.trans hQ.out (hb9.mono hQ.out.size)); clear hb9; have e4x := e4q.out)
                | (go_at_call 25; refine (Replay_torn _ k c z _ (HC.out.below hQ.out) (HB.out.below hQ.out) HZ.out hzs (by rw [HBH.out.rr]; exact hre)).use ?_; intro w10 hb10 hz10 hc10 hf10; clear hc10 hf10 hz10; replace hQ := Lib.hid (Below.trans hQ.out (hb10.mono hQ.out.size)); clear hb10))
              go_ret
              exact ⟨rfl, hQ.out⟩
    · have k2 : decide ((j : Int) < (X : Int)) = false := decide_eq_false (by omega)
      have hBW : Hid (Below w.heap.size w wr) := Below.trans BW3.out (hbw.out.mono BW3.out.size)
      obtain ⟨x, hx⟩ : ∃ x, manyO (newO k.toNat c) (l.take j) = x := ⟨_, rfl⟩
      have HMY := hbs.out.made
      rw [hx] at HMY
      obtain ⟨bs, hbk⟩ : ∃ bs, booksF (newO k.toNat c) l j = bs := ⟨_, rfl⟩
      obtain ⟨wh, hwh⟩ : ∃ wh, minF x.os = wh := ⟨_, rfl⟩
      have HTB : Hid (TextsAt wr (.slice va j vc) bs) := by
        have h1 := hbs.out.row
        rw [hbk] at h1
        have h2 := booksF_len (newO k.toNat c) l j
        rw [hbk] at h2
        show TextsAt _ _ _
        rw [h2] at h1
        rw [← h2] at h1
        have h3 := own_texts h1
        rwa [h2] at h3
      have HLN : Hid (bs.length = j) := by show _ = _; rw [← hbk]; exact booksF_len _ _ _
      have HMG : Hid (∀ i, i < j → (gi bs default i).size ≤ 3200 ∧ ∃ N, MergeIs (gi bs default i) wh wh N 0 ∧ MergeIs wh (gi bs default i) wh N 0) := fun i hi => by
        obtain ⟨r, hr⟩ := many_take (newO k.toNat c) l (Nat.le_of_lt hi)
        rw [hx] at hr
        have h1 : gi bs default i = minF (manyO (newO k.toNat c) (l.take i)).os := by rw [← hbk]; exact booksF_get _ _ hi
        have h2 := merge_prefix (l := (manyO (newO k.toNat c) (l.take i)).os) (r := r) (by rw [← hr]; exact HMY.ok) (by rw [← hr]; exact HMY.few)
        rw [← hr, hwh, ← h1] at h2
        refine ⟨?_, h2⟩
        have h3 := minF_size (l := (manyO (newO k.toNat c) (l.take i)).os) (fun o ho => HMY.ok o (by rw [hr]; exact List.mem_append_left _ ho))
        have h4 := HMY.few
        rw [hr, List.length_append] at h4
        rw [h1]; omega
      obtain ⟨z, rest, text, m, hbh⟩ := behind_of HMY.ok HMY.few t
      rw [hwh] at hbh
      have HBH := Lib.hid hbh
      have hwz : wh.size ≤ 3200 := hbh.sm
      have hsum := hbh.sz
      obtain ⟨A, hA⟩ : ∃ A, text.size = A := ⟨_, rfl⟩
      obtain ⟨R, hR⟩ : ∃ R, rest.size = R := ⟨_, rfl⟩
      obtain ⟨H, hH⟩ : ∃ H, wh.size = H := ⟨_, rfl⟩
      obtain ⟨M, hM⟩ : ∃ M, m.length = M := ⟨_, rfl⟩
      obtain ⟨L, hL⟩ : ∃ L, x.os.length = L := ⟨_, rfl⟩
      have hML : L ≤ M := by rw [← hM, ← hL]; exact hbh.ln
      have HMM := Lib.hid hM
      have HLL := Lib.hid hL
      rw [hA, hR, hH] at hsum
      have hHz : H ≤ 3200 := by omega
      have c1 : ¬ 9223372036854775807 < H + t.size := by omega
      have c2 : ¬ 9223372036854775807 < A + R := by omega
      have hwA : IntKind.i64.wrap ((H : Int) + (t.size : Int)) = (H : Int) + (t.size : Int) := IntWalk.i64_in _ (by omega)
      have hwB : IntKind.i64.wrap ((H : Int) + (t.size : Int) - (R : Int)) = (A : Int) := by rw [IntWalk.i64_in _ (by omega)]; omega
      have kM : decide ((M : Int) < (L : Int)) = false := decide_eq_false (by omega)
      have kM' : ¬ M < L := by omega
      have htx := hbh.tx
      have hzz := hbh.zz
      have hzs : z.size ≤ 100000 := by rw [← hzz, ByteArray.size_append]; omega
      have hws : wh.size ≤ 100000 := by omega
      have HOS := Lib.hid (show minF x.os = wh from hwh)
      have HBQ : Hid (OffS w3.heap.size wr B k.toNat x) := hx ▸ hbs.out.toS
      have e4r : Hid (∀ o, wr.cell? ⟨w.heap.size, o, none⟩ = (w.alloc (.cells #[.int .i64 k, .int .i64 c.first, .slice fa c.free.length fc, .slice sa c.still.length sc] 27)).cell? ⟨w.heap.size, o, none⟩) := fun o => (hbw.out.cell (p := ⟨w.heap.size, o, none⟩) (by exact hy3)).trans (e40.out o)
      have HWT : Hid (∀ v y, TextsAt y v m → Env y → Gives Tryz.prog 23 #[v] y (.tuple #[.string text, .int .i64 0])) := fun v y h he => by
        have := Write_calls v m y h he
        rwa [HBH.out.wt, HBH.out.we] at this
      have hxr : w.heap.size < wr.heap.size := by have := hbw.out.size; omega
      clear hbs hbk hx hwh hbh HMY hM hL HJ hwz
      go_wp2_with (go_at_call 20; (with_reducible refine (HBQ.out.min HOS.out).use ?_); intro w5 hb5 hz5 hc5 hf5; replace HTB := Lib.hid (HTB.out.below hb5); replace hBW := Lib.hid (Below.trans hBW.out (hb5.mono hBW.out.size)); replace e4r : Hid (∀ o, w5.cell? ⟨w.heap.size, o, none⟩ = (w.alloc (.cells #[.int .i64 k, .int .i64 c.first, .slice fa c.free.length fc, .slice sa c.still.length sc] 27)).cell? ⟨w.heap.size, o, none⟩) := fun o => (hb5.cell (p := ⟨w.heap.size, o, none⟩) hxr).trans (e4r.out o); replace hxr : w.heap.size < w5.heap.size := (by omega); clear hc5 hf5 hz5 hb5 HBQ)
      go_loopw [14, 15, 16, 17, 18, 19, 20] (fun i2 _ _ _ _ _ _ wr => ∃ (i : Nat), i ≤ j ∧ i2 = .int .i64 i ∧ Hid (Below w5.heap.size w5 wr)) (fun i _ _ _ _ _ _ _ => 25 - (intOf i).toNat)
      case atStart => exact ⟨0, Nat.zero_le _, rfl, Below.refl _ _⟩
      case round =>
        obtain ⟨i, hij, rfl, hbq⟩ := hrel
        by_cases hi : i < j
        · have q2 : decide ((i : Int) < (j : Int)) = true := decide_eq_true (by omega)
          obtain ⟨g1, N, g2, g3⟩ := HMG.out i hi
          have HTB2 := Lib.hid HTB.out
          obtain ⟨tb, tof, rfl, hBc, hcell⟩ := (HTB2.out.below hbq.out).cellAt (m := i) (by rw [HLN.out]; exact hi)
          obtain ⟨bq, hbq1⟩ : ∃ bq, gi bs default i = bq := ⟨_, rfl⟩
          rw [hbq1] at g1 g2 g3 hcell
          have G2 := Lib.hid g2
          have G3 := Lib.hid g3
          have hqs : bq.size ≤ 100000 := by omega
          clear hbq1 g1 g2 g3 HTB2
          have hw6 : IntKind.i64.wrap ((i : Int) + 1) = (i : Int) + 1 := IntWalk.i64_in _ (by omega)
          have HQ : Hid (Below w.heap.size w _) := Below.trans hBW.out (hbq.out.mono hBW.out.size)
          go_wp2_with (first
            | (go_at_call 22; (with_reducible refine (pMerge_calls G2.out hqs hws (HB.out.below HQ.out)).use ?_); intro w6 hb6 hz6 hc6 hf6; have hcell6 := (hc6 tb (tof + i) hBc).trans hcell; have HQ6 := Lib.hid (Below.trans HQ.out (hb6.mono HQ.out.size)); have HB6 := Lib.hid hb6; clear hc6 hf6 hb6 hcell)
            | (go_at_call 22; (with_reducible refine (pMerge_calls G3.out hws hqs (HB.out.below HQ6.out)).use ?_); intro w7 hb7 hz7 hc7 hf7; have HB7 := Lib.hid hb7; clear hc7 hf7 hb7))
          go_roundw
          case rel => exact ⟨i + 1, by omega, by go_num, Below.trans hbq.out ((HB6.out.trans (HB7.out.mono HB6.out.size)).mono hbq.out.size)⟩
          case measure => simp [intOf]; omega
        · have q2 : decide ((i : Int) < (j : Int)) = false := decide_eq_false (by omega)
          have hQ : Hid (Below w.heap.size w wr) := Below.trans hBW.out (hbq.out.mono hBW.out.size)
          have e4q : Hid (∀ o, wr.cell? ⟨w.heap.size, o, none⟩ = (w.alloc (.cells #[.int .i64 k, .int .i64 c.first, .slice fa c.free.length fc, .slice sa c.still.length sc] 27)).cell? ⟨w.heap.size, o, none⟩) := fun o => (hbq.out.cell (p := ⟨w.heap.size, o, none⟩) hxr).trans (e4r.out o)
          have hxq : w.heap.size < wr.heap.size := by have := hbq.out.size; omega
          clear HTB HMG hbq HOS
          by_cases hre : rest = ⟨#[]⟩
          · have kre : rest.toList.isEmpty = true := by rw [hre]; kernel_rfl
            clear hre
            go_wp2_with (first
              | (go_at_call 16; (with_reducible refine Calls.mono (Read_calls z _ hzs (HB.out.below hQ.out).env) ?_); rintro e w6 ⟨v6, rfl, hi6, hb6⟩; rw [HBH.out.rr]; rw [HBH.out.rm] at hi6; have HT6 := Lib.hid (own_texts hi6); clear hi6; obtain ⟨ma, mc, e6, -⟩ := id HT6.out; rw [HMM.out] at e6; subst e6; replace e4q : Hid (∀ o, w6.cell? ⟨w.heap.size, o, none⟩ = (w.alloc (.cells #[.int .i64 k, .int .i64 c.first, .slice fa c.free.length fc, .slice sa c.still.length sc] 27)).cell? ⟨w.heap.size, o, none⟩) := fun o => (hb6.cell (p := ⟨w.heap.size, o, none⟩) hxq).trans (e4q.out o); replace hxq : w.heap.size < w6.heap.size := Nat.lt_of_lt_of_le hxq hb6.size; replace hQ := Lib.hid (Below.trans hQ.out (hb6.mono hQ.out.size)); clear hb6)
              | (go_at_call 16; (with_reducible refine Calls.mono (Read_calls wh _ hws (HB.out.below hQ.out).env) ?_); rintro e w7 ⟨v7, rfl, hi7, hb7⟩; rw [HBH.out.tw]; rw [HBH.out.rw'] at hi7; have HT7 := Lib.hid (own_texts hi7); clear hi7; obtain ⟨oa, oc, e7, -⟩ := id HT7.out; rw [HLL.out] at e7; subst e7; clear HT7; replace HT6 := Lib.hid (HT6.out.below hb7); replace e4q : Hid (∀ o, w7.cell? ⟨w.heap.size, o, none⟩ = (w.alloc (.cells #[.int .i64 k, .int .i64 c.first, .slice fa c.free.length fc, .slice sa c.still.length sc] 27)).cell? ⟨w.heap.size, o, none⟩) := fun o => (hb7.cell (p := ⟨w.heap.size, o, none⟩) hxq).trans (e4q.out o); replace hxq : w.heap.size < w7.heap.size := Nat.lt_of_lt_of_le hxq hb7.size; replace hQ := Lib.hid (Below.trans hQ.out (hb7.mono hQ.out.size)); clear hb7)
              | (go_at_call 23; refine (HWT.out _ _ HT6.out (HB.out.below hQ.out).env).use ?_; intro w8 hb8 hz8 hc8 hf8; clear hc8 hf8 hz8 HT6; replace e4q : Hid (∀ o, w8.cell? ⟨w.heap.size, o, none⟩ = (w.alloc (.cells #[.int .i64 k, .int .i64 c.first, .slice fa c.free.length fc, .slice sa c.still.length sc] 27)).cell? ⟨w.heap.size, o, none⟩) := fun o => (hb8.cell (p := ⟨w.heap.size, o, none⟩) hxq).trans (e4q.out o); replace hxq : w.heap.size < w8.heap.size := Nat.lt_of_lt_of_le hxq hb8.size; replace hQ := Lib.hid (Below.trans hQ.out (hb8.mono hQ.out.size)); clear hb8)
              | (go_at_call 24; refine (sameInts_is (t := true) ((ints1 rfl).below ((Below.refl _ _).alloc (Nat.le_refl _) _)) (ints1 (by simp)) (by simp)).use ?_; intro w9 hb9 hz9 hc9 hf9; clear hc9 hf9 hz9; replace hb9 : Below w8.heap.size w8 w9 := (((Below.refl _ w8).alloc (Nat.le_refl _) _).alloc (by simp) _).trans (hb9.mono (by simp; omega)); replace e4q : Hid (∀ o, w9.cell? ⟨w.heap.size, o, none⟩ = (w.alloc (.cells #[.int .i64 k, .int .i64 c.first, .slice fa c.free.length fc, .slice sa c.still.length sc] 27)).cell? ⟨w.heap.size, o, none⟩) := fun o => (hb9.cell (p := ⟨w.heap.size, o, none⟩) hxq).trans (e4q.out o); replace hxq : w.heap.size < w9.heap.size := Nat.lt_of_lt_of_le hxq hb9.size; replace hQ := Lib.hid (Below.trans hQ.out (hb9.mono hQ.out.size)); clear hb9))
            go_ret
            exact ⟨rfl, hQ.out⟩
          · have kre := ne_empty hre
            go_wp2_with (first
              | (go_at_call 16; (with_reducible refine Calls.mono (Read_calls z _ hzs (HB.out.below hQ.out).env) ?_); rintro e w6 ⟨v6, rfl, hi6, hb6⟩; rw [HBH.out.rr]; rw [HBH.out.rm] at hi6; have HT6 := Lib.hid (own_texts hi6); clear hi6; obtain ⟨ma, mc, e6, -⟩ := id HT6.out; rw [HMM.out] at e6; subst e6; replace e4q : Hid (∀ o, w6.cell? ⟨w.heap.size, o, none⟩ = (w.alloc (.cells #[.int .i64 k, .int .i64 c.first, .slice fa c.free.length fc, .slice sa c.still.length sc] 27)).cell? ⟨w.heap.size, o, none⟩) := fun o => (hb6.cell (p := ⟨w.heap.size, o, none⟩) hxq).trans (e4q.out o); replace hxq : w.heap.size < w6.heap.size := Nat.lt_of_lt_of_le hxq hb6.size; replace hQ := Lib.hid (Below.trans hQ.out (hb6.mono hQ.out.size)); clear hb6)
              | (go_at_call 16; (with_reducible refine Calls.mono (Read_calls wh _ hws (HB.out.below hQ.out).env) ?_); rintro e w7 ⟨v7, rfl, hi7, hb7⟩; rw [HBH.out.tw]; rw [HBH.out.rw'] at hi7; have HT7 := Lib.hid (own_texts hi7); clear hi7; obtain ⟨oa, oc, e7, -⟩ := id HT7.out; rw [HLL.out] at e7; subst e7; clear HT7; replace HT6 := Lib.hid (HT6.out.below hb7); replace e4q : Hid (∀ o, w7.cell? ⟨w.heap.size, o, none⟩ = (w.alloc (.cells #[.int .i64 k, .int .i64 c.first, .slice fa c.free.length fc, .slice sa c.still.length sc] 27)).cell? ⟨w.heap.size, o, none⟩) := fun o => (hb7.cell (p := ⟨w.heap.size, o, none⟩) hxq).trans (e4q.out o); replace hxq : w.heap.size < w7.heap.size := Nat.lt_of_lt_of_le hxq hb7.size; replace hQ := Lib.hid (Below.trans hQ.out (hb7.mono hQ.out.size)); clear hb7)
              | (go_at_call 23; refine (HWT.out _ _ HT6.out (HB.out.below hQ.out).env).use ?_; intro w8 hb8 hz8 hc8 hf8; clear hc8 hf8 hz8 HT6; replace e4q : Hid (∀ o, w8.cell? ⟨w.heap.size, o, none⟩ = (w.alloc (.cells #[.int .i64 k, .int .i64 c.first, .slice fa c.free.length fc, .slice sa c.still.length sc] 27)).cell? ⟨w.heap.size, o, none⟩) := fun o => (hb8.cell (p := ⟨w.heap.size, o, none⟩) hxq).trans (e4q.out o); replace hxq : w.heap.size < w8.heap.size := Nat.lt_of_lt_of_le hxq hb8.size; replace hQ := Lib.hid (Below.trans hQ.out (hb8.mono hQ.out.size)); clear hb8)
              | (go_at_call 24; refine (sameInts_is (t := true) ((ints1 rfl).below ((Below.refl _ _).alloc (Nat.le_refl _) _)) (ints1 (by simp)) (by simp)).use ?_; intro w9 hb9 hz9 hc9 hf9; clear hc9 hf9 hz9; replace hb9 : Below w8.heap.size w8 w9 := (((Below.refl _ w8).alloc (Nat.le_refl _) _).alloc (by simp) _).trans (hb9.mono (by simp; omega)); replace e4q : Hid (∀ o, w9.cell? ⟨w.heap.size, o, none⟩ = (w.alloc (.cells #[.int .i64 k, .int .i64 c.first, .slice fa c.free.length fc, .slice sa c.still.length sc] 27)).cell? ⟨w.heap.size, o, none⟩) := fun o => (hb9.cell (p := ⟨w.heap.size, o, none⟩) hxq).trans (e4q.out o); replace hxq : w.heap.size < w9.heap.size := Nat.lt_of_lt_of_le hxq hb9.size; replace hQ := Lib.hid (Below.trans hQ.out (hb9.mono hQ.out.size)); clear hb9; have e4x := e4q.out)
              | (go_at_call 25; refine (Replay_torn _ k c z _ (HC.out.below hQ.out) (HB.out.below hQ.out) HZ.out hzs (by rw [HBH.out.rr]; exact hre)).use ?_; intro w10 hb10 hz10 hc10 hf10; clear hc10 hf10 hz10; replace hQ := Lib.hid (Below.trans hQ.out (hb10.mono hQ.out.size)); clear hb10))
            go_ret
            exact ⟨rfl, hQ.out⟩
theorem topMinutes_calls (v u : Value) (k : Int) (c : Cal) (l : List ByteArray) (t : ByteArray) (w : World) (h : FirmAt w v k c) (hl : TextsAt w u l) (hb : Base w) :
    Gives Tryz.prog 3 #[v, u, .string t] w (.bool true) := by
  by_cases hno : largeB c = true ∨ 150 < l.length ∨ 4000 < t.size ∨ NewE k c ≠ 0
  · exact topMinutes_early v u k c l t w h hl hb hno
  · refine topMinutes_late v u k c l t w h hl hb ?_ (decide_eq_false fun e => hno (.inr (.inl e))) ?_ ?_
    · cases hh : largeB c
      · rfl
      · exact absurd (.inl hh) hno
    · exact Nat.le_of_not_lt fun e => hno (.inr (.inr (.inl e)))
    · exact Classical.byContradiction fun e => hno (.inr (.inr (.inr e)))
end Go.Proofs.YthooacpfmjpdmaaGreatDoor
