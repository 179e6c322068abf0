/- What slices.Index, Contains, IndexFunc, ContainsFunc and cmp.Or give, at points. Conditions: the slice lies in memory as said. -/
import Derived.Test.YthiemglckmociaaProg
import Derived.Test.YthiemglckmociaaKit
import Derived.WalkSpells
import Derived.WalkLawsBesides
import Derived.BigGuardPart
import Derived.BigQuiet
import Derived.Deep.QuietTactic
namespace Go.Proofs.Ythiemglckmociaa
open Go.RowKit

/-- The place of the first element from k on for which p holds, else -1. -/
def idxFrom {α : Type} (l : List α) (p : α → Bool) (d : α) (k : Nat) : Int :=
  if k < l.length then (if p (gi l d k) then k else idxFrom l p d (k + 1)) else -1
termination_by l.length - k

theorem idxFrom_yes {α : Type} {l : List α} {p : α → Bool} {d : α} {k : Nat} (h : k < l.length) (hp : p (gi l d k) = true) : idxFrom l p d k = k := by
  rw [idxFrom, if_pos h, if_pos hp]
theorem idxFrom_no {α : Type} {l : List α} {p : α → Bool} {d : α} {k : Nat} (h : k < l.length) (hp : p (gi l d k) = false) : idxFrom l p d k = idxFrom l p d (k + 1) := by
  rw [idxFrom, if_pos h, if_neg (by simp [hp])]
theorem idxFrom_end {α : Type} {l : List α} {p : α → Bool} {d : α} {k : Nat} (h : ¬ k < l.length) : idxFrom l p d k = -1 := by
  rw [idxFrom, if_neg h]
theorem idxFrom_nonneg {α : Type} (l : List α) (p : α → Bool) (d : α) (k : Nat) : (decide (0 ≤ idxFrom l p d k)) = (l.drop k).any p := by
  generalize hn : l.length - k = n
  induction n generalizing k with
  | zero =>
    have : ¬ k < l.length := by omega
    rw [idxFrom_end this, List.drop_eq_nil_of_le (by omega)]; rfl
  | succ n ih =>
    have h : k < l.length := by omega
    have e : l.drop k = gi l d k :: l.drop (k + 1) := by rw [List.drop_eq_getElem_cons h]; simp [gi, h]
    by_cases hp : p (gi l d k) = true
    · rw [idxFrom_yes h hp, e, List.any_cons, hp]; simp
    · rw [idxFrom_no h (by simpa using hp), ih (k + 1) (by omega), e, List.any_cons]; simp [hp]
theorem idxFrom_contains (l : List (Int × Int)) (x : Int × Int) : (decide (0 ≤ idxFrom l (fun y => x == y) (0, 0) 0)) = l.contains x := by
  rw [idxFrom_nonneg, List.drop_zero, List.contains_eq_any_beq]
set_option maxHeartbeats 400000 in
theorem indexFunc_ints (v : Value) (l : List Int) (g : Nat) (cap : Array Value) (p : Int → Bool) (w : World) (h : IntsAt w v l)
    (eg : ∀ args w, (callFunc g args).run Try.prog w = .ok (.enter g args) w)
    (hp : ∀ x w', Below w.heap.size w w' → Gives Try.prog g (#[.int .i64 x] ++ cap) w' (.bool (p x))) :
    Gives Try.prog 118 #[v, .func (.func g) #[] cap] w (.int .i64 (idxFrom l p 0 0)) := by
  obtain ⟨a, cp, rfl, hlc, hcm, hc⟩ := h
  have HC := Lib.hid hc
  have HP := Lib.hid hp
  clear hc hp
  unfold Gives
  go_enter Try.func118, Try.ntmps118
  go_wp2
  go_loopw [8] (fun i wr => ∃ k : Nat, k ≤ l.length ∧ i = .int .i64 k ∧ Hid (idxFrom l p 0 0 = idxFrom l p 0 k) ∧ Below w.heap.size w wr) (fun i _ => l.length - (intOf i).toNat)
  case atStart => exact ⟨0, Nat.zero_le _, rfl, rfl, Below.refl _ _⟩
  case round =>
    obtain ⟨k, hk, rfl, hr, hb⟩ := hrel
    by_cases hlt : k < l.length
    · obtain ⟨b, o, rfl, hB, hcell0⟩ := HC.out k hlt
      have hcell : wr.cell? ⟨b, o + k, none⟩ = some (.int .i64 (gi l 0 k)) := (hb.cell (p := ⟨b, o + k, none⟩) hB).trans hcell0
      clear hcell0
      have HW := Lib.hid (HP.out (gi l 0 k) wr hb)
      cases hx : p (gi l 0 k)
      · have H1 := Lib.hid (idxFrom_no (d := (0 : Int)) (p := p) hlt hx)
        go_wp2_with (refine HW.out.use ?_; intro w1 hb1 hz1 hc1 hf1)
        go_roundw
        case rel => exact ⟨k + 1, by omega, by go_num, by unfold Hid; rw [hr.out, H1.out], below_tail hb1 hb⟩
        case measure => simp [intOf]; omega
      · have H1 := Lib.hid (idxFrom_yes (d := (0 : Int)) (p := p) hlt hx)
        go_wp2_with (refine HW.out.use ?_; intro w1 hb1 hz1 hc1 hf1)
        go_ret
        exact ⟨ret_int (by rw [hr.out, H1.out]), below_tail hb1 hb⟩
    · have H1 := Lib.hid (idxFrom_end (d := (0 : Int)) (p := p) hlt)
      go_wp2
      go_ret
      exact ⟨ret_int (by rw [hr.out, H1.out]), hb⟩

set_option maxHeartbeats 400000 in
theorem indexFunc_pts (v : Value) (l : List (Int × Int)) (g : Nat) (cap : Array Value) (p : Int × Int → Bool) (w : World) (h : PairsAt w v l)
    (eg : ∀ args w, (callFunc g args).run Try.prog w = .ok (.enter g args) w)
    (hp : ∀ x w', Below w.heap.size w w' → Gives Try.prog g (#[.agg #[.int .i64 x.1, .int .i64 x.2]] ++ cap) w' (.bool (p x))) :
    Gives Try.prog 105 #[v, .func (.func g) #[] cap] w (.int .i64 (idxFrom l p (0, 0) 0)) := by
  obtain ⟨a, cp, rfl, hlc, hcm, hc⟩ := h
  have HC := Lib.hid hc
  have HP := Lib.hid hp
  clear hc hp
  unfold Gives
  go_enter Try.func105, Try.ntmps105
  go_wp2
  go_loopw [8] (fun i wr => ∃ k : Nat, k ≤ l.length ∧ i = .int .i64 k ∧ Hid (idxFrom l p (0, 0) 0 = idxFrom l p (0, 0) k) ∧ Below w.heap.size w wr) (fun i _ => l.length - (intOf i).toNat)
  case atStart => exact ⟨0, Nat.zero_le _, rfl, rfl, Below.refl _ _⟩
  case round =>
    obtain ⟨k, hk, rfl, hr, hb⟩ := hrel
    by_cases hlt : k < l.length
    · obtain ⟨b, o, rfl, hB, hcell0, hdell0⟩ := HC.out k hlt
      have hcell : wr.cell? ⟨b, o + k * 2, none⟩ = some (.int .i64 (gi l (0, 0) k).1) := (hb.cell (p := ⟨b, o + k * 2, none⟩) hB).trans hcell0
      have hdell : wr.cell? ⟨b, o + k * 2 + 1, none⟩ = some (.int .i64 (gi l (0, 0) k).2) := (hb.cell (p := ⟨b, o + k * 2 + 1, none⟩) hB).trans hdell0
      clear hcell0 hdell0
      have HW := Lib.hid (HP.out (gi l (0, 0) k) wr hb)
      cases hx : p (gi l (0, 0) k)
      · have H1 := Lib.hid (idxFrom_no (d := ((0, 0) : Int × Int)) (p := p) hlt hx)
        go_wp2_with (refine HW.out.use ?_; intro w1 hb1 hz1 hc1 hf1)
        go_roundw
        case rel => exact ⟨k + 1, by omega, by go_num, by unfold Hid; rw [hr.out, H1.out], below_tail hb1 hb⟩
        case measure => simp [intOf]; omega
      · have H1 := Lib.hid (idxFrom_yes (d := ((0, 0) : Int × Int)) (p := p) hlt hx)
        go_wp2_with (refine HW.out.use ?_; intro w1 hb1 hz1 hc1 hf1)
        go_ret
        exact ⟨ret_int (by rw [hr.out, H1.out]), below_tail hb1 hb⟩
    · have H1 := Lib.hid (idxFrom_end (d := ((0, 0) : Int × Int)) (p := p) hlt)
      go_wp2
      go_ret
      exact ⟨ret_int (by rw [hr.out, H1.out]), hb⟩

set_option maxHeartbeats 400000 in
theorem containsFunc_ints (v : Value) (l : List Int) (g : Nat) (cap : Array Value) (p : Int → Bool) (w : World) (h : IntsAt w v l)
    (eg : ∀ args w, (callFunc g args).run Try.prog w = .ok (.enter g args) w)
    (hp : ∀ x w', Below w.heap.size w w' → Gives Try.prog g (#[.int .i64 x] ++ cap) w' (.bool (p x))) :
    Gives Try.prog 106 #[v, .func (.func g) #[] cap] w (.bool (l.any p)) := by
  have H := Lib.hid (idxFrom_nonneg l p 0 0)
  have HP := Lib.hid (indexFunc_ints v l g cap p w h eg hp)
  clear hp
  unfold Gives
  go_enter Try.func106, Try.ntmps106
  go_wp2_with (refine HP.out.use ?_; intro w1 hb1 hz1 hc1 hf1)
  go_ret
  exact ⟨ret_bool (by rw [H.out, List.drop_zero]), hb1⟩
set_option maxHeartbeats 400000 in
theorem containsFunc_pts (v : Value) (l : List (Int × Int)) (g : Nat) (cap : Array Value) (p : Int × Int → Bool) (w : World) (h : PairsAt w v l)
    (eg : ∀ args w, (callFunc g args).run Try.prog w = .ok (.enter g args) w)
    (hp : ∀ x w', Below w.heap.size w w' → Gives Try.prog g (#[.agg #[.int .i64 x.1, .int .i64 x.2]] ++ cap) w' (.bool (p x))) :
    Gives Try.prog 62 #[v, .func (.func g) #[] cap] w (.bool (l.any p)) := by
  have H := Lib.hid (idxFrom_nonneg l p (0, 0) 0)
  have HP := Lib.hid (indexFunc_pts v l g cap p w h eg hp)
  clear hp
  unfold Gives
  go_enter Try.func62, Try.ntmps62
  go_wp2_with (refine HP.out.use ?_; intro w1 hb1 hz1 hc1 hf1)
  go_ret
  exact ⟨ret_bool (by rw [H.out, List.drop_zero]), hb1⟩

/-- The first number that is not 0. -/
def orFrom (l : List Int) (k : Nat) : Int :=
  if k < l.length then (if gi l 0 k != 0 then gi l 0 k else orFrom l (k + 1)) else 0
termination_by l.length - k
theorem orFrom_yes {l : List Int} {k : Nat} (h : k < l.length) (hp : (gi l 0 k != 0) = true) : orFrom l k = gi l 0 k := by rw [orFrom, if_pos h, if_pos hp]
theorem orFrom_no {l : List Int} {k : Nat} (h : k < l.length) (hp : (gi l 0 k != 0) = false) : orFrom l k = orFrom l (k + 1) := by rw [orFrom, if_pos h, if_neg (by simp [hp])]
theorem orFrom_end {l : List Int} {k : Nat} (h : ¬ k < l.length) : orFrom l k = 0 := by rw [orFrom, if_neg h]
theorem orFrom_2 (a b : Int) : orFrom [a, b] 0 = if a = 0 then b else a := by
  by_cases ha : a = 0
  · rw [orFrom_no (by simp) (by simp [gi, ha]), if_pos ha]
    by_cases hb : b = 0
    · rw [orFrom_no (by simp) (by simp [gi, hb]), orFrom_end (by simp), hb]
    · rw [orFrom_yes (by simp) (by simp [gi, hb])]; simp [gi]
  · rw [orFrom_yes (by simp) (by simp [gi, ha]), if_neg ha]; simp [gi]
set_option maxHeartbeats 400000 in
theorem or_calls (v : Value) (l : List Int) (w : World) (h : IntsAt w v l) :
    Calls Try.prog 112 #[v] w fun e w' => e = .returned (.int .i64 (orFrom l 0)) ∧ w = w' := by
  obtain ⟨a, cap, rfl, hlc, hcm, hc⟩ := h
  have HC := Lib.hid hc
  clear hc
  go_enter Try.func112, Try.ntmps112
  go_wp2
  go_loop [8] (fun i => ∃ k : Nat, k ≤ l.length ∧ i = .int .i64 k ∧ Hid (orFrom l 0 = orFrom l k)) (fun i => l.length - (intOf i).toNat)
  case atStart => exact ⟨0, Nat.zero_le _, rfl, rfl⟩
  case round =>
    obtain ⟨k, hk, rfl, hr⟩ := hrel
    by_cases hlt : k < l.length
    · obtain ⟨b, o, rfl, hB, hcell⟩ := HC.out k hlt
      cases hx : (gi l 0 k != 0)
      · have H1 := Lib.hid (orFrom_no hlt hx)
        have hx2 : (gi l 0 k == 0) = true := by simpa using hx
        go_wp2
        go_round
        case rel => exact ⟨k + 1, by omega, by go_num, by unfold Hid; rw [hr.out, H1.out]⟩
        case measure => simp [intOf]; omega
      · have H1 := Lib.hid (orFrom_yes hlt hx)
        have hx2 : (gi l 0 k == 0) = false := by simpa using hx
        go_wp2
        go_ret
        exact ⟨ret_int (by rw [hr.out, H1.out]), rfl⟩
    · have H1 := Lib.hid (orFrom_end hlt)
      go_wp2
      go_ret
      exact ⟨ret_int (by rw [hr.out, H1.out]), rfl⟩

theorem or_is (v : Value) (l : List Int) (r : Int) (w : World) (h : IntsAt w v l) (hr : orFrom l 0 = r) :
    Calls Try.prog 112 #[v] w fun e w' => e = .returned (.int .i64 r) ∧ w = w' := hr ▸ or_calls v l w h
end Go.Proofs.Ythiemglckmociaa
