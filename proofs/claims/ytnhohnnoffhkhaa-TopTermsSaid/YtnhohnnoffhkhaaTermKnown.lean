/- The chapter's own examples are answered; which calendars are long. No conditions. -/
import Derived.Test.YtnhohnnoffhkhaaTermEx
import Derived.Test.YtnhohnnoffhkhaaVote
namespace Go.Proofs.Ytnhohnnoffhkhaa
open Go.RowKit

def calK : Cal := ⟨0, [], [(2, 4)]⟩
def cal0 : Cal := ⟨0, [], []⟩
theorem valid_calK : validF calK = 0 := by
  unfold validF calK
  have h1 : someFrom (badFree []) ([] : List Int).length 0 = false := someFrom_end (by simp)
  have h2 : someFrom (badStill [(2, 4)]) [((2 : Int), (4 : Int))].length 0 = false := by
    rw [someFrom_no (by simp) (by decide), someFrom_end (by simp)]
  simp only [h1, h2]
  decide
theorem valid_cal0 : validF cal0 = 0 := by
  unfold validF cal0
  have h1 : someFrom (badFree []) ([] : List Int).length 0 = false := someFrom_end (by simp)
  have h2 : someFrom (badStill []) ([] : List (Int × Int)).length 0 = false := someFrom_end (by simp)
  simp only [h1, h2]
  decide
theorem asked_calK : askedF calK [0] [3] = 0 := asked_of valid_calK (by simp) (by simp)
theorem asked_cal0 : askedF cal0 [0] [5] = 0 := asked_of valid_cal0 (by simp) (by simp)
theorem ends_calK : endsR calK 0 3 = 7 := by
  unfold endsR
  rw [if_pos asked_calK]
  exact firstDay_eq 7 20000 0 (by decide +kernel) (by decide +kernel) (by omega)
theorem ends_cal0 : endsR cal0 0 5 = 5 := by
  unfold endsR
  rw [if_pos asked_cal0]
  exact firstDay_eq 5 20000 0 (by decide +kernel) (by decide +kernel) (by omega)
def voteK : List (Int × Bool) := [(10, true), (3, false), (3, true)]
theorem votes_K : votesF voteK = 0 := votes_of (by decide) (by decide)
theorem heads_K : headsR voteK = true := by unfold headsR; rw [if_pos votes_K]; decide
theorem land_K : landR voteK = true := by unfold landR; rw [if_pos votes_K]; decide

theorem votes3 {w : World} {a b c : Int} {x y z : Bool} {t : TypeId} {n : Nat} (hn : n = w.heap.size) :
    VotesAt (w.alloc (.cells #[.int .i64 a, .bool x, .int .i64 b, .bool y, .int .i64 c, .bool z] t)) (.slice (some ⟨n, 0, none⟩) 3 3) [(a, x), (b, y), (c, z)] := by
  subst hn
  refine ⟨_, _, rfl, Nat.le_refl _, by decide, fun i hi => ⟨_, _, rfl, by simp, ?_⟩⟩
  match i, hi with
  | 0, _ => exact ⟨by simp [gi], by simp [gi]⟩
  | 1, _ => exact ⟨by simp [gi], by simp [gi]⟩
  | 2, _ => exact ⟨by simp [gi], by simp [gi]⟩

set_option maxHeartbeats 1000000 in
theorem known_calls (w : World) : Gives Try.prog 18 #[] w (.bool true) := by
  have K1 : Hid (∀ W v, CalAt W v calK → Gives Try.prog 19 #[v, .int .i64 0, .int .i64 3] W (.tuple #[.int .i64 7, .int .i64 0])) := fun W v h => by
    have := Ends_calls v calK 0 3 W h
    rwa [ends_calK, asked_calK] at this
  have K2 : Hid (∀ W v, CalAt W v cal0 → Gives Try.prog 19 #[v, .int .i64 0, .int .i64 5] W (.tuple #[.int .i64 5, .int .i64 0])) := fun W v h => by
    have := Ends_calls v cal0 0 5 W h
    rwa [ends_cal0, asked_cal0] at this
  have K3 : Hid (∀ W v, VotesAt W v voteK → Calls Try.prog 20 #[v] W fun e w' => e = .returned (.tuple #[.bool true, .bool true, .int .i64 0]) ∧ W = w') := fun W v h => by
    have := Passes_calls v voteK W h
    rwa [heads_K, land_K, votes_K] at this
  unfold Gives
  go_enter Try.func18, Try.ntmps18
  go_wp2_with fail
  refine (K1.out _ _ ⟨_, _, rfl, ints0 _ _ _ (by simp), (pairs1 rfl).below (below_new (Below.refl _ _) _)⟩).use ?_
  intro w1 hb1 hz1 hc1 hf1
  go_wp2_with fail
  refine (K2.out _ _ ⟨_, _, rfl, ints0 _ _ _ (by simp), pairs0 _ _ _ (by simp)⟩).use ?_
  intro w2 hb2 hz2 hc2 hf2
  go_wp2_with fail
  refine (K3.out _ _ (votes3 rfl)).mono ?_
  rintro e w' ⟨rfl, rfl⟩
  go_wp2_with fail
  go_ret
  exact ⟨rfl, by (repeat' (first | exact Below.refl _ _ | assumption | refine below_new ?_ _ | refine below_draw ?_ | refine below_tail (by assumption) ?_ | refine below_set ?_ (by first | omega | (simp <;> omega)) _))⟩

set_option maxHeartbeats 400000 in
theorem long_calls (v : Value) (c : Cal) (w : World) (h : CalAt w v c) :
    Gives Try.prog 17 #[v] w (.bool (decide (100 < c.free.length) || decide (100 < c.still.length))) := by
  obtain ⟨fa, fc, sa, sc, rfl, hf, hs, hfc, hsc, hfl, hsl⟩ := h.cells
  clear h hf hs
  unfold Gives
  by_cases h1 : 100 < c.free.length
  · have h2 : decide ((100 : Int) < (c.free.length : Int)) = true := by simp; omega
    go_enter Try.func17, Try.ntmps17
    go_wp2
    go_ret
    exact ⟨ret_bool (by simp [h1]), by (repeat' (first | exact Below.refl _ _ | assumption | refine below_new ?_ _ | refine below_draw ?_ | refine below_tail (by assumption) ?_ | refine below_set ?_ (by first | omega | (simp <;> omega)) _))⟩
  · have h2 : decide ((100 : Int) < (c.free.length : Int)) = false := by simp; omega
    go_enter Try.func17, Try.ntmps17
    go_wp2
    go_ret
    exact ⟨ret_bool (by simp [h1]; omega), by (repeat' (first | exact Below.refl _ _ | assumption | refine below_new ?_ _ | refine below_draw ?_ | refine below_tail (by assumption) ?_ | refine below_set ?_ (by first | omega | (simp <;> omega)) _))⟩
end Go.Proofs.Ytnhohnnoffhkhaa
