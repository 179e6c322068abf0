/- What field, known and Long of the statements about package plot give. No conditions. -/
import Derived.Test.YthiemglckmociaaPtIns
namespace Go.Proofs.Ythiemglckmociaa
open Go.RowKit

def fieldL : List (Int × Int) := [(0, 0), (4, 0), (4, 2), (0, 2)]
theorem field_valid : validF fieldL = 0 := by decide +kernel
theorem field_twice : twiceF fieldL = 16 := by decide +kernel
theorem field_border : bordF fieldL = 12 := by decide +kernel
theorem field_inside : insideF fieldL = 3 := by decide +kernel
/-- The call gives a new list. -/
theorem pairs4 {w : World} {t : TypeId} {n : Nat} (hn : n = w.heap.size) : PairsAt (w.alloc (.cells #[.int .i64 0, .int .i64 0, .int .i64 4, .int .i64 0, .int .i64 4, .int .i64 2, .int .i64 0, .int .i64 2] t)) (.slice (some ⟨n, 0, none⟩) 4 4) fieldL := by
  subst hn
  refine ⟨_, _, rfl, Nat.le_refl _, by decide, fun i hi => ⟨_, _, rfl, by simp, ?_⟩⟩
  match i, hi with
  | 0, _ => exact ⟨by simp [gi, fieldL], by simp [gi, fieldL]⟩
  | 1, _ => exact ⟨by simp [gi, fieldL], by simp [gi, fieldL]⟩
  | 2, _ => exact ⟨by simp [gi, fieldL], by simp [gi, fieldL]⟩
  | 3, _ => exact ⟨by simp [gi, fieldL], by simp [gi, fieldL]⟩
set_option maxHeartbeats 400000 in
theorem field_calls (w : World) : Calls Try.prog 55 #[] w fun e w' => e = .returned (.slice (some ⟨w.heap.size, 0, none⟩) 4 4) ∧ PairsAt w' (.slice (some ⟨w.heap.size, 0, none⟩) 4 4) fieldL ∧ Below w.heap.size w w' := by
  go_enter Try.func55, Try.ntmps55
  go_wp2
  go_ret
  exact ⟨rfl, pairs4 rfl, by (repeat' (first | exact Below.refl _ _ | assumption | refine below_new ?_ _ | refine below_draw ?_ | refine below_tail (by assumption) ?_ | refine below_set ?_ (by first | omega | (simp <;> omega)) _))⟩
theorem Twice_is {v : Value} {l : List (Int × Int)} {a e : Int} (w : World) (h : PairsAt w v l) (ha : twiceF l = a) (he : validF l = e) : Gives Try.prog 23 #[v] w (.tuple #[.int .i64 a, .int .i64 e]) := by subst ha he; exact Twice_calls v l w h
theorem rTwice_is {v : Value} {l : List (Int × Int)} {a e : Int} (w : World) (h : PairsAt w v l) (ha : twiceF l = a) (he : validF l = e) : Gives Try.prog 24 #[v] w (.tuple #[.int .i64 a, .int .i64 e]) := by subst ha he; exact rTwice_calls v l w h
theorem Left_is {v : Value} {l : List (Int × Int)} {a : Bool} {e : Int} (w : World) (h : PairsAt w v l) (ha : leftF l = a) (he : validF l = e) : Gives Try.prog 25 #[v] w (.tuple #[.bool a, .int .i64 e]) := by subst ha he; exact Left_calls v l w h
theorem rLeft_is {v : Value} {l : List (Int × Int)} {a : Bool} {e : Int} (w : World) (h : PairsAt w v l) (ha : leftF l = a) (he : validF l = e) : Gives Try.prog 26 #[v] w (.tuple #[.bool a, .int .i64 e]) := by subst ha he; exact rLeft_calls v l w h
theorem Side_is {v : Value} {l : List (Int × Int)} {x : Int × Int} {a e : Int} (w : World) (h : PairsAt w v l) (ha : sideP l x = a) (he : sideE l x = e) : Gives Try.prog 29 #[v, .agg #[.int .i64 x.1, .int .i64 x.2]] w (.tuple #[.int .i64 a, .int .i64 e]) := by subst ha he; exact Side_calls v l x w h
theorem rSide_is {v : Value} {l : List (Int × Int)} {x : Int × Int} {a e : Int} (w : World) (h : PairsAt w v l) (ha : sideR l x = a) (he : sideE l x = e) : Gives Try.prog 30 #[v, .agg #[.int .i64 x.1, .int .i64 x.2]] w (.tuple #[.int .i64 a, .int .i64 e]) := by subst ha he; exact rSide_calls v l x w h
theorem OnBorder_is {v : Value} {l : List (Int × Int)} {a e : Int} (w : World) (h : PairsAt w v l) (ha : bordF l = a) (he : validF l = e) : Gives Try.prog 19 #[v] w (.tuple #[.int .i64 a, .int .i64 e]) := by subst ha he; exact OnBorder_calls v l w h
theorem rOnBorder_is {v : Value} {l : List (Int × Int)} {a e : Int} (w : World) (h : PairsAt w v l) (ha : rborderF l = a) (he : validF l = e) : Gives Try.prog 20 #[v] w (.tuple #[.int .i64 a, .int .i64 e]) := by subst ha he; exact rOnBorder_calls v l w h
theorem Inside_is {v : Value} {l : List (Int × Int)} {a e : Int} (w : World) (h : PairsAt w v l) (ha : insideF l = a) (he : validF l = e) : Gives Try.prog 21 #[v] w (.tuple #[.int .i64 a, .int .i64 e]) := by subst ha he; exact Inside_calls v l w h
theorem rInside_is {v : Value} {l : List (Int × Int)} {a e : Int} (w : World) (h : PairsAt w v l) (ha : rinsideF l = a) (he : validF l = e) : Gives Try.prog 22 #[v] w (.tuple #[.int .i64 a, .int .i64 e]) := by subst ha he; exact rInside_calls v l w h

set_option maxHeartbeats 1000000 in
theorem known_calls (w : World) : Gives Try.prog 18 #[] w (.bool true) := by
  unfold Gives
  go_enter Try.func18, Try.ntmps18
  go_wp2_with (first | (go_at_call 55; refine (field_calls _).mono ?_; rintro e w1 ⟨rfl, hP, hb1⟩) | (go_at_call 23; refine (Twice_is _ hP field_twice field_valid).use ?_; intro w2 hb2 hz2 hc2 hf2; clear hP hc2 hf2) | (go_at_call 19; refine (OnBorder_is _ hP field_border field_valid).use ?_; intro w3 hb3 hz3 hc3 hf3; clear hP hc3 hf3) | (go_at_call 21; refine (Inside_is _ hP field_inside field_valid).use ?_; intro w4 hb4 hz4 hc4 hf4; clear hP hc4 hf4))
  trace_state
  go_ret
  exact ⟨rfl, by (repeat' (first | exact Below.refl _ _ | assumption | refine below_new ?_ _ | refine below_draw ?_ | refine below_tail (by assumption) ?_ | refine below_set ?_ (by first | omega | (simp <;> omega)) _))⟩

end Go.Proofs.Ythiemglckmociaa
