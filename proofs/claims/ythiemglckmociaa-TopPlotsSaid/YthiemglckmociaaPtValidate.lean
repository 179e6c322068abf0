/- What Validate of package plot, and of its reference, give: the same error. Conditions: the list lies in memory as said. -/
import Derived.Test.YthiemglckmociaaPtValid
import Derived.Test.YthiemglckmociaaPtRValid
namespace Go.Proofs.Ythiemglckmociaa
open Go.RowKit

theorem validF_len {l : List (Int × Int)} (h : l.length < 3 ∨ 10 < l.length) : validF l = 3 := by unfold validF; rw [if_pos h]
theorem validF_rng {l : List (Int × Int)} (h : ¬ (l.length < 3 ∨ 10 < l.length)) (h2 : rangedB l = false) : validF l = 1 := by unfold validF; rw [if_neg h, if_pos h2]
theorem validF_dup {l : List (Int × Int)} (h : ¬ (l.length < 3 ∨ 10 < l.length)) (h2 : rangedB l = true) (h3 : dupB l = true) : validF l = 6 := by
  unfold validF; rw [if_neg h, if_neg (by rw [h2]; simp), if_pos h3]
theorem validF_rest {l : List (Int × Int)} (h : ¬ (l.length < 3 ∨ 10 < l.length)) (h2 : rangedB l = true) (h3 : dupB l = false) : validF l = vcode (crossB l) := by
  unfold validF vcode; rw [if_neg h, if_neg (by rw [h2]; simp), if_neg (by rw [h3]; simp)]

theorem validate_calls (v : Value) (l : List (Int × Int)) (w : World) (h : PairsAt w v l) : Gives Try.prog 27 #[v] w (.int .i64 (validF l)) := by
  by_cases h1 : l.length < 3 ∨ 10 < l.length
  · rw [validF_len h1]; exact valid_len v l w h h1
  · cases h2 : rangedB l
    · rw [validF_rng h1 h2]; exact valid_rng v l w h (by omega) (by omega) h2
    · cases h3 : dupB l
      · rw [validF_rest h1 h2 h3, ← cross_eq l (by omega)]; exact valid_rest v l w h (by omega) (by omega) h2 h3
      · rw [validF_dup h1 h2 h3]; exact valid_dup v l w h (by omega) (by omega) h2 h3
theorem validate_is {v : Value} {l : List (Int × Int)} {e : Int} (w : World) (h : PairsAt w v l) (he : validF l = e) : Gives Try.prog 27 #[v] w (.int .i64 e) := he ▸ validate_calls v l w h
theorem Valid.bd {l : List (Int × Int)} (h : Valid l) (i : Nat) : bdP (cor l i) := by have := h.rng i; unfold bdP; omega
end Go.Proofs.Ythiemglckmociaa
