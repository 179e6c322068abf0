/- How many points are inside and on the border, counted twice, and what they tell of the area. No conditions. -/
import Derived.Test.YthiemglckmociaaPtIns
import Derived.Test.YthiemglckmociaaPtSideLaw
import Derived.Test.YthiemglckmociaaGeoA
namespace Go.Proofs.Ythiemglckmociaa
open Go.RowKit

theorem cX_sum2 (f : Int × Int → Bool) : cX f 61 = sum2 30 (fun x => if f x = true then 1 else 0) :=
  sumN_swap (fun (i j : Nat) => if f ((i : Int) - 30, (j : Int) - 30) = true then (1 : Int) else 0) 61 61
theorem inside_eq (l : List (Int × Int)) : insideF l = rinsideF l := by
  unfold insideF rinsideF
  by_cases h : validF l = 0
  · rw [if_pos h, if_pos h]
    unfold pointsF
    congr 1
    funext x
    rw [where_side (valid_iff.1 h)]
  · rw [if_neg h, if_neg h]
theorem onAny_some {l : List (Int × Int)} {x : Int × Int} {i : Nat} (hi : i < l.length) (h : onB (cor l i) (cor l (i + 1)) x = true) : onAny l x = true := by
  cases c : onAny l x
  · have := onAny_none c i hi; rw [h] at this; cases this
  · rfl
theorem onAny_not {l : List (Int × Int)} {x : Int × Int} (h : ∀ i, i < l.length → onB (cor l i) (cor l (i + 1)) x = false) : onAny l x = false := by
  cases c : onAny l x
  · rfl
  · obtain ⟨i, hi, e⟩ := anyN_elim c
    rw [h i hi] at e; cases e
theorem side_on {l : List (Int × Int)} {x : Int × Int} (h : onAny l x = true) : sideF l x = 0 := by unfold sideF; rw [if_pos h]
theorem side_off {l : List (Int × Int)} {x : Int × Int} (h : onAny l x = false) : sideF l x = if wsum (cor l) l.length x = 0 then -1 else 1 := by
  unfold sideF; rw [h, if_neg (by decide), windK_wsum]
theorem border_eq (l : List (Int × Int)) : bordF l = rborderF l := by
  unfold bordF rborderF
  by_cases h : validF l = 0
  · rw [if_pos h, if_pos h]
    have hv := valid_iff.1 h
    unfold pointsF
    rw [cX_sum2]
    refine (border_points hv.simple (B := 30) hv.rng (fun x i hi ho => ?_) (fun x ho => ?_)).symm
    · rw [side_on (onAny_some hi ho)]; rfl
    · rw [side_off (onAny_not ho)]
      split <;> rfl
  · rw [if_neg h, if_neg h]
theorem pick_eq {l : List (Int × Int)} (h : validF l = 0) : twiceF l = 2 * insideF l + bordF l - 2 := by
  have hv := valid_iff.1 h
  rw [border_eq, inside_eq]
  unfold twiceF rinsideF rborderF
  rw [if_pos h, if_pos h, if_pos h]
  unfold pointsF
  rw [cX_sum2, cX_sum2]
  have ha := abs_area hv.simple
  have e : areaK l l.length = area (cor l) l.length := rfl
  rw [e, ha]
  refine pick hv.simple (B := 30) hv.rng (fun x i hi ho => ?_) (fun x ho => ?_)
  · rw [side_on (onAny_some hi ho)]; exact ⟨rfl, rfl⟩
  · rw [side_off (onAny_not ho)]
    by_cases c : wsum (cor l) l.length x = 0
    · rw [if_pos c, if_pos c]; exact ⟨rfl, rfl⟩
    · rw [if_neg c, if_neg c]; exact ⟨rfl, rfl⟩
theorem inside_bd (l : List (Int × Int)) : 0 ≤ insideF l ∧ insideF l ≤ 4000 := by
  unfold insideF
  split
  · have := cX_bd (fun x => whereP l x == 1) 61; omega
  · omega
theorem border_bd (l : List (Int × Int)) : 0 ≤ bordF l ∧ bordF l ≤ 80000 := by
  unfold bordF
  split
  · rename_i h
    have hv := valid_iff.1 h
    have := bordK_bd hv.bd l.length
    have hi := hv.hi
    omega
  · omega
end Go.Proofs.Ythiemglckmociaa
