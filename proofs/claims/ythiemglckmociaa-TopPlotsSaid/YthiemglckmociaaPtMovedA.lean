/- How many points are inside and on the border, counted twice, and what they tell of the area. No conditions. -/
import Derived.Test.YthiemglckmociaaPtIns
import Derived.Test.YthiemglckmociaaPtSideLaw
import Derived.Test.YthiemglckmociaaGeoA
namespace Go.Proofs.Ythiemglckmociaa
open Go.RowKit

theorem cX_sum2 (f : Int × Int → Bool) : cX f 61 = sum2 30 (fun x => if f x = true then 1 else 0) :=
  sumN_swap (fun (i j : Nat) => if f ((i : Int) - 30, (j : Int) - 30) = true then (1 : Int) else 0) 61 61
theorem inside_eq (l : List (Int × Int)) : insideF l = rinsideF l := by
  unfold insideF rinsideF
  by_cases h : validF l = 0
  · rw [if_pos h, if_pos h]
    unfold pointsF
    congr 1
    funext x
    rw [where_side (valid_iff.1 h)]
  · rw [if_neg h, if_neg h]
theorem onAny_some {l : List (Int × Int)} {x : Int × Int} {i : Nat} (hi : i < l.length) (h : onB (cor l i) (cor l (i + 1)) x = true) : onAny l x = true := by
  cases c : onAny l x
  · have := onAny_none c i hi; rw [h] at this; cases this
  · rfl
theorem onAny_not {l : List (Int × Int)} {x : Int × Int} (h : ∀ i, i < l.length → onB (cor l i) (cor l (i + 1)) x = false) : onAny l x = false := by
  cases c : onAny l x
  · rfl
  · obtain ⟨i, hi, e⟩ := anyN_elim c
    rw [h i hi] at e; cases e
theorem side_on {l : List (Int × Int)} {x : Int × Int} (h : onAny l x = true) : sideF l x = 0 := by unfold sideF; rw [if_pos h]
theorem side_off {l : List (Int × Int)} {x : Int × Int} (h : onAny l x = false) : sideF l x = if wsum (cor l) l.length x = 0 then -1 else 1 := by
  unfold sideF; rw [h, if_neg (by decide), windK_wsum]
theorem border_eq (l : List (Int × Int)) : bordF l = rborderF l := by
  unfold bordF rborderF
  by_cases h : validF l = 0
  · rw [if_pos h, if_pos h]
    have hv := valid_iff.1 h
    unfold pointsF
    rw [cX_sum2]
    refine (border_points hv.simple (B := 30) hv.rng (fun x i hi ho => ?_) (fun x ho => ?_)).symm
    · rw [side_on (onAny_some hi ho)]; rfl
    · rw [side_off (onAny_not ho)]
      split <;> rfl
  · rw [if_neg h, if_neg h]
theorem pick_eq {l : List (Int × Int)} (h : validF l = 0) : twiceF l = 2 * insideF l + bordF l - 2 := by
  have hv := valid_iff.1 h
  rw [border_eq, inside_eq]
  unfold twiceF rinsideF rborderF
  rw [if_pos h, if_pos h, if_pos h]
  unfold pointsF
  rw [cX_sum2, cX_sum2]
  have ha := abs_area hv.simple
  have e : areaK l l.length = area (cor l) l.length := rfl
  rw [e, ha]
  refine pick hv.simple (B := 30) hv.rng (fun x i hi ho => ?_) (fun x ho => ?_)
  · rw [side_on (onAny_some hi ho)]; exact ⟨rfl, rfl⟩
  · rw [side_off (onAny_not ho)]
    by_cases c : wsum (cor l) l.length x = 0
    · rw [if_pos c, if_pos c]; exact ⟨rfl, rfl⟩
    · rw [if_neg c, if_neg c]; exact ⟨rfl, rfl⟩
theorem inside_bd (l : List (Int × Int)) : 0 ≤ insideF l ∧ insideF l ≤ 4000 := by
  unfold insideF
  split
  · have := cX_bd (fun x => whereP l x == 1) 61; omega
  · omega
theorem border_bd (l : List (Int × Int)) : 0 ≤ bordF l ∧ bordF l ≤ 80000 := by
  unfold bordF
  split
  · rename_i h
    have hv := valid_iff.1 h
    have := bordK_bd hv.bd l.length
    have hi := hv.hi
    omega
  · omega
end Go.Proofs.Ythiemglckmociaa
/- Plots moved, turned by a quarter, mirrored, gone round the other way: that they are plots, and what stays as it is. No conditions. -/
namespace Go.Proofs.Ythiemglckmociaa
open Go.RowKit

theorem touch_of_apart {a b c d : Int × Int} (h : apart a b c d) : touchB a b c d = false := by
  obtain ⟨h1, h2, h3, h4, h5⟩ := h
  simp only [touchB, Bool.or_eq_false_iff]
  refine ⟨⟨⟨⟨h3, h4⟩, h1⟩, h2⟩, ?_⟩
  simp only [Bool.and_eq_false_iff, decide_eq_false_iff_not]
  by_cases c : turn a b c * turn a b d < 0
  · exact .inr fun e => h5 ⟨c, e⟩
  · exact .inl c
/-- What is simple, short and in range is a plot. -/
theorem Valid.of_simple {l : List (Int × Int)} (hi : l.length ≤ 10) (hr : ∀ i, (-30 ≤ (cor l i).1 ∧ (cor l i).1 ≤ 30) ∧ -30 ≤ (cor l i).2 ∧ (cor l i).2 ≤ 30) (h : Simple (cor l) l.length) : Valid l := by
  refine ⟨h.three, hi, hr, anyN_false fun i hi => anyN_false fun k hk => ?_, anyN_false fun i hi => ?_⟩
  · have : cor l i ≠ cor l k := fun e => by have := h.inj i k hi (by omega) e; omega
    simpa using this
  · rw [Bool.or_eq_false_iff]
    refine ⟨?_, anyN_false fun k hk => ?_⟩
    · have hs := h.spike i
      cases c : spikeB l i
      · rfl
      · obtain ⟨c1, c2⟩ := backB_iff.1 c
        refine absurd ⟨?_, c2⟩ hs
        rw [turn_swap]; omega
    · cases c : crossR l i k
      · rfl
      · simp only [crossR, Bool.and_eq_true, decide_eq_true_eq] at c
        obtain ⟨⟨⟨h1, h2⟩, h3⟩, h4⟩ := c
        have := touch_of_apart (h.free i k hi hk h1 (fun e => h3 e.symm) (fun e => h2 e.symm))
        unfold sideT at h4
        rw [this] at h4; cases h4
theorem cor_map {l : List (Int × Int)} (f : Int × Int → Int × Int) (h : 0 < l.length) (i : Nat) : cor (l.map f) i = f (cor l i) := by
  have hm : i % l.length < l.length := Nat.mod_lt _ h
  unfold cor
  rw [List.length_map, gi_lt (by rw [List.length_map]; exact hm), gi_lt hm, List.getElem_map]
theorem Valid.map {l : List (Int × Int)} {f : Int × Int → Int × Int} {s : Int} (h : Valid l) (k : Keeps f s) (hr : ∀ i, (-30 ≤ (f (cor l i)).1 ∧ (f (cor l i)).1 ≤ 30) ∧ -30 ≤ (f (cor l i)).2 ∧ (f (cor l i)).2 ≤ 30) : Valid (l.map f) := by
  have h3 := h.lo
  have e : cor (l.map f) = fun i => f (cor l i) := funext fun i => cor_map f (by omega) i
  refine Valid.of_simple (by rw [List.length_map]; exact h.hi) (fun i => by rw [e]; exact hr i) ?_
  rw [e, List.length_map]
  exact k.simple h.simple
end Go.Proofs.Ythiemglckmociaa
