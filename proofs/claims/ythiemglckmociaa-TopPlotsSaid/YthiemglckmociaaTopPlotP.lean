/- What TopPlots asks of points, in plain: parts and triangles against the plot. No conditions. -/
import Derived.Test.YthiemglckmociaaPtTriA
import Derived.Test.YthiemglckmociaaPtSplitF
import Derived.Test.YthiemglckmociaaPtMovedA
namespace Go.Proofs.Ythiemglckmociaa
open Go.RowKit
theorem where_cases {l : List (Int × Int)} (hv : Valid l) (x : Int × Int) : (whereP l x = 1 ∧ InP (cor l) l.length x) ∨ (whereP l x = -1 ∧ OutP (cor l) l.length x) ∨ (whereP l x = 0 ∧ onAny l x = true) := by
  rw [where_side hv]
  cases h : onAny l x
  · rw [side_off h]
    split
    · rename_i c
      exact .inr (.inl ⟨rfl, onAny_none h, c⟩)
    · rename_i c
      exact .inl ⟨rfl, onAny_none h, c⟩
  · exact .inr (.inr ⟨side_on h, rfl⟩)
theorem in_iff {l : List (Int × Int)} (hv : Valid l) (x : Int × Int) : whereP l x = 1 ↔ InP (cor l) l.length x := by
  constructor
  · intro h
    rcases where_cases hv x with ⟨_, k⟩ | ⟨e, _⟩ | ⟨e, _⟩
    · exact k
    · rw [e] at h; cases h
    · rw [e] at h; cases h
  · intro ⟨h1, h2⟩
    rw [where_side hv, side_off (onAny_not h1), if_neg h2]
theorem out_is {l : List (Int × Int)} (hv : Valid l) {x : Int × Int} (h : whereP l x < 0) : wsum (cor l) l.length x = 0 := by
  rcases where_cases hv x with ⟨e, _⟩ | ⟨_, k⟩ | ⟨e, _⟩
  · rw [e] at h; cases h
  · exact k.2
  · rw [e] at h; cases h
/-- How the parts lie in the plot. -/
structure PartsIn (l p q : List (Int × Int)) : Prop where
  vp : Valid p
  vq : Valid q
  inp : ∀ x, whereP p x = 1 → whereP l x = 1
  inq : ∀ x, whereP q x = 1 → whereP l x = 1
  one : ∀ x, ¬ (whereP p x = 1 ∧ whereP q x = 1)
  some : ∀ x, whereP l x = 1 → ¬ (whereP p x < 0 ∧ whereP q x < 0)
theorem parts_in {l : List (Int × Int)} (hv : Valid l) {i j : Nat} (hi : i < l.length) (hj : j < l.length) (hsp : splitB l i j = true) : PartsIn l (btw l i (farM l.length i j)) (btw l j (farM l.length j i)) := by
  obtain ⟨m, m2, m3, hm, d, hc⟩ := split_parts hv hi hj hsp
  have e1 : farM l.length i j = m := by unfold farM; split <;> omega
  have e2 : farM l.length j i = l.length - m := by unfold farM; split <;> omega
  rw [e1, e2]
  have hs := hv.simple.shift i
  have e : (fun k => (fun k => cor l (k + i)) (k + m)) = fun k => cor l (k + j) := funext fun k => by
    show cor l (k + m + i) = cor l (k + j)
    rcases hm with x | x
    · rw [show k + m + i = k + j by omega]
    · rw [show k + m + i = k + j + l.length by omega, cor_per]
  have p1 := d.part hs
  have p2 := (d.swap hs).part (hs.shift m)
  have v1 := btw_valid hv m3 p1
  have v2 : Valid (btw l j (l.length - m)) := btw_valid hv (by omega) (by rw [e] at p2; exact p2)
  have c1 : cor (btw l i m) = part (fun k => cor l (k + i)) m := cor_btw l i m
  have c2 : cor (btw l j (l.length - m)) = part (fun k => (fun k => cor l (k + i)) (k + m)) (l.length - m) := by rw [cor_btw, ← e]
  have L1 : (btw l i m).length = m + 1 := btw_length l i m
  have L2 : (btw l j (l.length - m)).length = l.length - m + 1 := btw_length l j _
  have hp := InP.parts hs d hc
  refine ⟨v1, v2, fun x h => ?_, fun x h => ?_, fun x ⟨h, k⟩ => ?_, fun x h ⟨k1, k2⟩ => ?_⟩
  · rw [in_iff v1, c1, L1] at h
    exact (in_iff hv x).2 ((InP.shift hv.simple i).1 (InP.part hs d hc h))
  · rw [in_iff v2, c2, L2] at h
    exact (in_iff hv x).2 ((InP.shift hv.simple i).1 (InP.other hs d hc h))
  · rw [in_iff v1, c1, L1] at h
    rw [in_iff v2, c2, L2] at k
    exact (hp x).1 ⟨h.2, k.2⟩
  · have h := (InP.shift hv.simple i).2 ((in_iff hv x).1 h)
    have k1 := out_is v1 k1
    have k2 := out_is v2 k2
    rw [c1, L1] at k1
    rw [c2, L2] at k2
    rcases (hp x).2 h.2 with c | c
    · exact c k1
    · exact c k2
theorem cY_parts {f g h : Int × Int → Bool} (k : ∀ x, (f x = true → h x = true) ∧ (g x = true → h x = true) ∧ ¬ (f x = true ∧ g x = true)) (i : Nat) : ∀ j, cY f i j + cY g i j ≤ cY h i j
  | 0 => by simp [cY, sumN]
  | j + 1 => by
    have ih := cY_parts k i j
    obtain ⟨k1, k2, k3⟩ := k ((i : Int) - 30, (j : Int) - 30)
    cases ef : f ((i : Int) - 30, (j : Int) - 30)
    · cases eg : g ((i : Int) - 30, (j : Int) - 30)
      · rw [cY_no ef, cY_no eg]
        cases eh : h ((i : Int) - 30, (j : Int) - 30)
        · rw [cY_no eh]; exact ih
        · rw [cY_yes eh]; omega
      · rw [cY_no ef, cY_yes eg, cY_yes (k2 eg)]; omega
    · cases eg : g ((i : Int) - 30, (j : Int) - 30)
      · rw [cY_yes ef, cY_no eg, cY_yes (k1 ef)]; omega
      · exact absurd ⟨ef, eg⟩ k3
theorem cX_parts {f g h : Int × Int → Bool} (k : ∀ x, (f x = true → h x = true) ∧ (g x = true → h x = true) ∧ ¬ (f x = true ∧ g x = true)) : ∀ i, cX f i + cX g i ≤ cX h i
  | 0 => by simp [cX, sumN]
  | i + 1 => by
    have ih := cX_parts k i
    have := cY_parts k i 61
    rw [cX_succ, cX_succ, cX_succ]; omega
theorem PartsIn.inside {l p q : List (Int × Int)} (h : PartsIn l p q) (hv : Valid l) : insideF p + insideF q ≤ insideF l := by
  unfold insideF
  rw [if_pos (valid_iff.2 hv), if_pos (valid_iff.2 h.vp), if_pos (valid_iff.2 h.vq)]
  refine cX_parts (fun x => ?_) 61
  simp only [beq_iff_eq]
  exact ⟨h.inp x, h.inq x, h.one x⟩
theorem tri_cor {t : List (Int × Int)} (h : t.length = 3) : tri (tri3 t) = cor t := funext fun i => by
  have e : cor t i = cor t (i % 3) := cor_same (by rw [h, Nat.mod_mod])
  rw [e]
  unfold tri tri3
  have := Nat.mod_lt i (show 0 < 3 by decide)
  rcases (show i % 3 = 0 ∨ i % 3 = 1 ∨ i % 3 = 2 by omega) with c | c | c <;> rw [c] <;> rfl
/-- How many of the first k triangles have a point inside. -/
def timesK (T : List (List (Int × Int))) (x : Int × Int) : Nat → Nat
  | 0 => 0
  | k + 1 => timesK T x k + if whereP (T.getD k []) x = 1 then 1 else 0
theorem times_cnt {T : List (List (Int × Int))} (h : ∀ t ∈ T, t.length = 3) (x : Int × Int) : ∀ k, k ≤ T.length → timesK T x k = cntT (fun t => whereP [t.1, t.2.1, t.2.2] x == 1) ((T.take k).map tri3)
  | 0, _ => rfl
  | k + 1, hk => by
    have hk : k < T.length := hk
    have e : T.getD k [] = T[k] := by simp [hk]
    have h3 := h _ (List.getElem_mem hk)
    obtain ⟨a, b, c, ht⟩ : ∃ a b c, T[k] = [a, b, c] := by
      generalize T[k] = t at *
      match t, h3 with
      | [a, b, c], _ => exact ⟨a, b, c, rfl⟩
    rw [timesK, times_cnt h x k (by omega), e, List.take_add_one, List.getElem?_eq_getElem hk]
    show _ = cntT _ (List.map tri3 (T.take k ++ [T[k]]))
    rw [List.map_append, cntT_app, ht]
    show _ = _ + ((if (whereP [(tri3 [a, b, c]).1, (tri3 [a, b, c]).2.1, (tri3 [a, b, c]).2.2] x == 1) = true then 1 else 0) + 0)
    have e3 : tri3 [a, b, c] = (a, b, c) := rfl
    rw [e3]
    simp only [beq_iff_eq, Nat.add_zero]
theorem times_ok {l : List (Int × Int)} {T : List (List (Int × Int))} (hv : Valid l) (t : TriOK l T) (x : Int × Int) : timesK T x T.length ≤ 1 ∧ (timesK T x T.length ≠ 0 → whereP l x = 1) := by
  have h3 : ∀ u ∈ T, u.length = 3 := fun u hu => (t.each u hu).1
  have := t.ins x (fun t => whereP [t.1, t.2.1, t.2.2] x == 1) (fun u hu hf => by
    obtain ⟨s, hs, rfl⟩ := List.mem_map.1 hu
    obtain ⟨k1, k2⟩ := t.each s hs
    obtain ⟨a, b, c, ht⟩ : ∃ a b c, s = [a, b, c] := by
      match s, k1 with
      | [a, b, c], _ => exact ⟨a, b, c, rfl⟩
    subst ht
    rw [tri_cor k1]
    exact (in_iff k2 x).1 (show whereP [a, b, c] x = 1 from eq_of_beq hf))
  rw [times_cnt h3 x _ (Nat.le_refl _), List.take_length]
  exact ⟨this.1, fun h => (in_iff hv x).2 (this.2 (by omega))⟩
end Go.Proofs.Ythiemglckmociaa
