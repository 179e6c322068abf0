/- What TrianglesError of the document gives. Conditions: the list lies in memory as said. -/
import Derived.Test.YthiemglckmociaaPtRQuarter
import Derived.Test.YthiemglckmociaaPtCutA
import Derived.Test.YthiemglckmociaaPtNormF
import Derived.Test.YthiemglckmociaaTriG
namespace Go.Proofs.Ythiemglckmociaa
open Go.RowKit

/-- Three corners on one line. -/
def col3 (l : List (Int × Int)) (i k m : Nat) : Bool := turn (gi l (0, 0) i) (gi l (0, 0) k) (gi l (0, 0) m) == 0
def colB (l : List (Int × Int)) : Bool := anyN (fun i => anyN (fun k => anyN (col3 l i k) k) i) l.length
def triE (l : List (Int × Int)) : Int := if validF l = 0 then (if colB l = true then 8 else 0) else validF l
end Go.Proofs.Ythiemglckmociaa
/- The triangles into which the program splits a plot, in plain. No conditions. -/
namespace Go.Proofs.Ythiemglckmociaa
open Go.RowKit
/-- The corners of a triangle. -/
def tri3 (t : List (Int × Int)) : Pt × Pt × Pt := (cor t 0, cor t 1, cor t 2)
/-- A plot is split, part by part; which corners split it is left open. -/
inductive IsTri : List (Int × Int) → List (List (Int × Int)) → Prop
  | base {l : List (Int × Int)} (h : l.length = 3) : IsTri l [normF l]
  | split {l : List (Int × Int)} {T U : List (List (Int × Int))} (i j : Nat) (hi : i < l.length) (hj : j < l.length) (hs : splitB l i j = true) (t : IsTri (btw l i (farM l.length i j)) T) (u : IsTri (btw l j (farM l.length j i)) U) : IsTri l (T ++ U)
theorem cor_same {l : List (Int × Int)} {a b : Nat} (h : a % l.length = b % l.length) : cor l a = cor l b := by unfold cor; rw [h]
theorem turn_zero {a b c : Int × Int} (e : turn a b c = 0) : turn a c b = 0 ∧ turn b a c = 0 ∧ turn b c a = 0 ∧ turn c a b = 0 ∧ turn c b a = 0 := by
  have h1 : turn a c b = - turn a b c := by unfold turn; grind
  have h2 : turn b a c = - turn a b c := by unfold turn; grind
  have h3 : turn b c a = turn a b c := by unfold turn; grind
  have h4 : turn c a b = turn a b c := by unfold turn; grind
  have h5 : turn c b a = - turn a b c := by unfold turn; grind
  omega
theorem noLine_of {l : List (Int × Int)} (h0 : 0 < l.length) (h : colB l = false) : NoLine (cor l) l.length := by
  have key : ∀ i k m, i < l.length → k < i → m < k → turn (cor l i) (cor l k) (cor l m) ≠ 0 := fun i k m h1 h2 h3 e => by
    have := anyN_none (anyN_none (anyN_none h i h1) k h2) m h3
    unfold col3 at this
    rw [← cor_lt h1, ← cor_lt (show k < l.length by omega), ← cor_lt (show m < l.length by omega), e] at this
    simp at this
  intro i j k h1 h2 h3 e
  have a1 := Nat.mod_lt i h0
  have a2 := Nat.mod_lt j h0
  have a3 := Nat.mod_lt k h0
  have e1 : cor l i = cor l (i % l.length) := cor_same (Nat.mod_mod _ _).symm
  have e2 : cor l j = cor l (j % l.length) := cor_same (Nat.mod_mod _ _).symm
  have e3 : cor l k = cor l (k % l.length) := cor_same (Nat.mod_mod _ _).symm
  rw [e1, e2, e3] at e
  generalize i % l.length = a at *
  generalize j % l.length = b at *
  generalize k % l.length = c at *
  obtain ⟨z1, z2, z3, z4, z5⟩ := turn_zero e
  rcases (show (a < b ∧ b < c) ∨ (a < c ∧ c < b) ∨ (b < a ∧ a < c) ∨ (b < c ∧ c < a) ∨ (c < a ∧ a < b) ∨ (c < b ∧ b < a) by omega) with ⟨x, y⟩ | ⟨x, y⟩ | ⟨x, y⟩ | ⟨x, y⟩ | ⟨x, y⟩ | ⟨x, y⟩
  · exact key c b a a3 y x z5
  · exact key b c a a2 y x z3
  · exact key c a b a3 y x z4
  · exact key a c b a1 y x z1
  · exact key b a c a2 y x z2
  · exact key a b c a1 y x e
/-- The normal form of a triangle: its corners, turning left. -/
theorem norm_three {l : List (Int × Int)} (hv : Valid l) (h : l.length = 3) : 0 < turn (cor (normF l) 0) (cor (normF l) 1) (cor (normF l) 2) ∧
    ((lam (cor l) 3 0 = 1 ∧ ∃ i, tri3 (normF l) = (cor l i, cor l (i + 1), cor l (i + 2))) ∨ (lam (cor l) 3 0 ≠ 1 ∧ ∃ i, tri3 (normF l) = (cor l (i + 2), cor l (i + 1), cor l i))) := by
  obtain ⟨n1, n2, n3⟩ := norm_valid hv
  obtain ⟨g1, g2, g3⟩ := lft_valid hv
  have hs := hv.simple
  rw [h] at hs
  have hns := n1.simple
  rw [n3, h] at hns
  have hf := fstK_le (lftL l) ((lftL l).length - 1)
  have hi : fstK (lftL l) ((lftL l).length - 1) < (lftL l).length := by have := g1.lo; omega
  obtain ⟨s, hsd⟩ : ∃ s, fstK (lftL l) ((lftL l).length - 1) = s := ⟨_, rfl⟩
  rw [hsd] at hi
  have hc : ∀ k, cor (normF l) k = cor (lftL l) (k + s) := fun k => by
    unfold normF
    rw [hsd]
    exact cor_rotl hi k
  refine ⟨?_, ?_⟩
  · have ha : area (cor (normF l)) 3 = areaK (normF l) (normF l).length := by rw [n3, h]; rfl
    have := area3 hns 0
    rw [ha] at this
    have e : turn (cor (normF l) 0) (cor (normF l) (0 + 1)) (cor (normF l) (0 + 2)) = turn (cor (normF l) 0) (cor (normF l) 1) (cor (normF l) 2) := rfl
    rw [e] at this
    omega
  · have ha : area (cor l) 3 = areaK l l.length := by rw [h]; rfl
    have hp := hs.area_pos
    by_cases c : areaK l l.length < 0
    · right
      have el : lftL l = l.reverse := by unfold lftL; rw [if_pos c]
      refine ⟨fun q => by rw [q] at hp; omega, 2 - (s + 2) % 3, ?_⟩
      have e : ∀ k, cor (normF l) k = cor l (2 - (k + s) % 3) := fun k => by rw [hc, el, cor_rev (by omega), h]
      unfold tri3
      rw [e, e, e]
      refine Prod.ext (cor_same ?_) (Prod.ext (cor_same ?_) (cor_same ?_)) <;> rw [h] <;> omega
    · left
      have el : lftL l = l := by unfold lftL; rw [if_neg c]
      have hne := hv.area_ne
      refine ⟨lam_of_area hs (by omega), s, ?_⟩
      unfold tri3
      rw [hc, hc, hc, el, Nat.zero_add, Nat.add_comm 1 s, Nat.add_comm 2 s]
/-- What the triangles of a plot are, of which no three corners are on one line. -/
structure TriOK (l : List (Int × Int)) (T : List (List (Int × Int))) : Prop where
  tris : Tris (cor l) l.length (T.map tri3)
  ins : ∀ x, TrisIn (cor l) l.length (T.map tri3) x
  sum : sumT (T.map tri3) = (2 * lam (cor l) l.length 0 - 1) * area (cor l) l.length
  each : ∀ t ∈ T, t.length = 3 ∧ Valid t
theorem IsTri.ok {l : List (Int × Int)} {T : List (List (Int × Int))} (t : IsTri l T) : Valid l → NoLine (cor l) l.length → TriOK l T := by
  induction t with
  | @base l h =>
    intro hv _
    obtain ⟨h1, h2⟩ := norm_three hv h
    obtain ⟨n1, n2, n3⟩ := norm_valid hv
    have hs := hv.simple
    rw [h] at hs
    refine ⟨?_, fun x => ?_, ?_, fun t ht => ?_⟩
    · rw [h]; exact Tris.base hs h1 h2
    · rw [h]; exact TrisIn.base hs (by rcases h2 with ⟨_, k⟩ | ⟨_, k⟩; exact .inl k; exact .inr k)
    · rw [h]; exact sumT_base hs h2
    · rw [List.mem_singleton.1 ht]; exact ⟨n3.trans h, n1⟩
  | @split l T U i j hi hj hsp _ _ iht ihu =>
    intro hv nc
    obtain ⟨m, m2, m3, hm, d, hc⟩ := split_parts hv hi hj hsp
    have e1 : farM l.length i j = m := by unfold farM; split <;> omega
    have e2 : farM l.length j i = l.length - m := by unfold farM; split <;> omega
    rw [e1] at iht
    rw [e2] at ihu
    have hs := hv.simple.shift i
    have e : (fun k => (fun k => cor l (k + i)) (k + m)) = fun k => cor l (k + j) := funext fun k => by
      show cor l (k + m + i) = cor l (k + j)
      rcases hm with x | x
      · rw [show k + m + i = k + j by omega]
      · rw [show k + m + i = k + j + l.length by omega, cor_per]
    have p1 := d.part hs
    have p2 := (d.swap hs).part (hs.shift m)
    have nci := nc.shift (show 0 < l.length by omega) i
    have ncm := nci.shift (show 0 < l.length by omega) m
    have q1 := nci.part (m := m) (by omega)
    have q2 := ncm.part (m := l.length - m) (by omega)
    have v1 := btw_valid hv m3 p1
    have v2 : Valid (btw l j (l.length - m)) := btw_valid hv (by omega) (by rw [e] at p2; exact p2)
    have t1 := iht v1 (by rw [cor_btw, btw_length]; exact q1)
    have t2 := ihu v2 (by rw [cor_btw, btw_length, ← e]; exact q2)
    obtain ⟨a1, a2, a3, a4⟩ := t1
    obtain ⟨b1, b2, b3, b4⟩ := t2
    rw [cor_btw, btw_length] at a1 a3
    rw [cor_btw, btw_length, ← e] at b1 b3
    have a2 : ∀ x, TrisIn (part (fun k => cor l (k + i)) m) (m + 1) (T.map tri3) x := fun x => by have := a2 x; rwa [cor_btw, btw_length] at this
    have b2 : ∀ x, TrisIn (part (fun k => (fun k => cor l (k + i)) (k + m)) (l.length - m)) (l.length - m + 1) (U.map tri3) x := fun x => by have := b2 x; rwa [cor_btw, btw_length, ← e] at this
    refine ⟨?_, fun x => ?_, ?_, fun t ht => ?_⟩
    · rw [List.map_append]; exact (Tris.join hs nci d hc a1 b1).unshift hv.simple
    · rw [List.map_append]; exact (TrisIn.join hs d hc (a2 x) (b2 x)).unshift hv.simple
    · rw [List.map_append, sumT_join hs d hc a3 b3, lam_shift hv.simple i, area_shifted hv.simple i]
    · rcases List.mem_append.1 ht with k | k
      · exact a4 t k
      · exact b4 t k
/-- The normal form, from some corner on. -/
theorem norm_cor {l : List (Int × Int)} (hv : Valid l) : ∃ s, cor (normF l) = (fun k => cor l (k + s)) ∨ cor (normF l) = fun k => rev (cor l) l.length (k + s) := by
  obtain ⟨g1, g2, g3⟩ := lft_valid hv
  have h3 := hv.lo
  have hf := fstK_le (lftL l) ((lftL l).length - 1)
  have hi : fstK (lftL l) ((lftL l).length - 1) < (lftL l).length := by have := g1.lo; omega
  obtain ⟨s, hsd⟩ : ∃ s, fstK (lftL l) ((lftL l).length - 1) = s := ⟨_, rfl⟩
  rw [hsd] at hi
  have hc : ∀ k, cor (normF l) k = cor (lftL l) (k + s) := fun k => by
    unfold normF
    rw [hsd]
    exact cor_rotl hi k
  by_cases c : areaK l l.length < 0
  · have el : lftL l = l.reverse := by unfold lftL; rw [if_pos c]
    refine ⟨s + 1, .inr (funext fun k => ?_)⟩
    rw [hc, el, cor_rev (by omega)]
    unfold rev
    refine cor_same ?_
    -- both are - (k + s + 1)
    have hb := rev_idx l.length (k + (s + 1)) (by omega)
    have hlt := Nat.mod_lt (k + s) (show 0 < l.length by omega)
    refine mod_cancel (m := k + (s + 1)) (by omega) ?_
    rw [rev_mod _ _ (by omega), show l.length - 1 - (k + s) % l.length + (k + (s + 1)) = (k + s - (k + s) % l.length) + l.length by have := Nat.mod_le (k + s) l.length; omega, Nat.add_mod_right]
    have hd := Nat.div_add_mod (k + s) l.length
    rw [show k + s - (k + s) % l.length = l.length * ((k + s) / l.length) by omega, Nat.mul_mod_right]
  · have el : lftL l = l := by unfold lftL; rw [if_neg c]
    exact ⟨s, .inl (funext fun k => by rw [hc, el])⟩
theorem TriOK.norm {l : List (Int × Int)} {T : List (List (Int × Int))} (t : TriOK l T) (hv : Valid l) (nc : NoLine (cor l) l.length) : Tris (cor (normF l)) l.length (T.map tri3) := by
  have h3 := hv.lo
  obtain ⟨s, e | e⟩ := norm_cor hv
  · rw [e]; exact t.tris.shift hv.simple s
  · rw [e]; exact (t.tris.rev hv.simple nc).shift hv.simple.turned s
end Go.Proofs.Ythiemglckmociaa
/- What the document counts of triangles, in plain. No conditions. -/
namespace Go.Proofs.Ythiemglckmociaa
open Go.RowKit
/-- What each triangle has: its area. -/
theorem are_each {l : List (Int × Int)} {T : List (List (Int × Int))} (hv : Valid l) (nc : NoLine (cor l) l.length) (t : TriOK l T) {u : List (Int × Int)} (hu : u ∈ T) : areaK u u.length = turn (cor u 0) (cor u 1) (cor u 2) ∧ 0 < areaK u u.length ∧ twiceF u = areaK u u.length := by
  obtain ⟨h1, h2⟩ := t.each _ hu
  have hs := h2.simple
  rw [h1] at hs
  have e := area3 hs 0
  have e1 : area (cor u) 3 = areaK u u.length := by rw [h1]; rfl
  rw [e1] at e
  have hp := (t.norm hv nc).lft _ (List.mem_map_of_mem hu)
  have e2 : areaK u u.length = turn (cor u 0) (cor u 1) (cor u 2) := e
  have hp : 0 < turn (cor u 0) (cor u 1) (cor u 2) := hp
  refine ⟨e2, by omega, ?_⟩
  unfold twiceF
  rw [if_pos (valid_iff.2 h2)]
  omega
/-- The first k areas. -/
def sumK (T : List (List (Int × Int))) (k : Nat) : Int := ((T.take k).map twiceF).sum
theorem sumK_succ {T : List (List (Int × Int))} {k : Nat} (h : k < T.length) : sumK T (k + 1) = sumK T k + twiceF (T.getD k []) := by
  unfold sumK
  have e : T.getD k [] = T[k] := by simp [h]
  rw [List.take_add_one, List.getElem?_eq_getElem h, e]
  show (List.map twiceF (T.take k ++ [T[k]])).sum = _
  rw [List.map_append, List.sum_append]
  show _ + (twiceF T[k] + 0) = _
  omega
theorem are_sum {l : List (Int × Int)} {T : List (List (Int × Int))} (hv : Valid l) (nc : NoLine (cor l) l.length) (t : TriOK l T) : sumK T T.length = twiceF l := by
  have h : ∀ U : List (List (Int × Int)), (∀ u ∈ U, u ∈ T) → (U.map twiceF).sum = sumT (U.map tri3) := by
    intro U
    induction U with
    | nil => intro _; rfl
    | cons u U ih =>
      intro k
      obtain ⟨h1, h2, h3⟩ := are_each hv nc t (k u (by simp))
      rw [List.map_cons, List.map_cons, List.sum_cons, ih fun v hv => k v (List.mem_cons_of_mem _ hv), h3, h1]
      rfl
  unfold sumK
  rw [List.take_length, h T fun _ h => h, t.sum]
  have hs := hv.simple
  have hp := hs.area_pos
  have e : area (cor l) l.length = areaK l l.length := rfl
  rw [e] at hp
  unfold twiceF
  rw [if_pos (valid_iff.2 hv), e]
  rcases hs.lam01 with c | c <;> rw [c] at hp ⊢ <;> omega
end Go.Proofs.Ythiemglckmociaa
