/- Lines inside a part of a plot are lines inside the plot. No conditions. -/
import Derived.Test.YthiemglckmociaaHullG
namespace Go.Proofs.Ythiemglckmociaa
/-- All points inside the line count as its middle. -/
theorem Diag.within {p : Nat → Int × Int} {n m : Nat} (h : Simple p n) (d : Diag p n m) {k : Int} (hk : 0 < k) {x : Int × Int} (hx : inn (sc k (p 0)) (sc k (p m)) x) :
    wsum (fun i => sc k (p i)) n x = wsum (fun i => sc 2 (p i)) n (mid2 (p 0) (p m)) := by
  have lo := d.lo; have hi := d.hi
  have hl := d.part h
  have hs : Simple (fun k => p (k + m)) n := h.shift m
  have hr := (d.swap h).part hs
  have hne : p 0 ≠ p m := fun e => by have := h.inj 0 m (by omega) (by omega) e; omega
  have e1 := hl.lam_eq m hk (x := x) (by rw [part_lt (Nat.le_refl _), part_end]; exact ⟨by rw [onB_swap]; exact hx.1, hx.2.2, hx.2.1⟩)
  have hpn : p n = p 0 := h.per1
  have e2 := hr.lam_eq (n - m) hk (x := x) (by
    rw [part_lt (Nat.le_refl _), part_end]
    show inn (sc k (p (n - m + m))) (sc k (p (0 + m))) _
    rw [Nat.zero_add, show n - m + m = n by omega, hpn]
    exact hx)
  have l1 := hl.lam_all m
  have l2 := hr.lam_all (n - m)
  rw [part_lt (Nat.le_refl _), part_end] at e1
  rw [part_lt (Nat.le_refl _), part_end] at e2
  rw [Nat.zero_add, show n - m + m = n by omega, hpn] at e2
  have hw := wsum_parts (p := fun i => sc k (p i)) (n := n) (m := m) (by simp only [hpn]) (by omega) x
  have hu := up_rev hne
  have hsum := d.lam_sum h
  rw [sc_part] at e1 e2
  have hfe : (fun i => sc k ((fun k => p (k + m)) i)) = fun j => sc k (p (j + m)) := rfl
  rw [hfe] at e2
  omega
/-- No three corners are on one line. -/
def NoLine (p : Nat → Int × Int) (n : Nat) : Prop := ∀ i j k, i % n ≠ j % n → j % n ≠ k % n → i % n ≠ k % n → turn (p i) (p j) (p k) ≠ 0
theorem Diag.sub {p : Nat → Int × Int} {n m : Nat} (h : Simple p n) (d : Diag p n m) (hc : wsum (fun i => sc 2 (p i)) n (mid2 (p 0) (p m)) ≠ 0) (nc : NoLine p n) {a b : Nat} (hab : a + 2 ≤ b) (hb : b ≤ m)
    (d1 : Diag (fun k => Go.Proofs.Ythiemglckmociaa.part p m (k + a)) (m + 1) (b - a)) (hc1 : wsum (fun i => sc 2 (Go.Proofs.Ythiemglckmociaa.part p m (i + a))) (m + 1) (mid2 (p a) (p b)) ≠ 0) :
    Diag (fun k => p (k + a)) n (b - a) ∧ wsum (fun i => sc 2 (p (i + a))) n (mid2 (p a) (p b)) ≠ 0 := by
  have lo := d.lo; have hi := d.hi
  have hl := d.part h
  have nc' : ∀ {i j k : Nat}, i < n → j < n → k < n → i ≠ j → j ≠ k → i ≠ k → turn (p i) (p j) (p k) ≠ 0 := fun {i j k} h1 h2 h3 h4 h5 h6 =>
    nc i j k (by rw [Nat.mod_eq_of_lt h1, Nat.mod_eq_of_lt h2]; exact h4) (by rw [Nat.mod_eq_of_lt h2, Nat.mod_eq_of_lt h3]; exact h5) (by rw [Nat.mod_eq_of_lt h1, Nat.mod_eq_of_lt h3]; exact h6)
  have pa : Go.Proofs.Ythiemglckmociaa.part p m (0 + a) = p a := by rw [Nat.zero_add, part_lt (by omega)]
  have pb : Go.Proofs.Ythiemglckmociaa.part p m (b - a + a) = p b := by rw [show b - a + a = b by omega, part_lt hb]
  have qa : p (0 + a) = p a := by rw [Nat.zero_add]
  have qb : p (b - a + a) = p b := by rw [show b - a + a = b by omega]
  refine ⟨⟨by omega, by omega, fun k => ?_, fun k => ?_, fun k => ?_, fun k => ?_, fun k hk h0 h1 h2 h3 => ?_⟩, ?_⟩
  · have k1 : turn (p (b - a + a)) (p (0 + a)) (p (1 + a)) = 0 := k.1
    rw [qb, qa] at k1
    exact nc' (by omega) (by omega) (by omega) (by omega) (by omega) (by omega) k1
  · have k1 : turn (p (b - a - 1 + a)) (p (b - a + a)) (p (0 + a)) = 0 := k.1
    rw [qb, qa, show b - a - 1 + a = b - 1 by omega] at k1
    exact nc' (by omega) (by omega) (by omega) (by omega) (by omega) (by omega) k1
  · have k1 : turn (p (0 + a)) (p (b - a + a)) (p (b - a + 1 + a)) = 0 := k.1
    rw [qb, qa, show b - a + 1 + a = b + 1 by omega] at k1
    exact nc' (by omega) (by omega) (by omega) (by omega) (by omega) (by omega) k1
  · have k1 : turn (p (n - 1 + a)) (p (0 + a)) (p (b - a + a)) = 0 := k.1
    rw [qb, qa] at k1
    rcases Nat.eq_zero_or_pos a with c | c
    · rw [c, Nat.add_zero] at k1
      exact nc' (by omega) (by omega) (by omega) (by omega) (by omega) (by omega) k1
    · rw [show n - 1 + a = a - 1 + n by omega, h.per] at k1
      exact nc' (by omega) (by omega) (by omega) (by omega) (by omega) (by omega) k1
  · show apart (p (0 + a)) (p (b - a + a)) (p (k + a)) (p (k + 1 + a))
    rw [qa, qb]
    rcases Nat.lt_or_ge (k + a) m with c | c
    · have f := d1.free k (by omega) h0 h1 h2 (by omega)
      have f : apart (Go.Proofs.Ythiemglckmociaa.part p m (0 + a)) (Go.Proofs.Ythiemglckmociaa.part p m (b - a + a)) (Go.Proofs.Ythiemglckmociaa.part p m (k + a)) (Go.Proofs.Ythiemglckmociaa.part p m (k + 1 + a)) := f
      rw [pa, pb, part_lt (by omega), part_lt (by omega)] at f
      exact f
    · rcases Nat.lt_or_ge (k + a) n with c2 | c2
      · -- a side of the other part
        obtain ⟨j, hj⟩ : ∃ j, k + a = j := ⟨_, rfl⟩
        rw [show k + 1 + a = k + a + 1 by omega, hj]
        rw [hj] at c c2
        have hj1 : j + 1 < n ∨ (j + 1 = n ∧ 0 < a) := by
          rcases Nat.lt_or_ge (j + 1) n with q | q
          · exact .inl q
          · refine .inr ⟨by omega, ?_⟩
            rcases Nat.eq_zero_or_pos a with q2 | q2
            · exfalso; omega
            · exact q2
        have hjb : j ≠ b := fun e => h2 (by omega)
        -- corners that are on no common line
        have t1 : turn (p a) (p b) (p j) ≠ 0 := nc' (by omega) (by omega) (by omega) (by omega) (by omega) (by omega)
        have t2 : turn (p a) (p b) (p (j + 1)) ≠ 0 := by
          rcases hj1 with q | ⟨q, q2⟩
          · exact nc' (by omega) (by omega) (by omega) (by omega) (by omega) (by omega)
          · rw [q, h.per1]
            exact nc' (by omega) (by omega) (by omega) (by omega) (by omega) (by omega)
        have t3 : turn (p j) (p (j + 1)) (p a) ≠ 0 := by
          rcases hj1 with q | ⟨q, q2⟩
          · exact nc' (by omega) (by omega) (by omega) (by omega) (by omega) (by omega)
          · rw [q, h.per1]
            exact nc' (by omega) (by omega) (by omega) (by omega) (by omega) (by omega)
        have t4 : turn (p j) (p (j + 1)) (p b) ≠ 0 := by
          rcases hj1 with q | ⟨q, q2⟩
          · exact nc' (by omega) (by omega) (by omega) (by omega) (by omega) (by omega)
          · rw [q, h.per1]
            exact nc' (by omega) (by omega) (by omega) (by omega) (by omega) (by omega)
        apply Classical.byContradiction
        intro hn
        obtain ⟨l, m', u, t, hl0, hm0, hu0, ht0, hS, hSp, e1, e2⟩ := common hn
        obtain ⟨S, hSd⟩ : ∃ S, l + m' = S := ⟨_, rfl⟩
        rw [hSd] at hS hSp
        obtain ⟨z, hz⟩ : ∃ z : Int × Int, z = (l * (p a).1 + m' * (p b).1, l * (p a).2 + m' * (p b).2) := ⟨_, rfl⟩
        have z1 : z = mix l (p a) m' (p b) := hz
        have z2 : z = mix u (p j) t (p (j + 1)) := by rw [hz]; unfold mix; rw [e1, e2]
        have o1 : onB (sc S (p a)) (sc S (p b)) z = true := by rw [z1, ← hSd]; exact on_mix hl0 hm0 (by omega)
        have o2 : onB (sc S (p j)) (sc S (p (j + 1))) z = true := by rw [z2, hS]; exact on_mix hu0 ht0 (by omega)
        have nz : ∀ {x y c : Int × Int}, turn x y c ≠ 0 → onB (sc S x) (sc S y) z = true → z ≠ sc S c := fun {x y c} ht ho e => by
          rw [e, onB_sc hSp] at ho
          exact ht (onB_turn ho).1
        have i1 : inn (sc S (p j)) (sc S (p (j + 1))) z := ⟨o2, nz t1 o1, nz t2 o1⟩
        have i2 : inn (sc S (p a)) (sc S (p b)) z := ⟨o1, nz t3 o2, nz t4 o2⟩
        have w1 := d.side_out h hc hSp c c2 i1
        have w2 := d1.within (hl.shift a) hSp (x := z) (by
          show inn (sc S (Go.Proofs.Ythiemglckmociaa.part p m (0 + a))) (sc S (Go.Proofs.Ythiemglckmociaa.part p m (b - a + a))) z
          rw [pa, pb]; exact i2)
        have w2 : wsum (fun i => sc S (Go.Proofs.Ythiemglckmociaa.part p m (i + a))) (m + 1) z = wsum (fun i => sc 2 (Go.Proofs.Ythiemglckmociaa.part p m (i + a))) (m + 1) (mid2 (Go.Proofs.Ythiemglckmociaa.part p m (0 + a)) (Go.Proofs.Ythiemglckmociaa.part p m (b - a + a))) := w2
        rw [pa, pb] at w2
        have w3 := (hl.scale hSp).wsum_shift a z
        have w3 : wsum (fun i => sc S (Go.Proofs.Ythiemglckmociaa.part p m (i + a))) (m + 1) z = wsum (fun i => sc S (Go.Proofs.Ythiemglckmociaa.part p m i)) (m + 1) z := w3
        rw [w3, w1] at w2
        exact hc1 w2.symm
      · -- a side of this part, once round
        obtain ⟨j, hj⟩ : ∃ j, k + a = j + n := ⟨k + a - n, by omega⟩
        rw [show k + 1 + a = j + 1 + n by omega, hj, h.per, h.per]
        have f := d1.free (j + (m + 1) - a) (by omega) (by omega) (by omega) (by omega) (by omega)
        have f : apart (Go.Proofs.Ythiemglckmociaa.part p m (0 + a)) (Go.Proofs.Ythiemglckmociaa.part p m (b - a + a)) (Go.Proofs.Ythiemglckmociaa.part p m (j + (m + 1) - a + a)) (Go.Proofs.Ythiemglckmociaa.part p m (j + (m + 1) - a + 1 + a)) := f
        rw [pa, pb, show j + (m + 1) - a + a = j + (m + 1) by omega, show j + (m + 1) - a + 1 + a = j + 1 + (m + 1) by omega, hl.per, hl.per, part_lt (by omega), part_lt (by omega)] at f
        exact f
  · -- the middle
    have e0 := (h.scale (show (0 : Int) < 2 by decide)).wsum_shift a (mid2 (p a) (p b))
    have e0 : wsum (fun i => sc 2 (p (i + a))) n (mid2 (p a) (p b)) = wsum (fun i => sc 2 (p i)) n (mid2 (p a) (p b)) := e0
    have e1 := (hl.scale (show (0 : Int) < 2 by decide)).wsum_shift a (mid2 (p a) (p b))
    have e1 : wsum (fun i => sc 2 (Go.Proofs.Ythiemglckmociaa.part p m (i + a))) (m + 1) (mid2 (p a) (p b)) = wsum (fun i => sc 2 (Go.Proofs.Ythiemglckmociaa.part p m i)) (m + 1) (mid2 (p a) (p b)) := e1
    rw [e1] at hc1
    rw [e0]
    have hr := (d.swap h).part (h.shift m)
    obtain ⟨l1, l2⟩ := d.lam_same h hc
    have a1 := (hl.scale (show (0 : Int) < 2 by decide)).around_any (mid2 (p a) (p b))
    have a2 := (hr.scale (show (0 : Int) < 2 by decide)).around_any (mid2 (p a) (p b))
    rw [lam_scale hl (by decide), l1] at a1
    rw [lam_scale hr (by decide), l2] at a2
    have hw := wsum_parts (p := fun i => sc 2 (p i)) (n := n) (m := m) (by simp only [h.per1]) (by omega) (mid2 (p a) (p b))
    have f1 : wsum (fun i => sc 2 (Go.Proofs.Ythiemglckmociaa.part p m i)) (m + 1) (mid2 (p a) (p b)) = wsum (Go.Proofs.Ythiemglckmociaa.part (fun i => sc 2 (p i)) m) (m + 1) (mid2 (p a) (p b)) := rfl
    have f2 : wsum (fun i => sc 2 (Go.Proofs.Ythiemglckmociaa.part (fun k => p (k + m)) (n - m) i)) (n - m + 1) (mid2 (p a) (p b)) = wsum (Go.Proofs.Ythiemglckmociaa.part (fun k => sc 2 (p (k + m))) (n - m)) (n - m + 1) (mid2 (p a) (p b)) := rfl
    rw [f1] at hc1 a1
    rw [f2] at a2
    have h01 := h.lam01
    have hw : wsum (fun i => sc 2 (p i)) n (mid2 (p a) (p b)) = wsum (Go.Proofs.Ythiemglckmociaa.part (fun i => sc 2 (p i)) m) (m + 1) (mid2 (p a) (p b)) + wsum (Go.Proofs.Ythiemglckmociaa.part (fun k => sc 2 (p (k + m))) (n - m)) (n - m + 1) (mid2 (p a) (p b)) := hw
    omega
end Go.Proofs.Ythiemglckmociaa
/- Triangles of a plot, in plain: what their sides count. No conditions. -/
namespace Go.Proofs.Ythiemglckmociaa
abbrev Pt := Int × Int
/-- How often a triangle goes from x to y. -/
def e3 (t : Pt × Pt × Pt) (x y : Pt) : Nat := (if t.1 = x ∧ t.2.1 = y then 1 else 0) + (if t.2.1 = x ∧ t.2.2 = y then 1 else 0) + (if t.2.2 = x ∧ t.1 = y then 1 else 0)
def ed : List (Pt × Pt × Pt) → Pt → Pt → Nat
  | [], _, _ => 0
  | t :: T, x, y => e3 t x y + ed T x y
theorem ed_app (x y : Pt) : ∀ T U : List (Pt × Pt × Pt), ed (T ++ U) x y = ed T x y + ed U x y
  | [], U => by simp [ed]
  | t :: T, U => by simp only [List.cons_append, ed, ed_app x y T U]; omega
def has (t : Pt × Pt × Pt) (x : Pt) : Prop := t.1 = x ∨ t.2.1 = x ∨ t.2.2 = x
theorem ed_zero {x y : Pt} : ∀ {T : List (Pt × Pt × Pt)}, (∀ t ∈ T, ¬ (has t x ∧ has t y)) → ed T x y = 0
  | [], _ => rfl
  | t :: T, h => by
    have h1 := h t (by simp)
    have h2 := ed_zero (T := T) fun u hu => h u (List.mem_cons_of_mem _ hu)
    unfold has at h1
    have e : e3 t x y = 0 := by
      unfold e3
      rw [if_neg (fun k => h1 ⟨.inl k.1, .inr (.inl k.2)⟩), if_neg (fun k => h1 ⟨.inr (.inl k.1), .inr (.inr k.2)⟩), if_neg (fun k => h1 ⟨.inr (.inr k.1), .inl k.2⟩)]
    rw [ed, e, h2]
/-- A line inside, from corner i to the d-th one behind it. -/
def Inner (p : Nat → Pt) (n i d : Nat) : Prop := Diag (fun k => p (k + i)) n d ∧ wsum (fun k => sc 2 (p (k + i))) n (mid2 (p i) (p (i + d))) ≠ 0
theorem Inner.swap {p : Nat → Pt} {n i d : Nat} (h : Simple p n) (k : Inner p n i d) : Inner p n (i + d) (n - d) := by
  obtain ⟨k1, k2⟩ := k
  have lo := k1.lo; have hi := k1.hi
  have s1 := k1.swap (h.shift i)
  have e : (fun k => (fun k => p (k + i)) (k + d)) = fun k => p (k + (i + d)) := by funext k; show p (k + d + i) = _; rw [show k + d + i = k + (i + d) by omega]
  rw [e] at s1
  refine ⟨s1, ?_⟩
  have e2 : p (i + d + (n - d)) = p i := by rw [show i + d + (n - d) = i + n by omega, h.per]
  rw [e2, mid2_swap]
  have w1 := (h.scale (show (0 : Int) < 2 by decide)).wsum_shift (i + d) (mid2 (p i) (p (i + d)))
  have w2 := (h.scale (show (0 : Int) < 2 by decide)).wsum_shift i (mid2 (p i) (p (i + d)))
  have w1 : wsum (fun k => sc 2 (p (k + (i + d)))) n (mid2 (p i) (p (i + d))) = wsum (fun k => sc 2 (p k)) n (mid2 (p i) (p (i + d))) := w1
  have w2 : wsum (fun k => sc 2 (p (k + i))) n (mid2 (p i) (p (i + d))) = wsum (fun k => sc 2 (p k)) n (mid2 (p i) (p (i + d))) := w2
  rw [w1, ← w2]
  exact k2
theorem Inner.moved {p : Nat → Pt} {n i d s : Nat} (h : Simple p n) (k : Inner p n (i + n * s) d) : Inner p n i d := by
  have e : (fun k => p (k + (i + n * s))) = fun k => p (k + i) := by funext k; rw [← Nat.add_assoc, h.per_mul]
  obtain ⟨k1, k2⟩ := k
  have e2 : (fun k => sc 2 (p (k + (i + n * s)))) = fun k => sc 2 (p (k + i)) := by funext k; rw [← Nat.add_assoc, h.per_mul]
  rw [e] at k1
  rw [e2, h.per_mul, show i + n * s + d = i + d + n * s by omega, h.per_mul] at k2
  exact ⟨k1, k2⟩
theorem Inner.later {p : Nat → Pt} {n i d : Nat} (h : Simple p n) (k : Inner p n i d) (s : Nat) : Inner p n (i + n * s) d := by
  have e : (fun k => p (k + (i + n * s))) = fun k => p (k + i) := by funext k; rw [← Nat.add_assoc, h.per_mul]
  obtain ⟨k1, k2⟩ := k
  have e2 : (fun k => sc 2 (p (k + (i + n * s)))) = fun k => sc 2 (p (k + i)) := by funext k; rw [← Nat.add_assoc, h.per_mul]
  unfold Inner
  rw [e, e2, h.per_mul, show i + n * s + d = i + d + n * s by omega, h.per_mul]
  exact ⟨k1, k2⟩
theorem Inner.sub {p : Nat → Pt} {n m a b : Nat} (h : Simple p n) (d : Diag p n m) (hc : wsum (fun i => sc 2 (p i)) n (mid2 (p 0) (p m)) ≠ 0) (nc : NoLine p n) (hab : a + 2 ≤ b) (hb : b ≤ m) (k : Inner (Go.Proofs.Ythiemglckmociaa.part p m) (m + 1) a (b - a)) : Inner p n a (b - a) := by
  obtain ⟨k1, k2⟩ := k
  rw [show a + (b - a) = b by omega, part_lt (by omega), part_lt hb] at k2
  obtain ⟨g1, g2⟩ := d.sub h hc nc hab hb k1 k2
  refine ⟨g1, ?_⟩
  rw [show a + (b - a) = b by omega]
  exact g2
theorem mod_cancel {i j m n : Nat} (hn : 0 < n) (e : (i + m) % n = (j + m) % n) : i % n = j % n := by
  have hm : m ≤ n * m := Nat.le_mul_of_pos_left _ hn
  have k : ∀ a, (a + m + (n * m - m)) % n = a % n := fun a => by rw [show a + m + (n * m - m) = a + n * m by omega, Nat.add_mul_mod_self_left]
  rw [← k i, ← k j, Nat.add_mod, e, ← Nat.add_mod]
/-- Triangles that a plot is made of. -/
structure Tris (p : Nat → Pt) (n : Nat) (T : List (Pt × Pt × Pt)) : Prop where
  cnt : T.length + 2 = n
  lft : ∀ t ∈ T, 0 < turn t.1 t.2.1 t.2.2
  mem : ∀ t ∈ T, ∀ x, has t x → ∃ i, x = p i
  side : ∀ i, ed T (p i) (p (i + 1)) = (if lam p n 0 = 1 then 1 else 0) ∧ ed T (p (i + 1)) (p i) = (if lam p n 0 = 1 then 0 else 1)
  inner : ∀ i d, 2 ≤ d → d + 2 ≤ n → ed T (p i) (p (i + d)) = ed T (p (i + d)) (p i) ∧ ed T (p i) (p (i + d)) ≤ 1 ∧ (ed T (p i) (p (i + d)) = 1 → Inner p n i d)
theorem Tris.unshift {p : Nat → Pt} {n s : Nat} {T : List (Pt × Pt × Pt)} (h : Simple p n) (t : Tris (fun k => p (k + s)) n T) : Tris p n T := by
  have h3 := h.three
  have hs : s ≤ n * s := by
    have : 1 * s ≤ n * s := Nat.mul_le_mul_right _ (by omega)
    omega
  have e : ∀ i, p (i + (n * s - s) + s) = p i := fun i => by rw [show i + (n * s - s) + s = i + n * s by omega, h.per_mul]
  refine ⟨t.cnt, t.lft, fun u hu x hx => ?_, fun i => ?_, fun i d h1 h2 => ?_⟩
  · obtain ⟨i, hi⟩ := t.mem u hu x hx
    exact ⟨i + s, hi⟩
  · have k := t.side (i + (n * s - s))
    have k : ed T (p (i + (n * s - s) + s)) (p (i + (n * s - s) + 1 + s)) = (if lam (fun k => p (k + s)) n 0 = 1 then 1 else 0) ∧ ed T (p (i + (n * s - s) + 1 + s)) (p (i + (n * s - s) + s)) = (if lam (fun k => p (k + s)) n 0 = 1 then 0 else 1) := k
    rw [show i + (n * s - s) + 1 + s = i + 1 + (n * s - s) + s by omega, e, e, lam_shift h s] at k
    exact k
  · have k := t.inner (i + (n * s - s)) d h1 h2
    have k : ed T (p (i + (n * s - s) + s)) (p (i + (n * s - s) + d + s)) = ed T (p (i + (n * s - s) + d + s)) (p (i + (n * s - s) + s)) ∧ ed T (p (i + (n * s - s) + s)) (p (i + (n * s - s) + d + s)) ≤ 1 ∧ (ed T (p (i + (n * s - s) + s)) (p (i + (n * s - s) + d + s)) = 1 → Inner (fun k => p (k + s)) n (i + (n * s - s)) d) := k
    rw [show i + (n * s - s) + d + s = i + d + (n * s - s) + s by omega, e, e] at k
    refine ⟨k.1, k.2.1, fun hk => ?_⟩
    obtain ⟨k1, k2⟩ := k.2.2 hk
    refine Inner.moved (s := s) h ⟨?_, ?_⟩
    · have e1 : (fun k => (fun k => p (k + s)) (k + (i + (n * s - s)))) = fun k => p (k + (i + n * s)) := by funext k; show p (k + (i + (n * s - s)) + s) = _; rw [show k + (i + (n * s - s)) + s = k + (i + n * s) by omega]
      rw [e1] at k1
      exact k1
    · have e1 : (fun k => sc 2 ((fun k => p (k + s)) (k + (i + (n * s - s))))) = fun k => sc 2 (p (k + (i + n * s))) := by funext k; show sc 2 (p (k + (i + (n * s - s)) + s)) = _; rw [show k + (i + (n * s - s)) + s = k + (i + n * s) by omega]
      have k2 : wsum (fun k => sc 2 ((fun k => p (k + s)) (k + (i + (n * s - s))))) n (mid2 (p (i + (n * s - s) + s)) (p (i + (n * s - s) + d + s))) ≠ 0 := k2
      rw [e1, show i + (n * s - s) + s = i + n * s by omega, show i + (n * s - s) + d + s = i + n * s + d by omega] at k2
      exact k2
theorem inj_mod {p : Nat → Pt} {n : Nat} (h : Simple p n) {i j : Nat} (e : p i = p j) : i % n = j % n := by
  apply Classical.byContradiction
  intro k
  exact h.ne k e
/-- A plot of three corners. -/
theorem Tris.base {p : Nat → Pt} (h : Simple p 3) {t : Pt × Pt × Pt} (ht : 0 < turn t.1 t.2.1 t.2.2) (hr : (lam p 3 0 = 1 ∧ ∃ i, t = (p i, p (i + 1), p (i + 2))) ∨ (lam p 3 0 ≠ 1 ∧ ∃ i, t = (p (i + 2), p (i + 1), p i))) : Tris p 3 [t] := by
  have ne : ∀ i, p i ≠ p (i + 1) ∧ p (i + 1) ≠ p (i + 2) ∧ p i ≠ p (i + 2) := fun i => by
    refine ⟨h.ne_next i, h.ne_next (i + 1), fun e => ?_⟩
    have := inj_mod h e
    omega
  refine ⟨rfl, fun u hu => by rw [List.mem_singleton.1 hu]; exact ht, fun u hu x hx => ?_, fun j => ?_, fun i d h1 h2 => by omega⟩
  · rw [List.mem_singleton.1 hu] at hx
    rcases hr with ⟨_, i, rfl⟩ | ⟨_, i, rfl⟩
    · rcases hx with k | k | k
      · exact ⟨i, k.symm⟩
      · exact ⟨i + 1, k.symm⟩
      · exact ⟨i + 2, k.symm⟩
    · rcases hx with k | k | k
      · exact ⟨i + 2, k.symm⟩
      · exact ⟨i + 1, k.symm⟩
      · exact ⟨i, k.symm⟩
  · -- which side of the triangle
    have per := h.per
    have key : ∀ i, (p j = p i ∧ p (j + 1) = p (i + 1)) ∨ (p j = p (i + 1) ∧ p (j + 1) = p (i + 2)) ∨ (p j = p (i + 2) ∧ p (j + 1) = p i) := fun i => by
      have m : ∀ {a b : Nat}, a % 3 = b % 3 → p a = p b := fun {a b} e => by rw [← h.mod a, ← h.mod b, e]
      rcases (show j % 3 = i % 3 ∨ j % 3 = (i + 1) % 3 ∨ j % 3 = (i + 2) % 3 by omega) with e | e | e
      · exact .inl ⟨m e, m (by omega)⟩
      · exact .inr (.inl ⟨m e, m (by omega)⟩)
      · exact .inr (.inr ⟨m e, m (by omega)⟩)
    rcases hr with ⟨hl, i, rfl⟩ | ⟨hl, i, rfl⟩
    · obtain ⟨n1, n2, n3⟩ := ne i
      rw [if_pos hl, if_pos hl]
      rcases key i with ⟨a, b⟩ | ⟨a, b⟩ | ⟨a, b⟩ <;> rw [a, b] <;> simp [ed, e3, n1, n2, n3, Ne.symm n1, Ne.symm n2, Ne.symm n3]
    · obtain ⟨n1, n2, n3⟩ := ne i
      rw [if_neg hl, if_neg hl]
      rcases key i with ⟨a, b⟩ | ⟨a, b⟩ | ⟨a, b⟩ <;> rw [a, b] <;> simp [ed, e3, n1, n2, n3, Ne.symm n1, Ne.symm n2, Ne.symm n3]
/-- Triangles of both parts. -/
theorem Tris.join {p : Nat → Pt} {n m : Nat} (h : Simple p n) (nc : NoLine p n) (d : Diag p n m) (hc : wsum (fun i => sc 2 (p i)) n (mid2 (p 0) (p m)) ≠ 0) {T U : List (Pt × Pt × Pt)}
    (t : Tris (Go.Proofs.Ythiemglckmociaa.part p m) (m + 1) T) (u : Tris (Go.Proofs.Ythiemglckmociaa.part (fun k => p (k + m)) (n - m)) (n - m + 1) U) : Tris p n (T ++ U) := by
  have lo := d.lo; have hi := d.hi
  obtain ⟨l1, l2⟩ := d.lam_same h hc
  have q1 : ∀ {i}, i ≤ m → Go.Proofs.Ythiemglckmociaa.part p m i = p i := fun {i} hi => part_lt hi
  have q2 : ∀ {i}, m ≤ i → i ≤ n → Go.Proofs.Ythiemglckmociaa.part (fun k => p (k + m)) (n - m) (i - m) = p i := fun {i} h1 h2 => by
    rw [part_lt (by omega)]; show p (i - m + m) = p i; rw [Nat.sub_add_cancel h1]
  -- a corner strictly in one part is none of the other
  have out1 : ∀ {x j}, m < j → j < n → ∀ v ∈ T, ¬ (has v (p j) ∧ has v x) ∧ ¬ (has v x ∧ has v (p j)) := fun {x j} h1 h2 v hv => by
    have : ¬ has v (p j) := fun k => by
      obtain ⟨i, hi⟩ := t.mem v hv _ k
      have e := inj_mod h (i := j) (j := i % (m + 1)) hi
      have hlt : i % (m + 1) < m + 1 := Nat.mod_lt _ (by omega)
      rw [Nat.mod_eq_of_lt h2, Nat.mod_eq_of_lt (by omega)] at e
      omega
    exact ⟨fun k => this k.1, fun k => this k.2⟩
  have out2 : ∀ {x j}, 0 < j → j < m → ∀ v ∈ U, ¬ (has v (p j) ∧ has v x) ∧ ¬ (has v x ∧ has v (p j)) := fun {x j} h1 h2 v hv => by
    have : ¬ has v (p j) := fun k => by
      obtain ⟨i, hi⟩ := u.mem v hv _ k
      have e := inj_mod h (i := j) (j := i % (n - m + 1) + m) hi
      have hlt : i % (n - m + 1) < n - m + 1 := Nat.mod_lt _ (by omega)
      rw [Nat.mod_eq_of_lt (by omega)] at e
      rcases Nat.lt_or_ge (i % (n - m + 1) + m) n with c | c
      · rw [Nat.mod_eq_of_lt c] at e; omega
      · rw [show i % (n - m + 1) + m = n by omega, Nat.mod_self] at e; omega
    exact ⟨fun k => this k.1, fun k => this k.2⟩
  have z1 : ∀ {x j}, m < j → j < n → ed T (p j) x = 0 ∧ ed T x (p j) = 0 := fun {x j} h1 h2 => ⟨ed_zero fun v hv => (out1 h1 h2 v hv).1, ed_zero fun v hv => (out1 h1 h2 v hv).2⟩
  have z2 : ∀ {x j}, 0 < j → j < m → ed U (p j) x = 0 ∧ ed U x (p j) = 0 := fun {x j} h1 h2 => ⟨ed_zero fun v hv => (out2 h1 h2 v hv).1, ed_zero fun v hv => (out2 h1 h2 v hv).2⟩
  -- both directions of the line
  have c1 := t.side m
  rw [q1 (Nat.le_refl _), part_end, l1] at c1
  have c2 := u.side (n - m)
  rw [q2 (i := n) (by omega) (Nat.le_refl _), part_end, l2, h.per1] at c2
  have c2 : ed U (p 0) (p (0 + m)) = (if lam p n 0 = 1 then 1 else 0) ∧ ed U (p (0 + m)) (p 0) = (if lam p n 0 = 1 then 0 else 1) := c2
  rw [Nat.zero_add] at c2
  have p2s := h.shift m
  have hcs : wsum (fun i => sc 2 ((fun k => p (k + m)) i)) n (mid2 ((fun k => p (k + m)) 0) ((fun k => p (k + m)) (n - m))) ≠ 0 := by
    have w := (h.scale (show (0 : Int) < 2 by decide)).wsum_shift m (mid2 (p 0) (p m))
    show wsum (fun i => sc 2 (p (i + m))) n (mid2 (p (0 + m)) (p (n - m + m))) ≠ 0
    rw [Nat.zero_add, show n - m + m = n by omega, h.per1, mid2_swap]
    have w : wsum (fun i => sc 2 (p (i + m))) n (mid2 (p 0) (p m)) = wsum (fun i => sc 2 (p i)) n (mid2 (p 0) (p m)) := w
    rw [w]; exact hc
  have ncs : NoLine (fun k => p (k + m)) n := fun i j k h1 h2 h3 => nc (i + m) (j + m) (k + m) (fun e => h1 (mod_cancel (by omega) e)) (fun e => h2 (mod_cancel (by omega) e)) (fun e => h3 (mod_cancel (by omega) e))
  have sub2 : ∀ {a b : Nat}, a + 2 ≤ b → b ≤ n - m → Inner (Go.Proofs.Ythiemglckmociaa.part (fun k => p (k + m)) (n - m)) (n - m + 1) a (b - a) → Inner p n (a + m) (b - a) := fun {a b} hab hb k => by
    have k1 := k.sub p2s (d.swap h) hcs ncs hab hb
    obtain ⟨k2, k3⟩ := k1
    have e1 : (fun k => (fun k => p (k + m)) (k + a)) = fun k => p (k + (a + m)) := by funext k; show p (k + a + m) = _; rw [Nat.add_assoc]
    have e2 : (fun k => sc 2 ((fun k => p (k + m)) (k + a))) = fun k => sc 2 (p (k + (a + m))) := by funext k; show sc 2 (p (k + a + m)) = _; rw [Nat.add_assoc]
    rw [e1] at k2
    have k3 : wsum (fun k => sc 2 ((fun k => p (k + m)) (k + a))) n (mid2 (p (a + m)) (p (a + (b - a) + m))) ≠ 0 := k3
    rw [e2, show a + (b - a) + m = a + m + (b - a) by omega] at k3
    exact ⟨k2, k3⟩
  -- two corners, in the order of their numbers
  have pair : ∀ a b, a + 2 ≤ b → b < n → ¬ (a = 0 ∧ b + 1 = n) → ed (T ++ U) (p a) (p b) = ed (T ++ U) (p b) (p a) ∧ ed (T ++ U) (p a) (p b) ≤ 1 ∧ (ed (T ++ U) (p a) (p b) = 1 → Inner p n a (b - a)) := by
    intro a b hab hb hnz
    rw [ed_app, ed_app]
    rcases Nat.lt_or_ge m b with cb | cb
    · have zb := z1 (x := p a) cb hb
      rw [zb.1, zb.2, Nat.zero_add, Nat.zero_add]
      rcases Nat.lt_or_ge a m with ca | ca
      · rcases Nat.eq_zero_or_pos a with a0 | a0
        · subst a0
          -- from corner b on to the first one
          have k := u.inner (b - m) (n - b) (by omega) (by omega)
          rw [q2 (i := b) (by omega) (by omega), show b - m + (n - b) = n - m by omega, q2 (i := n) (by omega) (Nat.le_refl _), h.per1] at k
          refine ⟨k.1.symm, by rw [← k.1]; exact k.2.1, fun hk => ?_⟩
          rw [← k.1] at hk
          have k1 := k.2.2 hk
          have k2 := sub2 (a := b - m) (b := n - m) (by omega) (Nat.le_refl _) (by rw [show n - m - (b - m) = n - b by omega]; exact k1)
          rw [show b - m + m = b by omega, show n - m - (b - m) = n - b by omega] at k2
          have k3 := k2.swap h
          rw [show b + (n - b) = 0 + n * 1 by omega, show n - (n - b) = b by omega] at k3
          have := k3.moved h
          rwa [Nat.sub_zero]
        · have za := z2 (x := p b) a0 ca
          rw [za.1, za.2]
          exact ⟨rfl, by omega, fun k => by cases k⟩
      · have k := u.inner (a - m) (b - a) (by omega) (by omega)
        rw [q2 (i := a) ca (by omega), show a - m + (b - a) = b - m by omega, q2 (i := b) (by omega) (by omega)] at k
        refine ⟨k.1, k.2.1, fun hk => ?_⟩
        have k2 := sub2 (a := a - m) (b := b - m) (by omega) (by omega) (by rw [show b - m - (a - m) = b - a by omega]; exact k.2.2 hk)
        rw [show a - m + m = a by omega, show b - m - (a - m) = b - a by omega] at k2
        exact k2
    · by_cases hd : a = 0 ∧ b = m
      · obtain ⟨rfl, rfl⟩ := hd
        rw [c1.1, c1.2, c2.1, c2.2]
        refine ⟨by split <;> rfl, by split <;> decide, fun _ => ?_⟩
        rw [Nat.sub_zero]
        refine ⟨d, ?_⟩
        rw [Nat.zero_add]; exact hc
      · have zu : ed U (p a) (p b) = 0 ∧ ed U (p b) (p a) = 0 := by
          rcases Nat.eq_zero_or_pos a with a0 | a0
          · have := z2 (x := p a) (j := b) (by omega) (by omega)
            exact ⟨this.2, this.1⟩
          · exact z2 (x := p b) a0 (by omega)
        rw [zu.1, zu.2, Nat.add_zero, Nat.add_zero]
        have k := t.inner a (b - a) (by omega) (by omega)
        rw [q1 (i := a) (by omega), show a + (b - a) = b by omega, q1 cb] at k
        exact ⟨k.1, k.2.1, fun hk => (k.2.2 hk).sub h d hc nc hab cb⟩
  have hcnt := t.cnt
  have hcnt2 := u.cnt
  refine ⟨by rw [List.length_append]; omega, fun v hv => ?_, fun v hv x hx => ?_, fun i => ?_, fun i e h1 h2 => ?_⟩
  · rcases List.mem_append.1 hv with k | k
    · exact t.lft v k
    · exact u.lft v k
  · rcases List.mem_append.1 hv with k | k
    · obtain ⟨i, hi⟩ := t.mem v k x hx
      exact ⟨_, hi⟩
    · obtain ⟨i, hi⟩ := u.mem v k x hx
      exact ⟨_, hi⟩
  · have ei : p i = p (i % n) := (h.mod i).symm
    have ei1 : p (i + 1) = p (i % n + 1) := by rw [← h.mod (i + 1), ← h.mod (i % n + 1), Nat.mod_add_mod]
    have hlt : i % n < n := Nat.mod_lt _ (by omega)
    rw [ei, ei1, ed_app, ed_app]
    generalize i % n = a at *
    rcases Nat.lt_or_ge a m with ca | ca
    · have k := t.side a
      rw [q1 (by omega), q1 (by omega), l1] at k
      have zu : ed U (p a) (p (a + 1)) = 0 ∧ ed U (p (a + 1)) (p a) = 0 := by
        rcases Nat.eq_zero_or_pos a with a0 | a0
        · have := z2 (x := p a) (j := a + 1) (by omega) (by omega)
          exact ⟨this.2, this.1⟩
        · exact z2 (x := p (a + 1)) a0 ca
      rw [zu.1, zu.2, Nat.add_zero, Nat.add_zero]
      exact k
    · have k := u.side (a - m)
      rw [show a - m + 1 = a + 1 - m by omega, q2 ca (by omega), q2 (i := a + 1) (by omega) (by omega), l2] at k
      have zt : ed T (p a) (p (a + 1)) = 0 ∧ ed T (p (a + 1)) (p a) = 0 := by
        rcases Nat.lt_or_ge m a with a0 | a0
        · exact z1 (x := p (a + 1)) a0 hlt
        · have := z1 (x := p a) (j := a + 1) (by omega) (by omega)
          exact ⟨this.2, this.1⟩
      rw [zt.1, zt.2, Nat.zero_add, Nat.zero_add]
      exact k
  · have hlt : i % n < n := Nat.mod_lt _ (by omega)
    have ei : p i = p (i % n) := (h.mod i).symm
    have eid : p (i + e) = p (i % n + e) := by rw [← h.mod (i + e), ← h.mod (i % n + e), Nat.mod_add_mod]
    have hdm := Nat.div_add_mod i n
    rw [ei, eid]
    have back : Inner p n (i % n) e → Inner p n i e := fun k => by
      have := k.later h (i / n)
      rwa [show i % n + n * (i / n) = i by omega] at this
    rcases Nat.lt_or_ge (i % n + e) n with c | c
    · have k := pair (i % n) (i % n + e) (by omega) c (by omega)
      rw [show i % n + e - i % n = e by omega] at k
      exact ⟨k.1, k.2.1, fun hk => back (k.2.2 hk)⟩
    · obtain ⟨g, hg⟩ : ∃ g, i % n + e = g + n := ⟨i % n + e - n, by omega⟩
      have k := pair g (i % n) (by omega) hlt (by omega)
      rw [hg, h.per]
      refine ⟨k.1.symm, by rw [← k.1]; exact k.2.1, fun hk => ?_⟩
      rw [← k.1] at hk
      have k2 := (k.2.2 hk).swap h
      rw [show g + (i % n - g) = i % n by omega, show n - (i % n - g) = e by omega] at k2
      exact back k2
end Go.Proofs.Ythiemglckmociaa
/- Points inside the parts of a plot, and inside its triangles; the areas of its triangles. No conditions. -/
namespace Go.Proofs.Ythiemglckmociaa
/-- x is strictly inside. -/
def InP (p : Nat → Pt) (n : Nat) (x : Pt) : Prop := (∀ i, i < n → onB (p i) (p (i + 1)) x = false) ∧ wsum p n x ≠ 0
def OutP (p : Nat → Pt) (n : Nat) (x : Pt) : Prop := (∀ i, i < n → onB (p i) (p (i + 1)) x = false) ∧ wsum p n x = 0
theorem off_shift {p : Nat → Pt} {n : Nat} (h : Simple p n) (s : Nat) {x : Pt} : (∀ i, i < n → onB (p (i + s)) (p (i + 1 + s)) x = false) ↔ ∀ i, i < n → onB (p i) (p (i + 1)) x = false := by
  have h3 := h.three
  have hs : s ≤ n * s := by
    have : 1 * s ≤ n * s := Nat.mul_le_mul_right _ (by omega)
    omega
  have m : ∀ {a b : Nat}, a % n = b % n → p a = p b ∧ p (a + 1) = p (b + 1) := fun {a b} e => ⟨by rw [← h.mod a, ← h.mod b, e], by rw [← h.mod (a + 1), ← h.mod (b + 1), ← Nat.mod_add_mod a, ← Nat.mod_add_mod b, e]⟩
  constructor
  · intro k i hi
    have := k ((i + (n * s - s)) % n) (Nat.mod_lt _ (by omega))
    obtain ⟨e1, e2⟩ := m (a := (i + (n * s - s)) % n + s) (b := i) (by rw [Nat.mod_add_mod, show i + (n * s - s) + s = i + n * s by omega, Nat.add_mul_mod_self_left])
    rw [show (i + (n * s - s)) % n + 1 + s = (i + (n * s - s)) % n + s + 1 by omega, e1, e2] at this
    exact this
  · intro k i hi
    have := k ((i + s) % n) (Nat.mod_lt _ (by omega))
    obtain ⟨e1, e2⟩ := m (a := (i + s) % n) (b := i + s) (Nat.mod_mod _ _)
    rw [e1, e2] at this
    rw [show i + 1 + s = i + s + 1 by omega]
    exact this
theorem InP.shift {p : Nat → Pt} {n : Nat} (h : Simple p n) (s : Nat) {x : Pt} : InP (fun k => p (k + s)) n x ↔ InP p n x := by
  unfold InP
  rw [h.wsum_shift s x]
  have := off_shift h s (x := x)
  exact ⟨fun k => ⟨this.1 k.1, k.2⟩, fun k => ⟨this.2 k.1, k.2⟩⟩
/-- Strictly inside a part: strictly inside. -/
theorem InP.part {p : Nat → Pt} {n m : Nat} (h : Simple p n) (d : Diag p n m) (hc : wsum (fun i => sc 2 (p i)) n (mid2 (p 0) (p m)) ≠ 0) {x : Pt} (k : InP (Go.Proofs.Ythiemglckmociaa.part p m) (m + 1) x) : InP p n x := by
  have lo := d.lo; have hi := d.hi
  obtain ⟨k1, k2⟩ := k
  obtain ⟨l1, l2⟩ := d.lam_same h hc
  have hl := d.part h
  have hr := (d.swap h).part (h.shift m)
  have c : ∀ i, i ≤ m → x ≠ p i := fun i hi e => by
    have := k1 i (by omega)
    rw [part_lt hi, e] at this
    have k : onB (p i) (Go.Proofs.Ythiemglckmociaa.part p m (i + 1)) (p i) = true := by unfold onB turn dot; simp
    rw [k] at this; cases this
  refine ⟨fun i hi2 => ?_, ?_⟩
  · rcases Nat.lt_or_ge i m with q | q
    · have := k1 i (by omega)
      rwa [part_lt (by omega), part_lt (by omega)] at this
    · cases ho : onB (p i) (p (i + 1)) x
      · rfl
      · exfalso
        have e1 : x ≠ p i := fun e => by
          rcases Nat.lt_or_ge m i with c2 | c2
          · exact k2 (by rw [e]; exact d.corner_out h hc c2 hi2)
          · exact c i (by omega) e
        have e2 : x ≠ p (i + 1) := fun e => by
          rcases Nat.lt_or_ge (i + 1) n with c2 | c2
          · exact k2 (by rw [e]; exact d.corner_out h hc (by omega) c2)
          · rw [show i + 1 = n by omega, h.per1] at e
            exact c 0 (by omega) e
        have := d.side_out h hc (show (0 : Int) < 1 by decide) q hi2 (x := x) (by rw [sc_one, sc_one]; exact ⟨ho, e1, e2⟩)
        simp only [sc_one] at this
        exact k2 this
  · have hw := wsum_parts (p := p) (n := n) (m := m) h.per1 (by omega) x
    have a1 := hl.around_any x
    have a2 := hr.around_any x
    rw [l1] at a1
    rw [l2] at a2
    have h01 := h.lam01
    omega
theorem InP.other {p : Nat → Pt} {n m : Nat} (h : Simple p n) (d : Diag p n m) (hc : wsum (fun i => sc 2 (p i)) n (mid2 (p 0) (p m)) ≠ 0) {x : Pt} (k : InP (Go.Proofs.Ythiemglckmociaa.part (fun k => p (k + m)) (n - m)) (n - m + 1) x) : InP p n x := by
  have lo := d.lo; have hi := d.hi
  have hcs : wsum (fun i => sc 2 ((fun k => p (k + m)) i)) n (mid2 ((fun k => p (k + m)) 0) ((fun k => p (k + m)) (n - m))) ≠ 0 := by
    have w := (h.scale (show (0 : Int) < 2 by decide)).wsum_shift m (mid2 (p 0) (p m))
    show wsum (fun i => sc 2 (p (i + m))) n (mid2 (p (0 + m)) (p (n - m + m))) ≠ 0
    rw [Nat.zero_add, show n - m + m = n by omega, h.per1, mid2_swap]
    have w : wsum (fun i => sc 2 (p (i + m))) n (mid2 (p 0) (p m)) = wsum (fun i => sc 2 (p i)) n (mid2 (p 0) (p m)) := w
    rw [w]; exact hc
  exact (InP.shift h m).1 (k.part (h.shift m) (d.swap h) hcs)
/-- Not strictly inside both parts; inside one of them or on the line between. -/
theorem InP.parts {p : Nat → Pt} {n m : Nat} (h : Simple p n) (d : Diag p n m) (hc : wsum (fun i => sc 2 (p i)) n (mid2 (p 0) (p m)) ≠ 0) (x : Pt) :
    ¬ (wsum (Go.Proofs.Ythiemglckmociaa.part p m) (m + 1) x ≠ 0 ∧ wsum (Go.Proofs.Ythiemglckmociaa.part (fun k => p (k + m)) (n - m)) (n - m + 1) x ≠ 0) ∧ (wsum p n x ≠ 0 → wsum (Go.Proofs.Ythiemglckmociaa.part p m) (m + 1) x ≠ 0 ∨ wsum (Go.Proofs.Ythiemglckmociaa.part (fun k => p (k + m)) (n - m)) (n - m + 1) x ≠ 0) := by
  have lo := d.lo; have hi := d.hi
  obtain ⟨l1, l2⟩ := d.lam_same h hc
  have hl := d.part h
  have hr := (d.swap h).part (h.shift m)
  have hw := wsum_parts (p := p) (n := n) (m := m) h.per1 (by omega) x
  have a0 := h.around_any x
  have a1 := hl.around_any x
  have a2 := hr.around_any x
  rw [l1] at a1
  rw [l2] at a2
  have h01 := h.lam01
  omega
/-- A triangle as a plot. -/
def tri (t : Pt × Pt × Pt) (i : Nat) : Pt := if i % 3 = 0 then t.1 else if i % 3 = 1 then t.2.1 else t.2.2
def cntT (f : Pt × Pt × Pt → Bool) : List (Pt × Pt × Pt) → Nat
  | [] => 0
  | t :: T => (if f t = true then 1 else 0) + cntT f T
theorem cntT_app (f : Pt × Pt × Pt → Bool) : ∀ T U : List (Pt × Pt × Pt), cntT f (T ++ U) = cntT f T + cntT f U
  | [], U => by simp [cntT]
  | t :: T, U => by simp only [List.cons_append, cntT, cntT_app f T U]; omega
/-- No point is inside two triangles, or inside one of them and not in the plot. -/
def TrisIn (p : Nat → Pt) (n : Nat) (T : List (Pt × Pt × Pt)) (x : Pt) : Prop := ∀ f, (∀ t ∈ T, f t = true → InP (tri t) 3 x) → cntT f T ≤ 1 ∧ (0 < cntT f T → InP p n x)
theorem TrisIn.join {p : Nat → Pt} {n m : Nat} (h : Simple p n) (d : Diag p n m) (hc : wsum (fun i => sc 2 (p i)) n (mid2 (p 0) (p m)) ≠ 0) {T U : List (Pt × Pt × Pt)} {x : Pt} (t : TrisIn (Go.Proofs.Ythiemglckmociaa.part p m) (m + 1) T x) (u : TrisIn (Go.Proofs.Ythiemglckmociaa.part (fun k => p (k + m)) (n - m)) (n - m + 1) U x) : TrisIn p n (T ++ U) x := by
  intro f hf
  obtain ⟨t1, t2⟩ := t f fun v hv => hf v (List.mem_append_left _ hv)
  obtain ⟨u1, u2⟩ := u f fun v hv => hf v (List.mem_append_right _ hv)
  have hno := (InP.parts h d hc x).1
  rw [cntT_app]
  refine ⟨?_, fun k => ?_⟩
  · rcases Nat.eq_zero_or_pos (cntT f T) with c | c
    · omega
    · rcases Nat.eq_zero_or_pos (cntT f U) with c2 | c2
      · omega
      · exact absurd ⟨(t2 c).2, (u2 c2).2⟩ hno
  · rcases Nat.eq_zero_or_pos (cntT f T) with c | c
    · exact InP.other h d hc (u2 (by omega))
    · exact InP.part h d hc (t2 c)
theorem TrisIn.unshift {p : Nat → Pt} {n s : Nat} {T : List (Pt × Pt × Pt)} {x : Pt} (h : Simple p n) (t : TrisIn (fun k => p (k + s)) n T x) : TrisIn p n T x := fun f hf =>
  ⟨(t f hf).1, fun k => (InP.shift h s).1 ((t f hf).2 k)⟩
/-- Sums over the sides, the other way round. -/
theorem rev_sum {p : Nat → Pt} {n : Nat} (h : Simple p n) (g : Pt → Pt → Int) (hg : ∀ a b, g b a = - g a b) : sumN (fun i => g (rev p n i) (rev p n (i + 1))) n = - sumN (fun i => g (p i) (p (i + 1))) n := by
  have h3 := h.three
  have e : ∀ i, i < n → g (rev p n i) (rev p n (i + 1)) = (-1) * ((fun j => g (p j) (p (j + 1))) (n - 1 - i)) := fun i hi => by
    have e0 := rev_next h i
    have e1 : rev p n (i + 1) = p (n * (i + 2) - (i + 1)) := rfl
    have e2 : n * (i + 2) = n * (i + 1) + n := Nat.mul_succ n (i + 1)
    have e3 : n * (i + 2) - (i + 1) = (n - 1 - i) + n * (i + 1) := by omega
    rw [e0, e1, e3, show n - 1 - i + n * (i + 1) + 1 = (n - 1 - i + 1) + n * (i + 1) by omega, h.per_mul, h.per_mul, hg]
    dsimp only
    omega
  rw [sumN_congr e, sumN_mul]
  have eb := sumN_back (fun j => g (p j) (p (j + 1))) n
  rw [eb]
  omega
theorem tri_wsum (t : Pt × Pt × Pt) (x : Pt) : wsum (tri t) 3 x = cr x t.1 t.2.1 + cr x t.2.1 t.2.2 + cr x t.2.2 t.1 := by
  show (((0 : Int) + cr x t.1 t.2.1) + cr x t.2.1 t.2.2) + cr x t.2.2 t.1 = _
  omega
theorem tri_off {t : Pt × Pt × Pt} {x : Pt} (h : ∀ i, i < 3 → onB (tri t i) (tri t (i + 1)) x = false) : onB t.1 t.2.1 x = false ∧ onB t.2.1 t.2.2 x = false ∧ onB t.2.2 t.1 x = false := ⟨h 0 (by decide), h 1 (by decide), h 2 (by decide)⟩
theorem wsum3 {p : Nat → Pt} (h : Simple p 3) (i : Nat) (x : Pt) : wsum p 3 x = cr x (p i) (p (i + 1)) + cr x (p (i + 1)) (p (i + 2)) + cr x (p (i + 2)) (p i) := by
  rw [← h.wsum_shift i x]
  show (((0 : Int) + cr x (p (0 + i)) (p (0 + 1 + i))) + cr x (p (1 + i)) (p (1 + 1 + i))) + cr x (p (2 + i)) (p (2 + 1 + i)) = _
  rw [show 2 + 1 + i = i + 3 by omega, h.per, show 0 + i = i by omega, show 0 + 1 + i = i + 1 by omega, show 1 + 1 + i = i + 2 by omega]
  omega
theorem TrisIn.base {p : Nat → Pt} (h : Simple p 3) {t : Pt × Pt × Pt} {x : Pt} (hr : (∃ i, t = (p i, p (i + 1), p (i + 2))) ∨ (∃ i, t = (p (i + 2), p (i + 1), p i))) : TrisIn p 3 [t] x := by
  intro f hf
  have hc : cntT f [t] = if f t = true then 1 else 0 := by show (if f t = true then 1 else 0) + 0 = _; rw [Nat.add_zero]
  rw [hc]
  refine ⟨by split <;> omega, fun k => ?_⟩
  have ht : f t = true := by
    cases hft : f t
    · rw [hft] at k; simp at k
    · rfl
  obtain ⟨k1, k2⟩ := hf t (by simp) ht
  have k3 := tri_off k1
  rw [tri_wsum] at k2
  rcases hr with ⟨i, rfl⟩ | ⟨i, rfl⟩
  · refine (InP.shift h i).1 ⟨fun j hj => ?_, ?_⟩
    · show onB (p (j + i)) (p (j + 1 + i)) x = false
      rcases (show j = 0 ∨ j = 1 ∨ j = 2 by omega) with rfl | rfl | rfl
      · rw [show 0 + i = i by omega, show 0 + 1 + i = i + 1 by omega]; exact k3.1
      · rw [show 1 + i = i + 1 by omega, show 1 + 1 + i = i + 2 by omega]; exact k3.2.1
      · rw [show 2 + i = i + 2 by omega, show 2 + 1 + i = i + 3 by omega, h.per]; exact k3.2.2
    · rw [h.wsum_shift i x, wsum3 h i x]; exact k2
  · refine (InP.shift h i).1 ⟨fun j hj => ?_, ?_⟩
    · show onB (p (j + i)) (p (j + 1 + i)) x = false
      rw [← onB_swap]
      rcases (show j = 0 ∨ j = 1 ∨ j = 2 by omega) with rfl | rfl | rfl
      · rw [show 0 + i = i by omega, show 0 + 1 + i = i + 1 by omega]; exact k3.2.1
      · rw [show 1 + i = i + 1 by omega, show 1 + 1 + i = i + 2 by omega]; exact k3.1
      · rw [show 2 + i = i + 2 by omega, show 2 + 1 + i = i + 3 by omega, h.per]; exact k3.2.2
    · rw [h.wsum_shift i x, wsum3 h i x]
      rw [cr_swap x (p (i + 1)) (p (i + 2)), cr_swap x (p i) (p (i + 1)), cr_swap x (p (i + 2)) (p i)] at k2
      omega
/-- The areas of the triangles. -/
def sumT : List (Pt × Pt × Pt) → Int
  | [] => 0
  | t :: T => turn t.1 t.2.1 t.2.2 + sumT T
theorem sumT_app : ∀ T U : List (Pt × Pt × Pt), sumT (T ++ U) = sumT T + sumT U
  | [], U => by simp [sumT]
  | t :: T, U => by simp only [List.cons_append, sumT, sumT_app T U]; omega
theorem sumT_join {p : Nat → Pt} {n m : Nat} (h : Simple p n) (d : Diag p n m) (hc : wsum (fun i => sc 2 (p i)) n (mid2 (p 0) (p m)) ≠ 0) {T U : List (Pt × Pt × Pt)}
    (t : sumT T = (2 * lam (Go.Proofs.Ythiemglckmociaa.part p m) (m + 1) 0 - 1) * area (Go.Proofs.Ythiemglckmociaa.part p m) (m + 1)) (u : sumT U = (2 * lam (Go.Proofs.Ythiemglckmociaa.part (fun k => p (k + m)) (n - m)) (n - m + 1) 0 - 1) * area (Go.Proofs.Ythiemglckmociaa.part (fun k => p (k + m)) (n - m)) (n - m + 1)) :
    sumT (T ++ U) = (2 * lam p n 0 - 1) * area p n := by
  have hi := d.hi
  obtain ⟨l1, l2⟩ := d.lam_same h hc
  rw [sumT_app, t, u, l1, l2, area_parts (m := m) h.per1 (by omega), Int.mul_add]
theorem area_shifted {p : Nat → Pt} {n : Nat} (h : Simple p n) (s : Nat) : area (fun k => p (k + s)) n = area p n := by
  unfold area
  have e := sumN_shift (f := fun i => (p i).1 * (p (i + 1)).2 - (p (i + 1)).1 * (p i).2) (n := n) (fun i => by simp only [h.per, show i + n + 1 = i + 1 + n by omega]) s
  rw [← e]
  exact sumN_congr fun i _ => by
    show (p (i + s)).1 * (p (i + 1 + s)).2 - (p (i + 1 + s)).1 * (p (i + s)).2 = _
    rw [show i + 1 + s = i + s + 1 by omega]
theorem area3 {p : Nat → Pt} (h : Simple p 3) (i : Nat) : area p 3 = turn (p i) (p (i + 1)) (p (i + 2)) := by
  rw [← area_shifted h i]
  show (((0 : Int) + ((p (0 + i)).1 * (p (0 + 1 + i)).2 - (p (0 + 1 + i)).1 * (p (0 + i)).2)) + ((p (1 + i)).1 * (p (1 + 1 + i)).2 - (p (1 + 1 + i)).1 * (p (1 + i)).2)) + ((p (2 + i)).1 * (p (2 + 1 + i)).2 - (p (2 + 1 + i)).1 * (p (2 + i)).2) = _
  rw [show 2 + 1 + i = i + 3 by omega, h.per, show 0 + i = i by omega, show 0 + 1 + i = i + 1 by omega, show 1 + 1 + i = i + 2 by omega]
  unfold turn; grind
theorem sumT_base {p : Nat → Pt} (h : Simple p 3) {t : Pt × Pt × Pt} (hr : (lam p 3 0 = 1 ∧ ∃ i, t = (p i, p (i + 1), p (i + 2))) ∨ (lam p 3 0 ≠ 1 ∧ ∃ i, t = (p (i + 2), p (i + 1), p i))) : sumT [t] = (2 * lam p 3 0 - 1) * area p 3 := by
  show turn t.1 t.2.1 t.2.2 + 0 = _
  rcases hr with ⟨hl, i, rfl⟩ | ⟨hl, i, rfl⟩
  · rw [hl, area3 h i]; dsimp only; omega
  · have : lam p 3 0 = 0 := by rcases h.lam01 with c | c
                               · exact c
                               · exact absurd c hl
    rw [this, area3 h i]
    have e : turn (p (i + 2)) (p (i + 1)) (p i) = - turn (p i) (p (i + 1)) (p (i + 2)) := by unfold turn; grind
    dsimp only
    rw [e]; omega
end Go.Proofs.Ythiemglckmociaa
/- Triangles of a plot that is gone round from another corner on, or the other way. No conditions. -/
namespace Go.Proofs.Ythiemglckmociaa
theorem NoLine.shift {p : Nat → Pt} {n : Nat} (hn : 0 < n) (h : NoLine p n) (s : Nat) : NoLine (fun k => p (k + s)) n := fun i j k h1 h2 h3 =>
  h (i + s) (j + s) (k + s) (fun e => h1 (mod_cancel hn e)) (fun e => h2 (mod_cancel hn e)) (fun e => h3 (mod_cancel hn e))
theorem NoLine.part {p : Nat → Pt} {n m : Nat} (h : NoLine p n) (hm : m < n) : NoLine (Go.Proofs.Ythiemglckmociaa.part p m) (m + 1) := fun i j k h1 h2 h3 => by
  have a1 : i % (m + 1) < m + 1 := Nat.mod_lt _ (by omega)
  have a2 : j % (m + 1) < m + 1 := Nat.mod_lt _ (by omega)
  have a3 : k % (m + 1) < m + 1 := Nat.mod_lt _ (by omega)
  exact h (i % (m + 1)) (j % (m + 1)) (k % (m + 1)) (by rw [Nat.mod_eq_of_lt (a := i % (m + 1)) (by omega), Nat.mod_eq_of_lt (a := j % (m + 1)) (by omega)]; exact h1)
    (by rw [Nat.mod_eq_of_lt (a := j % (m + 1)) (by omega), Nat.mod_eq_of_lt (a := k % (m + 1)) (by omega)]; exact h2) (by rw [Nat.mod_eq_of_lt (a := i % (m + 1)) (by omega), Nat.mod_eq_of_lt (a := k % (m + 1)) (by omega)]; exact h3)
theorem Tris.shift {p : Nat → Pt} {n : Nat} {T : List (Pt × Pt × Pt)} (h : Simple p n) (t : Tris p n T) (s : Nat) : Tris (fun k => p (k + s)) n T := by
  have h3 := h.three
  have hs : s ≤ n * s := by
    have : 1 * s ≤ n * s := Nat.mul_le_mul_right _ (by omega)
    omega
  refine Tris.unshift (s := n * s - s) (h.shift s) ?_
  have e : (fun k => (fun k => p (k + s)) (k + (n * s - s))) = p := by
    funext k
    show p (k + (n * s - s) + s) = p k
    rw [show k + (n * s - s) + s = k + n * s by omega, h.per_mul]
  rw [e]
  exact t
theorem rev_mod (n i : Nat) (hn : 1 ≤ n) : (n * (i + 1) - i + i) % n = 0 := by
  have := rev_idx n i hn
  rw [Nat.sub_add_cancel this, Nat.mul_mod_right]
theorem rev_inj {n i j : Nat} (hn : 1 ≤ n) (e : (n * (i + 1) - i) % n = (n * (j + 1) - j) % n) : i % n = j % n := by
  have h1 := rev_mod n i hn
  have h2 := rev_mod n j hn
  have a1 : (n * (j + 1) - j + i) % n = 0 := by rw [Nat.add_mod, ← e, ← Nat.add_mod]; exact h1
  have a2 : (n * (j + 1) - j + i) % n = (n * (j + 1) - j + j) % n := by rw [a1, h2]
  rw [Nat.add_comm _ i, Nat.add_comm _ j] at a2
  exact mod_cancel hn a2
theorem NoLine.rev {p : Nat → Pt} {n : Nat} (hn : 1 ≤ n) (h : NoLine p n) : NoLine (Go.Proofs.Ythiemglckmociaa.rev p n) n := fun _ _ _ h1 h2 h3 =>
  h _ _ _ (fun e => h1 (rev_inj hn e)) (fun e => h2 (rev_inj hn e)) (fun e => h3 (rev_inj hn e))
theorem rev_far {p : Nat → Pt} {n : Nat} (h : Simple p n) (a d : Nat) (_hd : d ≤ n) : Go.Proofs.Ythiemglckmociaa.rev p n a = p (n * (a + d + 1) - (a + d) + d) := by
  have h3 := h.three
  have h1 := rev_idx n a (by omega)
  have h2 := rev_idx n (a + d) (by omega)
  have e : n * (a + d + 1) = n * (a + 1) + n * d := by rw [show a + d + 1 = (a + 1) + d by omega, Nat.mul_add]
  unfold Go.Proofs.Ythiemglckmociaa.rev
  rw [show n * (a + d + 1) - (a + d) + d = n * (a + 1) - a + n * d by omega, h.per_mul]
theorem Inner.rev {p : Nat → Pt} {n a d : Nat} (h : Simple p n) (nc : NoLine p n) (k : Inner p n (n * (a + d + 1) - (a + d)) d) : Inner (Go.Proofs.Ythiemglckmociaa.rev p n) n a d := by
  have h3 := h.three
  obtain ⟨k1, k2⟩ := k
  have lo := k1.lo; have hi := k1.hi
  obtain ⟨i0, hi0⟩ : ∃ i0, n * (a + d + 1) - (a + d) = i0 := ⟨_, rfl⟩
  rw [hi0] at k1 k2
  have ncr := nc.rev (by omega)
  have r0 : Go.Proofs.Ythiemglckmociaa.rev p n (a + d) = p i0 := by rw [← hi0]; rfl
  have r1 : Go.Proofs.Ythiemglckmociaa.rev p n a = p (i0 + d) := by rw [← hi0]; exact rev_far h a d (by omega)
  have md : ∀ {u v : Nat}, u < v → v < u + n → u % n ≠ v % n := fun {u v} h1 h2 e => by
    have := Nat.sub_mod_eq_zero_of_mod_eq e.symm
    rw [Nat.mod_eq_of_lt (by omega)] at this
    omega
  refine ⟨⟨lo, hi, fun q => ?_, fun q => ?_, fun q => ?_, fun q => ?_, fun k hk h0 g1 g2 g3 => ?_⟩, ?_⟩
  · exact ncr (d + a) (0 + a) (1 + a) (fun e => md (u := 0 + a) (v := d + a) (by omega) (by omega) e.symm) (md (by omega) (by omega)) (fun e => md (u := 1 + a) (v := d + a) (by omega) (by omega) e.symm) q.1
  · exact ncr (d - 1 + a) (d + a) (0 + a) (md (by omega) (by omega)) (fun e => md (u := 0 + a) (v := d + a) (by omega) (by omega) e.symm) (fun e => md (u := 0 + a) (v := d - 1 + a) (by omega) (by omega) e.symm) q.1
  · exact ncr (0 + a) (d + a) (d + 1 + a) (md (by omega) (by omega)) (md (by omega) (by omega)) (md (by omega) (by omega)) q.1
  · exact ncr (n - 1 + a) (0 + a) (d + a) (fun e => md (u := 0 + a) (v := n - 1 + a) (by omega) (by omega) e.symm) (md (by omega) (by omega)) (fun e => md (u := d + a) (v := n - 1 + a) (by omega) (by omega) e.symm) q.1
  · show apart (Go.Proofs.Ythiemglckmociaa.rev p n (0 + a)) (Go.Proofs.Ythiemglckmociaa.rev p n (d + a)) (Go.Proofs.Ythiemglckmociaa.rev p n (k + a)) (Go.Proofs.Ythiemglckmociaa.rev p n (k + 1 + a))
    rw [Nat.zero_add, Nat.add_comm d a, r0, r1]
    -- the side of p that this side is
    have key : ∀ k', k' + (k + 1 + a) = d + a ∨ k' + (k + 1 + a) = d + a + n → Go.Proofs.Ythiemglckmociaa.rev p n (k + 1 + a) = p (k' + i0) ∧ Go.Proofs.Ythiemglckmociaa.rev p n (k + a) = p (k' + 1 + i0) := fun k' hk' => by
      have b1 := rev_idx n (k + 1 + a) (by omega)
      have b2 := rev_idx n (a + d) (by omega)
      have m1 : (n * (k + 1 + a + 1) - (k + 1 + a)) % n = (k' + i0) % n := by
        refine mod_cancel (m := k + 1 + a) (by omega) ?_
        rw [rev_mod n (k + 1 + a) (by omega)]
        rcases hk' with e | e
        · rw [show k' + i0 + (k + 1 + a) = n * (a + d + 1) by omega, Nat.mul_mod_right]
        · rw [show k' + i0 + (k + 1 + a) = n * (a + d + 1) + n * 1 by omega, Nat.add_mul_mod_self_left, Nat.mul_mod_right]
      have e1 : Go.Proofs.Ythiemglckmociaa.rev p n (k + 1 + a) = p (k' + i0) := by
        unfold Go.Proofs.Ythiemglckmociaa.rev
        rw [← h.mod (n * (k + 1 + a + 1) - (k + 1 + a)), m1, h.mod]
      refine ⟨e1, ?_⟩
      have e2 := rev_next h (k + a)
      rw [e2, show k + a + 2 = k + 1 + a + 1 by omega, show k + a + 1 = k + 1 + a by omega, ← h.mod, ← Nat.mod_add_mod, m1, Nat.mod_add_mod, h.mod, show k' + i0 + 1 = k' + 1 + i0 by omega]
    rcases Nat.lt_or_ge k d with c | c
    · obtain ⟨e1, e2⟩ := key (d - 1 - k) (.inl (by omega))
      have f := k1.free (d - 1 - k) (by omega) (by omega) (by omega) (by omega) (by omega)
      have f : apart (p (0 + i0)) (p (d + i0)) (p (d - 1 - k + i0)) (p (d - 1 - k + 1 + i0)) := f
      rw [e1, e2]
      rw [Nat.zero_add, Nat.add_comm d i0] at f
      exact apart_swap (apart_flip f)
    · obtain ⟨e1, e2⟩ := key (n + d - 1 - k) (.inr (by omega))
      have f := k1.free (n + d - 1 - k) (by omega) (by omega) (by omega) (by omega) (by omega)
      have f : apart (p (0 + i0)) (p (d + i0)) (p (n + d - 1 - k + i0)) (p (n + d - 1 - k + 1 + i0)) := f
      rw [e1, e2]
      rw [Nat.zero_add, Nat.add_comm d i0] at f
      exact apart_swap (apart_flip f)
  · rw [r0, r1, mid2_swap]
    have hr := h.turned
    have w1 := (hr.scale (show (0 : Int) < 2 by decide)).wsum_shift a (mid2 (p i0) (p (i0 + d)))
    have w1 : wsum (fun k => sc 2 (Go.Proofs.Ythiemglckmociaa.rev p n (k + a))) n (mid2 (p i0) (p (i0 + d))) = wsum (fun k => sc 2 (Go.Proofs.Ythiemglckmociaa.rev p n k)) n (mid2 (p i0) (p (i0 + d))) := w1
    have w2 := (h.scale (show (0 : Int) < 2 by decide)).wsum_shift i0 (mid2 (p i0) (p (i0 + d)))
    have w2 : wsum (fun k => sc 2 (p (k + i0))) n (mid2 (p i0) (p (i0 + d))) = wsum (fun k => sc 2 (p k)) n (mid2 (p i0) (p (i0 + d))) := w2
    have w3 := rev_sum h (fun a b => cr (mid2 (p i0) (p (i0 + d))) (sc 2 a) (sc 2 b)) (fun a b => cr_swap _ _ _)
    have w3 : wsum (fun k => sc 2 (Go.Proofs.Ythiemglckmociaa.rev p n k)) n (mid2 (p i0) (p (i0 + d))) = - wsum (fun k => sc 2 (p k)) n (mid2 (p i0) (p (i0 + d))) := w3
    rw [w1, w3]
    rw [w2] at k2
    omega
theorem lam_turned {p : Nat → Pt} {n : Nat} (h : Simple p n) : lam (Go.Proofs.Ythiemglckmociaa.rev p n) n 0 = 1 ↔ lam p n 0 ≠ 1 := by
  have a1 := h.area_pos
  have a2 := h.turned.area_pos
  have e := area_turned h
  rcases h.lam01 with c | c <;> rcases h.turned.lam01 with c2 | c2 <;> rw [c] at a1 ⊢ <;> rw [c2] at a2 ⊢
  · omega
  · simp
  · simp
  · omega
theorem Tris.rev {p : Nat → Pt} {n : Nat} {T : List (Pt × Pt × Pt)} (h : Simple p n) (nc : NoLine p n) (t : Tris p n T) : Tris (Go.Proofs.Ythiemglckmociaa.rev p n) n T := by
  have h3 := h.three
  have hl := lam_turned h
  refine ⟨t.cnt, t.lft, fun u hu x hx => ?_, fun i => ?_, fun a d h1 h2 => ?_⟩
  · obtain ⟨j, rfl⟩ := t.mem u hu x hx
    obtain ⟨v, hv⟩ : ∃ v, n * (j + 1) - j = v := ⟨_, rfl⟩
    have hj := rev_idx n j (by omega)
    refine ⟨v, ?_⟩
    have hle : j + 1 ≤ v + 1 := by
      have : 2 * (j + 1) ≤ n * (j + 1) := Nat.mul_le_mul_right _ (by omega)
      omega
    have e3 : n * (v + 1) = n * (j + 1) + n * (v + 1 - (j + 1)) := by rw [← Nat.mul_add, Nat.add_sub_cancel' hle]
    unfold Go.Proofs.Ythiemglckmociaa.rev
    rw [show n * (v + 1) - v = j + n * (v + 1 - (j + 1)) by omega, h.per_mul]
  · have k := t.side (n * (i + 2) - (i + 1))
    have e0 := rev_next h i
    have e1 : Go.Proofs.Ythiemglckmociaa.rev p n (i + 1) = p (n * (i + 2) - (i + 1)) := rfl
    rw [e0, e1, k.1, k.2]
    by_cases c : lam p n 0 = 1
    · rw [if_pos c, if_pos c, if_neg (fun q => hl.1 q c), if_neg (fun q => hl.1 q c)]; exact ⟨rfl, rfl⟩
    · rw [if_neg c, if_neg c, if_pos (hl.2 c), if_pos (hl.2 c)]; exact ⟨rfl, rfl⟩
  · have k := t.inner (n * (a + d + 1) - (a + d)) d h1 h2
    have r0 : Go.Proofs.Ythiemglckmociaa.rev p n (a + d) = p (n * (a + d + 1) - (a + d)) := rfl
    have r1 : Go.Proofs.Ythiemglckmociaa.rev p n a = p (n * (a + d + 1) - (a + d) + d) := rev_far h a d (by omega)
    rw [r0, r1]
    exact ⟨k.1.symm, by rw [← k.1]; exact k.2.1, fun q => (k.2.2 (by rw [k.1]; exact q)).rev h nc⟩
end Go.Proofs.Ythiemglckmociaa
