/- Plain geometry of plots, seventh part: some line splits each plot of four corners or more. No program in sight. No conditions. -/
import Derived.Test.YthiemglckmociaaGeo6
namespace Go.Proofs.Ythiemglckmociaa
theorem on_weights {a b x : Int × Int} {k t S : Int} (hk : 0 ≤ k) (ht : 0 ≤ t) (hs : k + t = S) (hS : 0 < S) (e1 : S * x.1 = k * a.1 + t * b.1) (e2 : S * x.2 = k * a.2 + t * b.2) : onB a b x = true := by
  subst hs
  refine onB_mk ?_ ?_
  · have : (k + t) * turn a b x = 0 := by unfold turn; grind
    rcases Int.mul_eq_zero.1 this with z | z
    · omega
    · exact z
  · have e : (k + t) * (k + t) * dot x a b = -(k * t * ((b.1 - a.1) * (b.1 - a.1) + (b.2 - a.2) * (b.2 - a.2))) := by
      have f1 : (k + t) * (a.1 - x.1) = t * (a.1 - b.1) := by grind
      have f2 : (k + t) * (b.1 - x.1) = k * (b.1 - a.1) := by grind
      have f3 : (k + t) * (a.2 - x.2) = t * (a.2 - b.2) := by grind
      have f4 : (k + t) * (b.2 - x.2) = k * (b.2 - a.2) := by grind
      have : (k + t) * (k + t) * dot x a b = ((k + t) * (a.1 - x.1)) * ((k + t) * (b.1 - x.1)) + ((k + t) * (a.2 - x.2)) * ((k + t) * (b.2 - x.2)) := by unfold dot; grind
      rw [this, f1, f2, f3, f4]; grind
    have q1 := sq0 (b.1 - a.1)
    have q2 := sq0 (b.2 - a.2)
    have m1 := mpp0 (mpp0 hk ht) (show 0 ≤ (b.1 - a.1) * (b.1 - a.1) + (b.2 - a.2) * (b.2 - a.2) by omega)
    have m2 := mpp hS hS
    rcases Int.lt_or_le 0 (dot x a b) with c | c
    · have := mpp m2 c; omega
    · exact c
/-- Points of a side, and another side: apart, unless the corner between them is one of the points. -/
theorem Simple.side_side {p : Nat → Int × Int} {n : Nat} (h : Simple p n) {k j : Nat} (hk : k < n) (hj : j < n) (hjk : j ≠ k) {x y : Int × Int} (hx : onB (p k) (p (k + 1)) x = true) (hy : onB (p k) (p (k + 1)) y = true)
    (hn : (k + 1) % n = j → x ≠ p j ∧ y ≠ p j) (hp : (j + 1) % n = k → x ≠ p k ∧ y ≠ p k) : apart x y (p j) (p (j + 1)) := by
  have h3 := h.three
  by_cases c1 : (k + 1) % n = j
  · have e : p (k + 1) = p j := by rw [← c1, h.mod]
    have e2 : p (k + 2) = p (j + 1) := by
      rw [← c1, ← h.mod ((k + 1) % n + 1), Nat.mod_add_mod, h.mod]
    have hs := h.spike k
    have hne := h.ne_next k
    have hne2 := h.ne_next (k + 1)
    rw [show k + 1 + 1 = k + 2 by omega] at hne2
    have := apart_next hs hne hne2 hx hy (by rw [e]; exact (hn c1).1) (by rw [e]; exact (hn c1).2)
    rw [e, e2] at this
    exact this
  · by_cases c2 : (j + 1) % n = k
    · have e : p (j + 1) = p k := by rw [← c2, h.mod]
      have e2 : p (j + 2) = p (k + 1) := by
        rw [← c2, ← h.mod ((j + 1) % n + 1), Nat.mod_add_mod, h.mod]
      have hs := h.spike j
      have hne := h.ne_next j
      have hne2 := h.ne_next (j + 1)
      rw [show j + 1 + 1 = j + 2 by omega] at hne2
      rw [e, e2] at hs
      have hs' : ¬ (turn (p (k + 1)) (p k) (p j) = 0 ∧ 0 < dot (p k) (p (k + 1)) (p j)) := fun ⟨g1, g2⟩ => hs ⟨by
        have : turn (p j) (p k) (p (k + 1)) = - turn (p (k + 1)) (p k) (p j) := by unfold turn; grind
        omega, by
        have : dot (p k) (p j) (p (k + 1)) = dot (p k) (p (k + 1)) (p j) := by unfold dot; grind
        omega⟩
      have := apart_next hs' (fun e' => h.ne_next k e'.symm) (by rw [← e]; exact fun e' => hne e'.symm) (by rw [onB_swap]; exact hx) (by rw [onB_swap]; exact hy) (hp c2).1 (hp c2).2
      rw [e]
      exact apart_swap this
    · exact apart_part (h.free k j hk hj hjk c2 c1) hx hy
/-- A corner is on no side but its own two: by numbers. -/
theorem Simple.off {p : Nat → Int × Int} {n : Nat} (h : Simple p n) {i k : Nat} (hi : i < n) (hk : k < n) (h1 : k ≠ i) (h2 : (k + 1) % n ≠ i) : onB (p k) (p (k + 1)) (p i) = false := by
  have h3 := h.three
  -- corner i becomes corner 1
  obtain ⟨s, hs⟩ : ∃ s, (s + 1) % n = i := ⟨(i + n - 1) % n, by
    rw [Nat.mod_add_mod, show i + n - 1 + 1 = i + n by omega, Nat.add_mod_right, Nat.mod_eq_of_lt hi]⟩
  obtain ⟨j, hj⟩ : ∃ j, j < n ∧ (j + s) % n = k := ⟨(k + n - s % n) % n, Nat.mod_lt _ (by omega), by
    have : s % n < n := Nat.mod_lt _ (by omega)
    rw [Nat.mod_add_mod, ← Nat.add_mod_mod, show k + n - s % n + s % n = k + n by omega, Nat.add_mod_right, Nat.mod_eq_of_lt hk]⟩
  have hj1 : 1 < j := by
    rcases Nat.lt_or_ge 1 j with c | c
    · exact c
    · exfalso
      rcases (show j = 0 ∨ j = 1 by omega) with rfl | rfl
      · rw [Nat.zero_add] at hj
        apply h2
        rw [← hj.2, Nat.mod_add_mod, hs]
      · apply h1
        rw [← hj.2, Nat.add_comm, hs]
  have := (h.shift s).corner_off hj1 hj.1
  have e1 : p (1 + s) = p i := by rw [← h.mod (1 + s), Nat.add_comm 1 s, hs]
  have e2 : p (j + s) = p k := by rw [← h.mod (j + s), hj.2]
  have e3 : p (j + 1 + s) = p (k + 1) := by rw [← h.mod (j + 1 + s), ← h.mod (k + 1), ← hj.2, Nat.mod_add_mod]; congr 2; omega
  rw [e1, e2, e3] at this
  exact this
theorem wA_sc (S : Int) (a b c z : Int × Int) : wA (sc S a) (sc S b) (sc S c) (sc S z) = S * S * wA a b c z := turn_sc S c b z
theorem wB_sc (S : Int) (a b c z : Int × Int) : wB (sc S a) (sc S b) (sc S c) (sc S z) = S * S * wB a b c z := turn_sc S a c z
theorem wC_sc (S : Int) (a b c z : Int × Int) : wC (sc S a) (sc S b) (sc S c) (sc S z) = S * S * wC a b c z := turn_sc S b a z
theorem inT_sc {S : Int} (hS : 0 < S) {a b c z : Int × Int} : inT (sc S a) (sc S b) (sc S c) (sc S z) ↔ inT a b c z := by
  have hp := mpp hS hS
  have key : ∀ t : Int, 0 ≤ S * S * t ↔ 0 ≤ t := fun t => by
    have := sign_mul (k := S * S) (t := t) hp
    omega
  unfold inT
  rw [wA_sc, wB_sc, wC_sc, key, key, key]
/-- A point between l times x and m times y, seen (l + m) times as large. -/
def mix (l : Int) (x : Int × Int) (m : Int) (y : Int × Int) : Int × Int := (l * x.1 + m * y.1, l * x.2 + m * y.2)
theorem turn_mix (a c x y : Int × Int) (l m : Int) : turn (sc (l + m) a) (sc (l + m) c) (mix l x m y) = (l + m) * (l * turn a c x + m * turn a c y) := by unfold turn sc mix; grind
theorem on_mix {x y : Int × Int} {l m : Int} (hl : 0 ≤ l) (hm : 0 ≤ m) (hs : 0 < l + m) : onB (sc (l + m) x) (sc (l + m) y) (mix l x m y) = true :=
  on_weights hl hm rfl hs (by unfold mix sc; grind) (by unfold mix sc; grind)
theorem sc_left (S : Int) (x y : Int × Int) : onB (sc S x) (sc S y) (sc S x) = true := by
  refine onB_mk (by unfold turn; grind) ?_
  have : dot (sc S x) (sc S x) (sc S y) = 0 := by unfold dot; grind
  omega
theorem sc_right (S : Int) (x y : Int × Int) : onB (sc S x) (sc S y) (sc S y) = true := by
  rw [onB_swap]; exact sc_left S y x
/-- The farther end. -/
theorem far_end {k t f1 f2 F : Int} (hk : 0 ≤ k) (ht : 0 ≤ t) (hs : 0 < k + t) (e : F = k * f1 + t * f2) : F ≤ (k + t) * f1 ∨ F ≤ (k + t) * f2 := by
  rcases Int.le_total f1 f2 with c | c
  · right
    have := Int.mul_le_mul_of_nonneg_left c hk
    rw [Int.add_mul]; omega
  · left
    have := Int.mul_le_mul_of_nonneg_left c ht
    rw [Int.add_mul]; omega
end Go.Proofs.Ythiemglckmociaa
