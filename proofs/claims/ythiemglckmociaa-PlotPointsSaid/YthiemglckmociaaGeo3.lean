/- Plain geometry of plots, third part: the area, told by points, and its sign. No program in sight. No conditions. -/
import Derived.Test.YthiemglckmociaaGeo2
namespace Go.Proofs.Ythiemglckmociaa
theorem sumN_const (c : Int) : ∀ n : Nat, sumN (fun _ => c) n = n * c
  | 0 => by simp [sumN]
  | n + 1 => by rw [sumN, sumN_const c n]; grind
theorem sumN_mul (c : Int) (f : Nat → Int) : ∀ n : Nat, sumN (fun i => c * f i) n = c * sumN f n
  | 0 => by simp [sumN]
  | n + 1 => by rw [sumN, sumN, sumN_mul c f n]; grind
theorem sumN_swap (f : Nat → Nat → Int) (m : Nat) : ∀ n : Nat, sumN (fun i => sumN (fun j => f i j) m) n = sumN (fun j => sumN (fun i => f i j) n) m
  | 0 => by rw [sumN, sumN_zero]; intro j _; rfl
  | n + 1 => by
    rw [sumN, sumN_swap f m n, ← sumN_add]
    exact sumN_congr fun j _ => by rw [sumN]
theorem sumN_split (f : Nat → Int) (m : Nat) : ∀ n : Nat, sumN f (m + n) = sumN f m + sumN (fun i => f (m + i)) n
  | 0 => by simp [sumN]
  | n + 1 => by rw [← Nat.add_assoc, sumN, sumN_split f m n, sumN]; omega
theorem sumN_nonneg {f : Nat → Int} : ∀ {n : Nat}, (∀ i, i < n → 0 ≤ f i) → 0 ≤ sumN f n
  | 0, _ => by simp [sumN]
  | n + 1, h => by
    have := sumN_nonneg (n := n) (fun i hi => h i (by omega))
    have := h n (by omega)
    rw [sumN]; omega
theorem sumN_ge {f : Nat → Int} {i : Nat} : ∀ {n : Nat}, i < n → (∀ j, j < n → 0 ≤ f j) → f i ≤ sumN f n
  | 0, h, _ => by omega
  | n + 1, h, hz => by
    rw [sumN]
    by_cases e : i = n
    · subst e; have := sumN_nonneg (fun j hj => hz j (show j < i + 1 by omega)) (n := i); omega
    · have := sumN_ge (n := n) (i := i) (by omega) (fun j hj => hz j (by omega)); have := hz n (by omega); omega
/-- A sum over the whole numbers from -B to B. -/
def sumB (B : Nat) (f : Int → Int) : Int := sumN (fun i => f ((i : Int) - B)) (2 * B + 1)
theorem sumB_congr {B : Nat} {f g : Int → Int} (h : ∀ x : Int, -B ≤ x → x ≤ B → f x = g x) : sumB B f = sumB B g := sumN_congr fun i hi => h _ (by omega) (by omega)
theorem sumB_add {B : Nat} {f g : Int → Int} : sumB B (fun x => f x + g x) = sumB B f + sumB B g := sumN_add
/-- How many are below a bound. -/
theorem sumB_below {B : Nat} {t : Int} (h1 : -B ≤ t) (h2 : t ≤ B) : sumB B (fun x => if x < t then 1 else 0) = t + B := by
  unfold sumB
  obtain ⟨m, hm⟩ : ∃ m : Nat, (m : Int) = t + B := ⟨(t + B).toNat, by omega⟩
  rw [show 2 * B + 1 = m + (2 * B + 1 - m) by omega, sumN_split, sumN_congr (g := fun _ => 1) (fun i hi => if_pos (by omega)), sumN_const,
    sumN_zero (fun i _ => if_neg (by simp only [Int.natCast_add]; omega))]
  omega
theorem sumB_above {B : Nat} {t : Int} (h1 : -B ≤ t) (h2 : t ≤ B) : sumB B (fun x => if t < x then 1 else 0) = B - t := by
  have h := sumB_below (B := B) (t := t + 1 - 1) (by omega) (by omega)
  have e : sumB B (fun x => (if x < t then 1 else 0) + (if t < x then 1 else 0) + (if x = t then 1 else 0)) = 2 * B + 1 := by
    rw [sumB_congr (g := fun _ => 1)]
    · unfold sumB; rw [sumN_const]; omega
    · intro x _ _
      rcases Int.lt_trichotomy x t with c | c | c
      · rw [if_pos c, if_neg (by omega), if_neg (by omega)]; rfl
      · rw [if_neg (by omega), if_neg (by omega), if_pos c]; rfl
      · rw [if_neg (by omega), if_pos c, if_neg (by omega)]; rfl
  have e1 : sumB B (fun x => if x = t then 1 else 0) = 1 := by
    unfold sumB
    obtain ⟨m, hm⟩ : ∃ m : Nat, (m : Int) = t + B := ⟨(t + B).toNat, by omega⟩
    rw [sumN_one (i := m) (by omega) (fun j _ hj => if_neg (by omega)), if_pos (by omega)]
  rw [sumB_add, sumB_add, e1] at e
  rw [show t + 1 - 1 = t by omega] at h
  omega
/-- A sum over a window. -/
theorem sumB_window {B : Nat} {a b : Int} (f : Int → Int) (h1 : -B ≤ a) (h2 : a ≤ b) (h3 : b ≤ B + 1) : sumB B (fun y => if a ≤ y ∧ y < b then f y else 0) = sumN (fun i => f (a + i)) (b - a).toNat := by
  unfold sumB
  obtain ⟨m, hm⟩ : ∃ m : Nat, (m : Int) = a + B := ⟨(a + B).toNat, by omega⟩
  obtain ⟨d, hd⟩ : ∃ d : Nat, (d : Int) = b - a := ⟨(b - a).toNat, by omega⟩
  rw [show 2 * B + 1 = m + (d + (2 * B + 1 - m - d)) by omega, sumN_split, sumN_split, sumN_zero (fun i hi => if_neg (by omega)),
    sumN_congr (g := fun i => f (a + i)) (fun i hi => by
      show (if a ≤ ((m + i : Nat) : Int) - B ∧ ((m + i : Nat) : Int) - B < b then f (((m + i : Nat) : Int) - B) else 0) = _
      rw [if_pos (by omega)]; congr 1; omega),
    sumN_zero (n := 2 * B + 1 - m - d) (fun i hi => if_neg (by simp only [Int.natCast_add]; omega))]
  rw [show (b - a).toNat = d by omega]
  omega
theorem sumN_rev (f : Nat → Int) : ∀ n : Nat, sumN (fun i => f (n - 1 - i)) n = sumN f n
  | 0 => rfl
  | n + 1 => by
    rw [show n + 1 = 1 + n by omega, sumN_split]
    rw [sumN_congr (n := n) (g := fun i => f (n - 1 - i)) (fun i hi => by congr 1; omega), sumN_rev f n, show 1 + n = n + 1 by omega]
    have e1 : ∀ g : Nat → Int, sumN g 1 = g 0 := fun g => by simp [sumN]
    rw [e1]
    show f (n + 1 - 1 - 0) + sumN f n = sumN f n + f n
    rw [show n + 1 - 1 - 0 = n by omega]; omega
def neg (a : Int × Int) : Int × Int := (-a.1, -a.2)
theorem turn_neg (a b c : Int × Int) : turn (neg a) (neg b) (neg c) = turn a b c := by unfold turn neg; grind
/-- The bound to the left of which a ray meets a side that leads upward. -/
theorem bound_at {a b : Int × Int} {y : Int} (h1 : a.2 ≤ y) (h2 : y ≤ b.2) (h3 : a.2 < b.2) {B : Nat} (ha : -B ≤ a.1 ∧ a.1 ≤ B) (hb : -B ≤ b.1 ∧ b.1 ≤ B) :
    ∃ t s : Int, -B ≤ t ∧ t ≤ B ∧ -B ≤ s ∧ s ≤ B ∧ (∀ x, 0 < turn a b (x, y) ↔ x < t) ∧ (∀ x, turn a b (x, y) < 0 ↔ s < x) := by
  obtain ⟨D, hD⟩ : ∃ D, D = b.2 - a.2 := ⟨_, rfl⟩
  obtain ⟨N, hN⟩ : ∃ N, N = (b.1 - a.1) * (y - a.2) + D * a.1 := ⟨_, rfl⟩
  have hDp : 0 < D := by omega
  have e : ∀ x, turn a b (x, y) = N - D * x := fun x => by rw [hN, hD]; unfold turn; grind
  -- D * (-B) ≤ N ≤ D * B
  have eN : N = (y - a.2) * b.1 + (b.2 - y) * a.1 := by rw [hN, hD]; grind
  have l1 := Int.mul_le_mul_of_nonneg_left hb.1 (show 0 ≤ y - a.2 by omega)
  have l2 := Int.mul_le_mul_of_nonneg_left ha.1 (show 0 ≤ b.2 - y by omega)
  have l3 := Int.mul_le_mul_of_nonneg_left hb.2 (show 0 ≤ y - a.2 by omega)
  have l4 := Int.mul_le_mul_of_nonneg_left ha.2 (show 0 ≤ b.2 - y by omega)
  have lo : D * (-B) ≤ N := by
    have : D * (-(B : Int)) = (y - a.2) * (-B) + (b.2 - y) * (-B) := by rw [hD]; grind
    omega
  have hi : N ≤ D * B := by
    have : D * (B : Int) = (y - a.2) * B + (b.2 - y) * B := by rw [hD]; grind
    omega
  have f1 := Int.mul_ediv_add_emod N D
  have f2 := Int.emod_nonneg N (show D ≠ 0 by omega)
  have f3 := Int.emod_lt_of_pos N hDp
  have g1 := Int.mul_ediv_add_emod (-N) D
  have g2 := Int.emod_nonneg (-N) (show D ≠ 0 by omega)
  have g3 := Int.emod_lt_of_pos (-N) hDp
  have le_of : ∀ u v : Int, D * u ≤ D * v → u ≤ v := fun u v h => Int.le_of_mul_le_mul_left h hDp
  have lt_of : ∀ u v : Int, D * u < D * v → u < v := fun u v h => Int.lt_of_mul_lt_mul_left h (by omega)
  have mul_lt : ∀ u v : Int, u < v → D * u + D ≤ D * v := fun u v h => by
    have := Int.mul_le_mul_of_nonneg_left (show u + 1 ≤ v by omega) (show 0 ≤ D by omega)
    rw [Int.mul_add, Int.mul_one] at this; omega
  have mul_le : ∀ u v : Int, u ≤ v → D * u ≤ D * v := fun u v h => Int.mul_le_mul_of_nonneg_left h (by omega)
  refine ⟨-(-N / D), N / D, ?_, ?_, ?_, ?_, fun x => ?_, fun x => ?_⟩
  · rcases Int.lt_or_le (-(-N / D)) (-B) with c | c
    · have := mul_lt _ _ c
      have : D * -(-N / D) = -(D * (-N / D)) := by grind
      omega
    · exact c
  · rcases Int.lt_or_le (B : Int) (-(-N / D)) with c | c
    · have := mul_lt _ _ c
      have : D * -(-N / D) = -(D * (-N / D)) := by grind
      omega
    · exact c
  · rcases Int.lt_or_le (N / D) (-B) with c | c
    · have := mul_lt _ _ c; omega
    · exact c
  · rcases Int.lt_or_le (B : Int) (N / D) with c | c
    · have := mul_lt _ _ c; omega
    · exact c
  · rw [e]
    have h : D * -(-N / D) = -(D * (-N / D)) := by grind
    constructor
    · intro h0
      rcases Int.lt_or_le x (-(-N / D)) with c | c
      · exact c
      · have := mul_le _ _ c; omega
    · intro h0
      have := mul_lt _ _ h0; omega
  · rw [e]
    constructor
    · intro h0
      rcases Int.lt_or_le (N / D) x with c | c
      · exact c
      · have := mul_le _ _ c; omega
    · intro h0
      have := mul_lt _ _ h0; omega
def sum2 (B : Nat) (f : Int × Int → Int) : Int := sumB B fun y => sumB B fun x => f (x, y)
theorem sum2_add {B : Nat} {f g : Int × Int → Int} : sum2 B (fun x => f x + g x) = sum2 B f + sum2 B g := by
  unfold sum2
  rw [← sumB_add]; congr 1; funext y; exact sumB_add
theorem sum2_zero {B : Nat} : sum2 B (fun _ => 0) = 0 := sumN_zero fun _ _ => sumN_zero fun _ _ => rfl
theorem sum2_sumN {B : Nat} (f : Nat → Int × Int → Int) : ∀ n : Nat, sum2 B (fun x => sumN (fun i => f i x) n) = sumN (fun i => sum2 B (f i)) n
  | 0 => sum2_zero
  | n + 1 => by
    rw [sumN, ← sum2_sumN f n, ← sum2_add]; rfl
theorem sum2_congr {B : Nat} {f g : Int × Int → Int} (h : ∀ x : Int × Int, -B ≤ x.1 → x.1 ≤ B → -B ≤ x.2 → x.2 ≤ B → f x = g x) : sum2 B f = sum2 B g :=
  sumB_congr fun y h3 h4 => sumB_congr fun x h1 h2 => h (x, y) h1 h2 h3 h4
theorem edge_up {a b : Int × Int} {B : Nat} (ha : (-B ≤ a.1 ∧ a.1 ≤ B) ∧ -B ≤ a.2 ∧ a.2 ≤ B) (hb : (-B ≤ b.1 ∧ b.1 ≤ B) ∧ -B ≤ b.2 ∧ b.2 ≤ B) (hab : a.2 < b.2) :
    sum2 B (fun x => cr x a b + cr (neg x) (neg a) (neg b)) = (b.2 - a.2) * (a.1 + b.1) := by
  have hex : ∀ y : Int, ∃ t s : Int, a.2 ≤ y → y ≤ b.2 → -B ≤ t ∧ t ≤ B ∧ -B ≤ s ∧ s ≤ B ∧ (∀ x, 0 < turn a b (x, y) ↔ x < t) ∧ (∀ x, turn a b (x, y) < 0 ↔ s < x) := fun y => by
    by_cases c : a.2 ≤ y ∧ y ≤ b.2
    · obtain ⟨t, s, h⟩ := bound_at c.1 c.2 hab ha.1 hb.1
      exact ⟨t, s, fun _ _ => h⟩
    · exact ⟨0, 0, fun h1 h2 => absurd ⟨h1, h2⟩ c⟩
  obtain ⟨t, ht⟩ : ∃ t : Int → Int, ∀ y, ∃ s : Int, a.2 ≤ y → y ≤ b.2 → -B ≤ t y ∧ t y ≤ B ∧ -B ≤ s ∧ s ≤ B ∧ (∀ x, 0 < turn a b (x, y) ↔ x < t y) ∧ (∀ x, turn a b (x, y) < 0 ↔ s < x) :=
    ⟨fun y => (hex y).choose, fun y => (hex y).choose_spec⟩
  obtain ⟨s, hs⟩ : ∃ s : Int → Int, ∀ y, a.2 ≤ y → y ≤ b.2 → -B ≤ t y ∧ t y ≤ B ∧ -B ≤ s y ∧ s y ≤ B ∧ (∀ x, 0 < turn a b (x, y) ↔ x < t y) ∧ (∀ x, turn a b (x, y) < 0 ↔ s y < x) :=
    ⟨fun y => (ht y).choose, fun y => (ht y).choose_spec⟩
  have hst : ∀ y, a.2 ≤ y → y ≤ b.2 → s (a.2 + b.2 - y) = a.1 + b.1 - t y := fun y h1 h2 => by
    obtain ⟨_, _, _, _, k1, _⟩ := hs y h1 h2
    obtain ⟨_, _, _, _, _, k2⟩ := hs (a.2 + b.2 - y) (by omega) (by omega)
    have e : ∀ x, turn a b (x, a.2 + b.2 - y) = - turn a b (a.1 + b.1 - x, y) := fun x => by unfold turn; grind
    have h : ∀ x, s (a.2 + b.2 - y) < x ↔ a.1 + b.1 - x < t y := fun x => by
      rw [← k2, ← k1, e]; omega
    have p1 := h (s (a.2 + b.2 - y) + 1)
    have p2 := h (s (a.2 + b.2 - y))
    omega
  rw [sum2_add]
  have r1 : sum2 B (fun x => cr x a b) = sumN (fun i => t (a.2 + i) + B) (b.2 - a.2).toNat := by
    rw [← sumB_window (B := B) (fun y => t y + B) ha.2.1 (Int.le_of_lt hab) (by omega)]
    refine sumB_congr fun y h1 h2 => ?_
    by_cases c : a.2 ≤ y ∧ y < b.2
    · obtain ⟨g1, g2, _, _, k1, _⟩ := hs y c.1 (by omega)
      rw [if_pos c, ← sumB_below g1 g2]
      refine sumB_congr fun x _ _ => ?_
      unfold cr
      refine if_iff ?_ rfl ?_
      · rw [k1]; simp only; exact ⟨fun h => h.2.2, fun h => ⟨c.1, c.2, h⟩⟩
      · rw [if_neg (by simp only; omega)]
    · rw [if_neg c]
      refine sumN_zero fun i _ => ?_
      show cr ((i : Int) - B, y) a b = 0
      unfold cr
      rw [if_neg (by simp only; omega), if_neg (by simp only; omega)]
  have r2 : sum2 B (fun x => cr (neg x) (neg a) (neg b)) = sumN (fun i => s (a.2 + 1 + i) - B) (b.2 - a.2).toNat := by
    have := sumB_window (B := B) (a := a.2 + 1) (b := b.2 + 1) (fun y => s y - B) (by omega) (by omega) (by omega)
    rw [show b.2 + 1 - (a.2 + 1) = b.2 - a.2 by omega] at this
    rw [← this]
    refine sumB_congr fun y h1 h2 => ?_
    by_cases c : a.2 + 1 ≤ y ∧ y < b.2 + 1
    · obtain ⟨_, _, g1, g2, _, k1⟩ := hs y (by omega) (by omega)
      rw [if_pos c]
      show sumB B (fun x => cr (neg (x, y)) (neg a) (neg b)) = s y - B
      have e := sumB_above g1 g2
      have e2 : sumB B (fun x => cr (neg (x, y)) (neg a) (neg b)) + sumB B (fun x => if s y < x then 1 else 0) = 0 := by
        rw [← sumB_add]
        refine sumN_zero fun i _ => ?_
        show cr (neg ((i : Int) - B, y)) (neg a) (neg b) + (if s y < (i : Int) - B then 1 else 0) = 0
        have ec : cr (neg ((i : Int) - B, y)) (neg a) (neg b) = if s y < (i : Int) - B then -1 else 0 := by
          unfold cr
          rw [turn_neg, if_neg (by show ¬ (-a.2 ≤ -y ∧ -y < -b.2 ∧ _); omega)]
          exact if_iff ⟨fun h => (k1 _).1 h.2.2, fun h => ⟨by show -b.2 ≤ -y; omega, by show -y < -a.2; omega, (k1 _).2 h⟩⟩ rfl rfl
        rw [ec]
        by_cases cx : s y < (i : Int) - B
        · rw [if_pos cx, if_pos cx]; rfl
        · rw [if_neg cx, if_neg cx]; rfl
      omega
    · rw [if_neg c]
      refine sumN_zero fun i _ => ?_
      show cr (neg ((i : Int) - B, y)) (neg a) (neg b) = 0
      unfold cr
      have e3 : ∀ x : Int, (neg (x, y)).2 = -y := fun _ => rfl
      have e4 : (neg a).2 = -a.2 := rfl
      have e5 : (neg b).2 = -b.2 := rfl
      rw [e3, e4, e5, if_neg (by omega), if_neg (by omega)]
  rw [r1, r2]
  obtain ⟨d, hd⟩ : ∃ d : Nat, (d : Int) = b.2 - a.2 := ⟨(b.2 - a.2).toNat, by omega⟩
  rw [show (b.2 - a.2).toNat = d by omega, ← sumN_rev (fun i => s (a.2 + 1 + i) - B) d, ← sumN_add, sumN_congr (g := fun _ => a.1 + b.1) (fun i hi => ?_), sumN_const, hd]
  have := hst (a.2 + i) (by omega) (by omega)
  have e : a.2 + 1 + ((d - 1 - i : Nat) : Int) = a.2 + b.2 - (a.2 + i) := by omega
  rw [e, this]; omega
theorem cr_level {a b x : Int × Int} (h : a.2 = b.2) : cr x a b = 0 := by
  unfold cr; rw [if_neg (by omega), if_neg (by omega)]
theorem edge_sum {a b : Int × Int} {B : Nat} (ha : (-B ≤ a.1 ∧ a.1 ≤ B) ∧ -B ≤ a.2 ∧ a.2 ≤ B) (hb : (-B ≤ b.1 ∧ b.1 ≤ B) ∧ -B ≤ b.2 ∧ b.2 ≤ B) :
    sum2 B (fun x => cr x a b + cr (neg x) (neg a) (neg b)) = (b.2 - a.2) * (a.1 + b.1) := by
  rcases Int.lt_trichotomy a.2 b.2 with c | c | c
  · exact edge_up ha hb c
  · have : (fun x => cr x a b + cr (neg x) (neg a) (neg b)) = fun _ => 0 := funext fun x => by rw [cr_level c, cr_level (by unfold neg; simp [c])]; rfl
    rw [this, sum2_zero, c]; simp
  · have h := edge_up hb ha c
    have h0 : sum2 B (fun x => (cr x a b + cr (neg x) (neg a) (neg b)) + (cr x b a + cr (neg x) (neg b) (neg a))) = 0 := by
      rw [← sum2_zero (B := B)]; congr 1; funext x
      rw [cr_swap x a b, cr_swap (neg x) (neg a) (neg b)]; omega
    rw [sum2_add, h] at h0
    have : (b.2 - a.2) * (a.1 + b.1) = -((a.2 - b.2) * (b.1 + a.1)) := by grind
    omega
/-- Twice the area, above 0 if the corners turn left. -/
def area (p : Nat → Int × Int) (n : Nat) : Int := sumN (fun i => (p i).1 * (p (i + 1)).2 - (p (i + 1)).1 * (p i).2) n
theorem area_eq {p : Nat → Int × Int} {n : Nat} (hper : p n = p 0) : area p n = sumN (fun i => ((p (i + 1)).2 - (p i).2) * ((p i).1 + (p (i + 1)).1)) n := by
  have e : sumN (fun i => ((p (i + 1)).2 - (p i).2) * ((p i).1 + (p (i + 1)).1)) n =
      sumN (fun i => ((p i).1 * (p (i + 1)).2 - (p (i + 1)).1 * (p i).2) + ((p (i + 1)).1 * (p (i + 1)).2 - (p i).1 * (p i).2)) n := sumN_congr fun i _ => by grind
  rw [e, sumN_add, sumN_tele (fun i => (p i).1 * (p i).2), hper]
  unfold area; omega
/-- The area, told by points. -/
theorem area_points {p : Nat → Int × Int} {n : Nat} (hper : p n = p 0) {B : Nat} (h : ∀ i, (-B ≤ (p i).1 ∧ (p i).1 ≤ B) ∧ -B ≤ (p i).2 ∧ (p i).2 ≤ B) :
    sum2 B (fun x => wsum p n x + wsum (fun i => neg (p i)) n (neg x)) = area p n := by
  rw [area_eq hper]
  have : (fun x => wsum p n x + wsum (fun i => neg (p i)) n (neg x)) = fun x => sumN (fun i => cr x (p i) (p (i + 1)) + cr (neg x) (neg (p i)) (neg (p (i + 1)))) n :=
    funext fun x => by unfold wsum; rw [← sumN_add]
  rw [this, sum2_sumN (fun i x => cr x (p i) (p (i + 1)) + cr (neg x) (neg (p i)) (neg (p (i + 1))))]
  exact sumN_congr fun i _ => edge_sum (h i) (h (i + 1))
/-- Near a point, to the right and a little above, a ray meets a side just as it does from the point itself; and no side is touched there. -/
theorem cr_near (a b x : Int × Int) (hab : a ≠ b) (D : Int) (hD : (b.1 - a.1).natAbs < D) : ∃ k0 : Int, ∀ k, k0 ≤ k → 0 < k →
    cr (k * x.1 + D, k * x.2 + 1) (sc k a) (sc k b) = cr x a b ∧ onB (sc k a) (sc k b) (k * x.1 + D, k * x.2 + 1) = false := by
  obtain ⟨c, hc⟩ : ∃ c, c = (b.1 - a.1) - (b.2 - a.2) * D := ⟨_, rfl⟩
  refine ⟨c.natAbs + 2, fun k hk h0 => ?_⟩
  have ht : turn (sc k a) (sc k b) (k * x.1 + D, k * x.2 + 1) = k * (k * turn a b x + c) := by rw [hc]; unfold turn sc; grind
  obtain ⟨g1, g2, g3⟩ := sign_mul (k := k) (t := k * turn a b x + c) h0
  have hle : ∀ u v : Int, (k * u ≤ k * v + 1 ↔ u ≤ v) ∧ (k * v + 1 < k * u ↔ v < u) := fun u v => by
    rcases Int.lt_or_le v u with c' | c'
    · have := Int.mul_le_mul_of_nonneg_left (show v + 1 ≤ u by omega) (show 0 ≤ k by omega)
      rw [Int.mul_add, Int.mul_one] at this
      exact ⟨by omega, by omega⟩
    · have := Int.mul_le_mul_of_nonneg_left c' (show 0 ≤ k by omega)
      exact ⟨by omega, by omega⟩
  rcases Int.lt_trichotomy (turn a b x) 0 with t | t | t
  · have := Int.mul_le_mul_of_nonneg_left (show turn a b x ≤ -1 by omega) (show 0 ≤ k by omega)
    have hn : turn (sc k a) (sc k b) (k * x.1 + D, k * x.2 + 1) < 0 := by rw [ht, g2]; omega
    constructor
    · unfold cr
      refine if_iff ⟨fun h => by omega, fun h => by omega⟩ rfl (if_iff ?_ rfl rfl)
      unfold sc; simp only
      rw [(hle _ _).1, (hle _ _).2]
      unfold sc at hn
      exact ⟨fun h => ⟨h.1, h.2.1, t⟩, fun h => ⟨h.1, h.2.1, hn⟩⟩
    · cases h : onB (sc k a) (sc k b) (k * x.1 + D, k * x.2 + 1)
      · rfl
      · have := (onB_turn h).1; omega
  · have hc0 : turn (sc k a) (sc k b) (k * x.1 + D, k * x.2 + 1) = k * c := by rw [ht, t]; simp
    obtain ⟨g1, g2, g3⟩ := sign_mul (k := k) (t := c) h0
    have hne : c ≠ 0 := fun e => by
      rcases Int.lt_trichotomy (b.2 - a.2) 0 with z | z | z
      · have := Int.mul_le_mul_of_nonneg_right (show b.2 - a.2 ≤ -1 by omega) (show 0 ≤ D by omega)
        omega
      · rw [z] at hc; simp at hc
        exact hab (Prod.ext (by omega) (by omega))
      · have := Int.mul_le_mul_of_nonneg_right (show 1 ≤ b.2 - a.2 by omega) (show 0 ≤ D by omega)
        omega
    constructor
    · rw [cr_on t]
      unfold cr
      rw [hc0, if_neg, if_neg]
      · unfold sc; simp only
        rw [(hle _ _).1, (hle _ _).2, g2]
        rintro ⟨h1, h2, h3⟩
        have := Int.mul_le_mul_of_nonneg_right (show b.2 - a.2 ≤ -1 by omega) (show 0 ≤ D by omega)
        omega
      · unfold sc; simp only
        rw [(hle _ _).1, (hle _ _).2, g1]
        rintro ⟨h1, h2, h3⟩
        have := Int.mul_le_mul_of_nonneg_right (show 1 ≤ b.2 - a.2 by omega) (show 0 ≤ D by omega)
        omega
    · cases h : onB (sc k a) (sc k b) (k * x.1 + D, k * x.2 + 1)
      · rfl
      · have := (onB_turn h).1; omega
  · have := Int.mul_le_mul_of_nonneg_left (show 1 ≤ turn a b x by omega) (show 0 ≤ k by omega)
    have hn : 0 < turn (sc k a) (sc k b) (k * x.1 + D, k * x.2 + 1) := by rw [ht, g1]; omega
    constructor
    · unfold cr
      refine if_iff ?_ rfl (if_iff ⟨fun h => by omega, fun h => by omega⟩ rfl rfl)
      unfold sc; simp only
      rw [(hle _ _).1, (hle _ _).2]
      unfold sc at hn
      exact ⟨fun h => ⟨h.1, h.2.1, t⟩, fun h => ⟨h.1, h.2.1, hn⟩⟩
    · cases h : onB (sc k a) (sc k b) (k * x.1 + D, k * x.2 + 1)
      · rfl
      · have := (onB_turn h).1; omega
theorem upper_bound (f : Nat → Int) : ∀ n : Nat, ∃ B : Int, 0 < B ∧ ∀ i, i < n → (f i).natAbs < B
  | 0 => ⟨1, by decide, fun i hi => by omega⟩
  | n + 1 => by
    obtain ⟨B, h0, h⟩ := upper_bound f n
    refine ⟨max B ((f n).natAbs + 1), by omega, fun i hi => ?_⟩
    by_cases c : i = n
    · subst c; omega
    · have := h i (by omega); omega
/-- Any point, on the border too, is gone round as what is on the left or on the right. -/
theorem Simple.around_any {p : Nat → Int × Int} {n : Nat} (h : Simple p n) (x : Int × Int) : wsum p n x = lam p n 0 ∨ wsum p n x = lam p n 0 - 1 := by
  have h3 := h.three
  obtain ⟨D, _, hD⟩ := upper_bound (fun i => (p (i + 1)).1 - (p i).1) n
  obtain ⟨k0, hk0⟩ := bound_all n (fun j hj => cr_near (p j) (p (j + 1)) x (h.ne_next j) D (hD j hj))
  have hk := hk0 (max k0 1) (by omega) (by omega)
  have hs := (h.scale (show 0 < max k0 1 by omega)).around (x := (max k0 1 * x.1 + D, max k0 1 * x.2 + 1)) (fun i hi => (hk i hi).2)
  rw [lam_scale h (by omega)] at hs
  have e : wsum (fun i => sc (max k0 1) (p i)) n (max k0 1 * x.1 + D, max k0 1 * x.2 + 1) = wsum p n x := sumN_congr fun i hi => (hk i hi).1
  rw [← e]; exact hs
theorem neg_inj {a b : Int × Int} (h : neg a = neg b) : a = b := by
  unfold neg at h
  rw [Prod.mk.injEq] at h
  exact Prod.ext (by omega) (by omega)
theorem dot_neg (a b c : Int × Int) : dot (neg a) (neg b) (neg c) = dot a b c := by unfold dot neg; grind
theorem onB_neg (a b x : Int × Int) : onB (neg a) (neg b) (neg x) = onB a b x := by unfold onB; rw [turn_neg, dot_neg]
theorem apart_neg {x y a b : Int × Int} (h : apart x y a b) : apart (neg x) (neg y) (neg a) (neg b) := by
  obtain ⟨h1, h2, h3, h4, h5⟩ := h
  refine ⟨by rw [onB_neg]; exact h1, by rw [onB_neg]; exact h2, by rw [onB_neg]; exact h3, by rw [onB_neg]; exact h4, ?_⟩
  rw [turn_neg, turn_neg, turn_neg, turn_neg]; exact h5
theorem Simple.neg {p : Nat → Int × Int} {n : Nat} (h : Simple p n) : Simple (fun i => neg (p i)) n := by
  refine ⟨h.three, fun i => by rw [h.per], fun i j hi hj e => h.inj i j hi hj (neg_inj e), fun i => ?_, fun i j hi hj h1 h2 h3 => apart_neg (h.free i j hi hj h1 h2 h3)⟩
  rw [turn_neg, dot_neg]; exact h.spike i
theorem up_neg {a b : Int × Int} (hab : a ≠ b) : up (neg a) (neg b) = 1 - up a b := by
  have : ¬ (a.2 = b.2 ∧ a.1 = b.1) := fun h => hab (Prod.ext h.2 h.1)
  unfold up neg
  simp only
  by_cases c : a.2 < b.2 ∨ (a.2 = b.2 ∧ b.1 < a.1)
  · rw [if_pos c, if_neg (by omega)]; rfl
  · rw [if_neg c, if_pos (by omega)]; rfl
/-- Rays to the left and to the right: what they meet differs by where the ends lie. -/
theorem cr_both {a b x : Int × Int} (h : onB a b x = false) : cr x a b - cr (neg x) (neg a) (neg b) = up x b - up x a := by
  have main : ∀ a b : Int × Int, a.2 ≤ b.2 → onB a b x = false → cr x a b - cr (Go.Proofs.Ythiemglckmociaa.neg x) (Go.Proofs.Ythiemglckmociaa.neg a) (Go.Proofs.Ythiemglckmociaa.neg b) = up x b - up x a := fun a b hab h => by
    have e1 : cr x a b = if a.2 ≤ x.2 ∧ x.2 < b.2 ∧ 0 < turn a b x then 1 else 0 := by
      unfold cr; split
      · rfl
      · rw [if_neg (by omega)]
    have e2 : cr (Go.Proofs.Ythiemglckmociaa.neg x) (Go.Proofs.Ythiemglckmociaa.neg a) (Go.Proofs.Ythiemglckmociaa.neg b) = if a.2 < x.2 ∧ x.2 ≤ b.2 ∧ turn a b x < 0 then -1 else 0 := by
      unfold cr
      rw [turn_neg, if_neg (by unfold Go.Proofs.Ythiemglckmociaa.neg; simp only; omega)]
      exact if_iff (by unfold Go.Proofs.Ythiemglckmociaa.neg; simp only; omega) rfl rfl
    rw [e1, e2]
    by_cases hl : a.2 = b.2
    · rw [if_neg (by omega), if_neg (by omega)]
      by_cases hx : a.2 = x.2
      · -- on one line: both ends on one side
        have ht : turn a b x = 0 := by unfold turn; rw [← hx, ← hl]; simp
        have hd := dot_pos_of_off h ht
        unfold dot at hd
        rw [hx, ← hl, hx] at hd
        simp only [Int.sub_self, Int.mul_zero, Int.add_zero] at hd
        unfold up
        rcases Int.lt_trichotomy (a.1 - x.1) 0 with c | c | c
        · have : b.1 - x.1 < 0 := by
            rcases Int.lt_or_le (b.1 - x.1) 0 with c' | c'
            · exact c'
            · have := mnp0 (Int.le_of_lt c) c'; omega
          rw [if_pos (by omega), if_pos (by omega)] <;> rfl
        · rw [c] at hd; simp at hd
        · have : 0 < b.1 - x.1 := by
            rcases Int.lt_or_le 0 (b.1 - x.1) with c' | c'
            · exact c'
            · have := mpn0 (Int.le_of_lt c) c'; omega
          rw [if_neg (by omega), if_neg (by omega)] <;> rfl
      · unfold up
        by_cases c : x.2 < b.2
        · rw [if_pos (by omega), if_pos (by omega)] <;> rfl
        · rw [if_neg (by omega), if_neg (by omega)] <;> rfl
    · have hlt : a.2 < b.2 := by omega
      have hoff : a.2 ≤ x.2 → x.2 ≤ b.2 → turn a b x ≠ 0 := fun h1 h2 h3 => by
        rw [on_y h3 h1 h2 hlt] at h; cases h
      have e : turn a b x = (x.2 - a.2) * (b.1 - x.1) + (b.2 - x.2) * (a.1 - x.1) := by unfold turn; grind
      unfold up
      by_cases c1 : x.2 < a.2
      · rw [if_neg (by omega), if_neg (by omega), if_pos (by omega), if_pos (by omega)] <;> rfl
      · by_cases c2 : b.2 < x.2
        · rw [if_neg (by omega), if_neg (by omega), if_neg (by omega), if_neg (by omega)] <;> rfl
        · have hne := hoff (by omega) (by omega)
          by_cases c3 : x.2 = a.2
          · have e3 : turn a b x = (a.1 - x.1) * (b.2 - x.2) := by rw [e, c3]; grind
            have hp : 0 < b.2 - x.2 := by omega
            rw [if_neg (c := a.2 < x.2 ∧ _) (by omega), if_pos (c := x.2 < b.2 ∨ _) (by omega)]
            rcases Int.lt_trichotomy (turn a b x) 0 with c | c | c
            · have := fneg (by rw [← e3]; exact c) hp
              rw [if_neg (by omega), if_pos (by omega)] <;> rfl
            · exact absurd c hne
            · have := fpos (by rw [← e3]; exact c) hp
              rw [if_pos (by omega), if_neg (by omega)] <;> rfl
          · by_cases c4 : x.2 = b.2
            · have e3 : turn a b x = (b.1 - x.1) * (x.2 - a.2) := by rw [e, c4]; grind
              have hp : 0 < x.2 - a.2 := by omega
              rw [if_neg (c := a.2 ≤ x.2 ∧ _) (by omega), if_neg (c := x.2 < a.2 ∨ _) (by omega)]
              rcases Int.lt_trichotomy (turn a b x) 0 with c | c | c
              · have := fneg (by rw [← e3]; exact c) hp
                rw [if_pos (by omega), if_pos (by omega)] <;> rfl
              · exact absurd c hne
              · have := fpos (by rw [← e3]; exact c) hp
                rw [if_neg (by omega), if_neg (by omega)] <;> rfl
            · rw [if_pos (c := x.2 < b.2 ∨ _) (by omega), if_neg (c := x.2 < a.2 ∨ _) (by omega)]
              rcases Int.lt_trichotomy (turn a b x) 0 with c | c | c
              · rw [if_neg (by omega), if_pos (by omega)] <;> rfl
              · exact absurd c hne
              · rw [if_pos (by omega), if_neg (by omega)] <;> rfl
  rcases Int.le_total a.2 b.2 with c | c
  · exact main a b c h
  · have := main b a c (by rw [onB_swap]; exact h)
    rw [cr_swap x a b, cr_swap (Go.Proofs.Ythiemglckmociaa.neg x) (Go.Proofs.Ythiemglckmociaa.neg a) (Go.Proofs.Ythiemglckmociaa.neg b)] at this
    omega
theorem up_inn {a b m : Int × Int} (h : inn a b m) : up m b = up a b ∧ up m a = 1 - up a b := by
  obtain ⟨h1, h2, h3⟩ := h
  obtain ⟨ht, hd⟩ := onB_turn h1
  obtain ⟨b1, b2⟩ := (on_iff ht).1 hd
  have ex : ∀ u v : Int × Int, u ≠ v → ¬ (u.1 = v.1 ∧ u.2 = v.2) := fun u v h e => h (Prod.ext e.1 e.2)
  have x1 := ex _ _ h2
  have x2 := ex _ _ h3
  have eA : (b.2 - a.2) * (m.1 - a.1) = (b.1 - a.1) * (m.2 - a.2) := by unfold turn at ht; omega
  have eB : (b.2 - a.2) * (b.1 - m.1) = (b.1 - a.1) * (b.2 - m.2) := by unfold turn at ht; grind
  have kA : b.2 ≠ a.2 → m.2 = a.2 → m.1 = a.1 := fun k1 k2 => by
    rw [k2] at eA; simp only [Int.sub_self, Int.mul_zero] at eA
    rcases Int.mul_eq_zero.1 eA with c | c <;> omega
  have kB : b.2 ≠ a.2 → m.2 = b.2 → m.1 = b.1 := fun k1 k2 => by
    rw [k2] at eB; simp only [Int.sub_self, Int.mul_zero] at eB
    rcases Int.mul_eq_zero.1 eB with c | c <;> omega
  clear eA eB
  unfold up
  rcases Int.lt_trichotomy a.2 b.2 with c | c | c
  · have := kA (by omega); have := kB (by omega)
    rw [if_pos (c := a.2 < b.2 ∨ _) (by omega), if_pos (by omega), if_neg (by omega)]; exact ⟨rfl, rfl⟩
  · by_cases d : b.1 < a.1
    · rw [if_pos (c := a.2 < b.2 ∨ _) (by omega), if_pos (by omega), if_neg (by omega)]; exact ⟨rfl, rfl⟩
    · rw [if_neg (c := a.2 < b.2 ∨ _) (by omega), if_neg (by omega), if_pos (by omega)]; exact ⟨rfl, rfl⟩
  · have := kA (by omega); have := kB (by omega)
    rw [if_neg (c := a.2 < b.2 ∨ _) (by omega), if_neg (by omega), if_pos (by omega)]; exact ⟨rfl, rfl⟩
/-- Inside a side: rays to the right and to the left. -/
theorem Simple.inside_both {p : Nat → Int × Int} {n : Nat} (h : Simple p n) {i : Nat} (hi : i < n) {m : Int × Int} (hm : inn (p i) (p (i + 1)) m) :
    wsum p n m - wsum (fun i => Go.Proofs.Ythiemglckmociaa.neg (p i)) n (Go.Proofs.Ythiemglckmociaa.neg m) = 1 - 2 * up (p i) (p (i + 1)) := by
  have h3 := h.three
  obtain ⟨u1, u2⟩ := up_inn hm
  have ht := (onB_turn hm.1).1
  have e := sumN_one (f := fun j => (cr m (p j) (p (j + 1)) - cr (Go.Proofs.Ythiemglckmociaa.neg m) (Go.Proofs.Ythiemglckmociaa.neg (p j)) (Go.Proofs.Ythiemglckmociaa.neg (p (j + 1)))) - (up m (p (j + 1)) - up m (p j))) (i := i) hi (fun j hj hij => by
    have := cr_both (h.inside_off hi hj hij hm)
    omega)
  have hper : p n = p 0 := by rw [show n = 0 + n by omega, h.per]
  rw [sumN_sub, sumN_sub, sumN_tele (fun j => up m (p j)), hper] at e
  simp only [cr_on ht, cr_on (show turn (Go.Proofs.Ythiemglckmociaa.neg (p i)) (Go.Proofs.Ythiemglckmociaa.neg (p (i + 1))) (Go.Proofs.Ythiemglckmociaa.neg m) = 0 by rw [turn_neg]; exact ht)] at e
  show sumN (fun i => cr m (p i) (p (i + 1))) n - sumN (fun i => cr (Go.Proofs.Ythiemglckmociaa.neg m) (Go.Proofs.Ythiemglckmociaa.neg (p i)) (Go.Proofs.Ythiemglckmociaa.neg (p (i + 1)))) n = _
  omega
theorem up_sc {k : Int} (hk : 0 < k) (a b : Int × Int) : up (sc k a) (sc k b) = up a b := by
  unfold up sc
  have a1 : k * a.2 < k * b.2 ↔ a.2 < b.2 := Int.mul_lt_mul_left hk
  have a2 : k * b.1 < k * a.1 ↔ b.1 < a.1 := Int.mul_lt_mul_left hk
  have a3 : k * a.2 = k * b.2 ↔ a.2 = b.2 := ⟨fun e => Int.eq_of_mul_eq_mul_left (show k ≠ 0 by omega) e, fun e => by rw [e]⟩
  exact if_iff (by simp only [a1, a2, a3]) rfl rfl
theorem sc_neg (k : Int) (a : Int × Int) : sc k (neg a) = neg (sc k a) := by unfold sc neg; simp only [Int.mul_neg]
theorem inn_neg {a b x : Int × Int} (h : inn a b x) : inn (neg a) (neg b) (neg x) := ⟨by rw [onB_neg]; exact h.1, fun e => h.2.1 (neg_inj e), fun e => h.2.2 (neg_inj e)⟩
theorem Simple.lam_neg {p : Nat → Int × Int} {n : Nat} (h : Simple p n) : lam (fun i => Go.Proofs.Ythiemglckmociaa.neg (p i)) n 0 = lam p n 0 := by
  have h3 := h.three
  have hm := mid_inn (h.ne_next 0)
  have e1 := (h.scale (show (0 : Int) < 2 by decide)).inside_both (show 0 < n by omega) hm
  have e2 := h.lam_eq 0 (show (0 : Int) < 2 by decide) hm
  have hmn := inn_neg hm
  rw [← sc_neg, ← sc_neg] at hmn
  have e3 := h.neg.lam_eq 0 (show (0 : Int) < 2 by decide) hmn
  have ef : (fun i => sc 2 (Go.Proofs.Ythiemglckmociaa.neg (p i))) = fun i => Go.Proofs.Ythiemglckmociaa.neg (sc 2 (p i)) := funext fun i => sc_neg _ _
  rw [up_sc (by decide)] at e1
  rw [up_neg (h.ne_next 0), ef] at e3
  omega
theorem Simple.bounded {p : Nat → Int × Int} {n : Nat} (h : Simple p n) : ∃ B : Nat, ∀ i, (-B ≤ (p i).1 ∧ (p i).1 ≤ B) ∧ -B ≤ (p i).2 ∧ (p i).2 ≤ B := by
  have h3 := h.three
  obtain ⟨B, b0, hB⟩ := upper_bound (fun i => (p i).1) n
  obtain ⟨C, c0, hC⟩ := upper_bound (fun i => (p i).2) n
  refine ⟨(max B C).toNat, fun i => ?_⟩
  have h1 := hB (i % n) (Nat.mod_lt _ (by omega))
  have h2 := hC (i % n) (Nat.mod_lt _ (by omega))
  rw [h.mod] at h1 h2
  omega
theorem area_sc (k : Int) (p : Nat → Int × Int) (n : Nat) : area (fun i => sc k (p i)) n = k * k * area p n := by
  unfold area
  rw [← sumN_mul]
  exact sumN_congr fun i _ => by unfold sc; grind
/-- The area's sign is that of the direction: twice the area is not 0. -/
theorem Simple.area_pos {p : Nat → Int × Int} {n : Nat} (h : Simple p n) : 0 < (2 * lam p n 0 - 1) * area p n := by
  have h3 := h.three
  have hs := h.scale (show (0 : Int) < 2 by decide)
  obtain ⟨B, hB⟩ := hs.bounded
  have hper : sc 2 (p n) = sc 2 (p 0) := by rw [show n = 0 + n by omega, h.per]
  have ea := area_points (p := fun i => sc 2 (p i)) (n := n) hper hB
  rw [area_sc] at ea
  have hl := lam_scale h (show (0 : Int) < 2 by decide)
  have hl01 := h.lam01
  have hln := hs.lam_neg
  rw [hl] at hln
  obtain ⟨s, hs1⟩ : ∃ s, s = 2 * lam p n 0 - 1 := ⟨_, rfl⟩
  rw [← hs1]
  have hpt : ∀ x, 0 ≤ s * (wsum (fun i => sc 2 (p i)) n x + wsum (fun i => Go.Proofs.Ythiemglckmociaa.neg (sc 2 (p i))) n (Go.Proofs.Ythiemglckmociaa.neg x)) := fun x => by
    have a1 := hs.around_any x
    have a2 := hs.neg.around_any (Go.Proofs.Ythiemglckmociaa.neg x)
    rw [hl] at a1
    rw [hln] at a2
    rcases hl01 with c | c
    · rw [hs1, c]; simp only [c] at a1 a2; omega
    · rw [hs1, c]; simp only [c] at a1 a2; omega
  -- the middle of the first side
  obtain ⟨m, hm⟩ : ∃ m, m = near 2 (p (0 + 1)) (p 0) := ⟨_, rfl⟩
  have hmi := mid_inn (h.ne_next 0)
  rw [← hm] at hmi
  have e1 := hs.inside_both (show 0 < n by omega) hmi
  rw [up_sc (by decide)] at e1
  have e2 := h.lam_eq 0 (show (0 : Int) < 2 by decide) hmi
  have hval : s * (wsum (fun i => sc 2 (p i)) n m + wsum (fun i => Go.Proofs.Ythiemglckmociaa.neg (sc 2 (p i))) n (Go.Proofs.Ythiemglckmociaa.neg m)) = 1 := by
    have : wsum (fun i => sc 2 (p i)) n m + wsum (fun i => Go.Proofs.Ythiemglckmociaa.neg (sc 2 (p i))) n (Go.Proofs.Ythiemglckmociaa.neg m) = s := by omega
    rw [this]
    rcases hl01 with c | c
    · rw [hs1, c]; rfl
    · rw [hs1, c]; rfl
  have hbox : (-B ≤ m.1 ∧ m.1 ≤ B) ∧ -B ≤ m.2 ∧ m.2 ≤ B := by
    obtain ⟨ht, hd⟩ := onB_turn hmi.1
    have := (on_iff ht).1 hd
    have := hB 0; have := hB (0 + 1)
    omega
  have hsum : 1 ≤ s * (2 * 2 * area p n) := by
    rw [← ea]
    have em : s * sum2 B (fun x => wsum (fun i => sc 2 (p i)) n x + wsum (fun i => Go.Proofs.Ythiemglckmociaa.neg (sc 2 (p i))) n (Go.Proofs.Ythiemglckmociaa.neg x)) =
        sum2 B (fun x => s * (wsum (fun i => sc 2 (p i)) n x + wsum (fun i => Go.Proofs.Ythiemglckmociaa.neg (sc 2 (p i))) n (Go.Proofs.Ythiemglckmociaa.neg x))) := by
      unfold sum2 sumB
      rw [← sumN_mul]
      exact sumN_congr fun i _ => by rw [← sumN_mul]
    rw [em, ← hval]
    unfold sum2 sumB
    obtain ⟨i, hi⟩ : ∃ i : Nat, (i : Int) = m.2 + B := ⟨(m.2 + B).toNat, by omega⟩
    obtain ⟨j, hj⟩ : ∃ j : Nat, (j : Int) = m.1 + B := ⟨(m.1 + B).toNat, by omega⟩
    have emm : (((j : Int) - B, (i : Int) - B) : Int × Int) = m := Prod.ext (by simp only; omega) (by simp only; omega)
    refine Int.le_trans ?_ (sumN_ge (i := i) (by omega) (fun i _ => sumN_nonneg fun j _ => hpt _))
    refine Int.le_trans ?_ (sumN_ge (i := j) (by omega) (fun j _ => hpt _))
    show _ ≤ s * (wsum (fun i => sc 2 (p i)) n ((j : Int) - B, (i : Int) - B) + wsum (fun i => Go.Proofs.Ythiemglckmociaa.neg (sc 2 (p i))) n (Go.Proofs.Ythiemglckmociaa.neg ((j : Int) - B, (i : Int) - B)))
    rw [emm]; exact Int.le_refl _
  have : s * (2 * 2 * area p n) = (s * area p n) * 4 := by grind
  omega
end Go.Proofs.Ythiemglckmociaa
