/- Plain geometry of plots with whole corners: how often a border goes round a point; what it meets first; the sign of the area. No program in sight. No conditions. -/
namespace Go.Proofs.Ythiemglckmociaa
theorem mpos {a b : Int} (ha : 0 < a) (hb : 0 < b) : 0 < a * b := Int.mul_pos ha hb
/-- Twice the area of a triangle, above 0 if c is on the left of the way from a to b. -/
def turn (a b c : Int × Int) : Int := (b.1 - a.1) * (c.2 - a.2) - (b.2 - a.2) * (c.1 - a.1)
def dot (a b c : Int × Int) : Int := (b.1 - a.1) * (c.1 - a.1) + (b.2 - a.2) * (c.2 - a.2)
def onB (a b x : Int × Int) : Bool := turn a b x == 0 && decide (dot x a b ≤ 0)
/-- How a ray to the right from x meets the way from a to b. -/
def cr (x a b : Int × Int) : Int :=
  if a.2 ≤ x.2 ∧ x.2 < b.2 ∧ 0 < turn a b x then 1 else if b.2 ≤ x.2 ∧ x.2 < a.2 ∧ turn a b x < 0 then -1 else 0
theorem pos_of_mul_pos {a b : Int} (h : 0 < a * b) (hb : 0 < b) : 0 < a := by
  rcases Int.lt_trichotomy a 0 with h1 | h1 | h1
  · have := Int.mul_neg_of_neg_of_pos h1 hb; omega
  · subst h1; simp at h
  · exact h1
theorem neg_of_mul_neg {a b : Int} (h : a * b < 0) (hb : 0 < b) : a < 0 := by
  rcases Int.lt_trichotomy a 0 with h1 | h1 | h1
  · exact h1
  · subst h1; simp at h
  · have := Int.mul_pos h1 hb; omega
theorem turn_swap (a b x : Int × Int) : turn b a x = - turn a b x := by unfold turn; grind
theorem turn_rot (a b c : Int × Int) : turn b c a = turn a b c := by unfold turn; grind
theorem cr_swap (x a b : Int × Int) : cr x b a = - cr x a b := by
  unfold cr; rw [turn_swap]; split <;> split <;> (try split) <;> omega
theorem id2 (a b x y : Int × Int) (c : Int) : turn x y a * (b.2 - c) - turn x y b * (a.2 - c) = turn a b y * (x.2 - c) - turn a b x * (y.2 - c) := by
  unfold turn; grind
theorem id1 (a b x y : Int × Int) (c : Int) : turn x y a * (b.1 - c) - turn x y b * (a.1 - c) = turn a b y * (x.1 - c) - turn a b x * (y.1 - c) := by
  unfold turn; grind
theorem id0 (a b x y : Int × Int) : turn x y a - turn x y b = turn a b y - turn a b x := by unfold turn; grind
theorem nonpos_both {d1 d2 e1 e2 : Int} (h : d1 * e2 = d2 * e1) (hd : d1 * e1 + d2 * e2 ≤ 0) : d1 * e1 ≤ 0 ∧ d2 * e2 ≤ 0 := by
  have hs : (d1 * e1) * (d2 * e2) = (d1 * e2) * (d1 * e2) := by
    have : (d1 * e1) * (d2 * e2) = (d1 * e2) * (d2 * e1) := by grind
    rw [this, ← h]
  have hq : 0 ≤ (d1 * e2) * (d1 * e2) := by
    rcases Int.le_total 0 (d1 * e2) with k | k
    · exact Int.mul_nonneg k k
    · exact Int.mul_nonneg_of_nonpos_of_nonpos k k
  constructor
  · rcases Int.lt_or_le 0 (d1 * e1) with k | k
    · have : d2 * e2 < 0 := by omega
      have := Int.mul_neg_of_pos_of_neg k this
      omega
    · exact k
  · rcases Int.lt_or_le 0 (d2 * e2) with k | k
    · have : d1 * e1 < 0 := by omega
      have := Int.mul_neg_of_neg_of_pos this k
      omega
    · exact k
theorem between_iff {a b x : Int} : (a - x) * (b - x) ≤ 0 ↔ min a b ≤ x ∧ x ≤ max a b := by
  constructor
  · intro h
    rcases Int.lt_or_le x (min a b) with k | k
    · have := Int.mul_pos (a := a - x) (b := b - x) (by omega) (by omega); omega
    · rcases Int.lt_or_le (max a b) x with k' | k'
      · have := Int.mul_pos_of_neg_of_neg (a := a - x) (b := b - x) (by omega) (by omega); omega
      · exact ⟨k, k'⟩
  · intro ⟨h1, h2⟩
    rcases Int.le_total a x with k | k
    · rcases Int.le_total x b with k' | k'
      · exact Int.mul_nonpos_of_nonpos_of_nonneg (by omega) (by omega)
      · by_cases e : a = x
        · subst e; simp
        · have : b = x := by omega
          subst this; simp
    · rcases Int.le_total b x with k' | k'
      · exact Int.mul_nonpos_of_nonneg_of_nonpos (by omega) (by omega)
      · by_cases e : a = x
        · subst e; simp
        · have : b = x := by omega
          subst this; simp
/-- On a side: by the scalar product, or by the box. -/
theorem on_iff {a b x : Int × Int} (h : turn a b x = 0) : dot x a b ≤ 0 ↔ (min a.1 b.1 ≤ x.1 ∧ x.1 ≤ max a.1 b.1) ∧ (min a.2 b.2 ≤ x.2 ∧ x.2 ≤ max a.2 b.2) := by
  rw [← between_iff, ← between_iff]
  unfold dot
  constructor
  · intro hd; exact nonpos_both (by unfold turn at h; grind) hd
  · intro ⟨h1, h2⟩; omega
theorem on_y {a b x : Int × Int} (h : turn a b x = 0) (h1 : a.2 ≤ x.2) (h2 : x.2 ≤ b.2) (h3 : a.2 < b.2) : onB a b x = true := by
  unfold onB
  rw [Bool.and_eq_true]
  refine ⟨by simpa using h, decide_eq_true ?_⟩
  unfold dot
  have e : (a.1 - x.1) * (b.2 - x.2) = (a.2 - x.2) * (b.1 - x.1) := by unfold turn at h; grind
  by_cases hb : b.2 = x.2
  · have e2 : (a.2 - x.2) * (b.1 - x.1) = 0 := by rw [← e, hb]; simp
    have : b.1 - x.1 = 0 := by
      rcases Int.mul_eq_zero.1 e2 with k | k
      · omega
      · exact k
    rw [this, hb]; simp
  · have hp : 0 < b.2 - x.2 := by omega
    have e3 : ((a.1 - x.1) * (b.1 - x.1) + (a.2 - x.2) * (b.2 - x.2)) * (b.2 - x.2) = (a.2 - x.2) * ((b.1 - x.1) * (b.1 - x.1) + (b.2 - x.2) * (b.2 - x.2)) := by grind
    have q1 : 0 ≤ (b.1 - x.1) * (b.1 - x.1) := by
      rcases Int.le_total 0 (b.1 - x.1) with k | k
      · exact Int.mul_nonneg k k
      · exact Int.mul_nonneg_of_nonpos_of_nonpos k k
    have q2 := Int.mul_nonneg (Int.le_of_lt hp) (Int.le_of_lt hp)
    have q3 : (a.2 - x.2) * ((b.1 - x.1) * (b.1 - x.1) + (b.2 - x.2) * (b.2 - x.2)) ≤ 0 := Int.mul_nonpos_of_nonpos_of_nonneg (by omega) (by omega)
    rw [← e3] at q3
    rcases Int.lt_or_le 0 ((a.1 - x.1) * (b.1 - x.1) + (a.2 - x.2) * (b.2 - x.2)) with k | k
    · have := Int.mul_pos k hp; omega
    · exact k
theorem on_x {a b x : Int × Int} (h1 : a.2 = x.2) (h2 : x.2 = b.2) (h3 : (a.1 - x.1) * (b.1 - x.1) ≤ 0) : onB a b x = true := by
  unfold onB
  rw [Bool.and_eq_true]
  refine ⟨by unfold turn; rw [← h2, h1]; simp, decide_eq_true ?_⟩
  unfold dot
  rw [h1]; simpa using h3
theorem mpp {a b : Int} (ha : 0 < a) (hb : 0 < b) : 0 < a * b := Int.mul_pos ha hb
theorem mnn {a b : Int} (ha : a < 0) (hb : b < 0) : 0 < a * b := Int.mul_pos_of_neg_of_neg ha hb
theorem mpn {a b : Int} (ha : 0 < a) (hb : b < 0) : a * b < 0 := Int.mul_neg_of_pos_of_neg ha hb
theorem mnp {a b : Int} (ha : a < 0) (hb : 0 < b) : a * b < 0 := Int.mul_neg_of_neg_of_pos ha hb
theorem mpp0 {a b : Int} (ha : 0 ≤ a) (hb : 0 ≤ b) : 0 ≤ a * b := Int.mul_nonneg ha hb
theorem mnn0 {a b : Int} (ha : a ≤ 0) (hb : b ≤ 0) : 0 ≤ a * b := Int.mul_nonneg_of_nonpos_of_nonpos ha hb
theorem mpn0 {a b : Int} (ha : 0 ≤ a) (hb : b ≤ 0) : a * b ≤ 0 := Int.mul_nonpos_of_nonneg_of_nonpos ha hb
theorem mnp0 {a b : Int} (ha : a ≤ 0) (hb : 0 ≤ b) : a * b ≤ 0 := Int.mul_nonpos_of_nonpos_of_nonneg ha hb
/-- Signs of a factor. -/
theorem fpos {a b : Int} (h : 0 < a * b) (hb : 0 < b) : 0 < a := pos_of_mul_pos h hb
theorem fneg {a b : Int} (h : a * b < 0) (hb : 0 < b) : a < 0 := neg_of_mul_neg h hb
/-- The sides from a to b and from x to y have no point in common. -/
def apart (x y a b : Int × Int) : Prop :=
  onB a b x = false ∧ onB a b y = false ∧ onB x y a = false ∧ onB x y b = false ∧
    ¬ (turn x y a * turn x y b < 0 ∧ turn a b x * turn a b y < 0)
theorem onB_swap (a b x : Int × Int) : onB b a x = onB a b x := by
  unfold onB
  have h1 : (turn b a x == 0) = (turn a b x == 0) := by rw [turn_swap]; rw [Bool.eq_iff_iff]; simp
  have h2 : dot x b a = dot x a b := by unfold dot; grind
  rw [h1, h2]
theorem apart_swap {x y a b : Int × Int} (h : apart x y a b) : apart x y b a := by
  obtain ⟨h1, h2, h3, h4, h5⟩ := h
  refine ⟨by rw [onB_swap]; exact h1, by rw [onB_swap]; exact h2, h4, h3, ?_⟩
  rw [turn_swap a b x, turn_swap a b y]
  rw [Int.mul_comm (turn x y b), Int.neg_mul_neg]
  exact h5
/-- The region above x and not above y, on the right of the way from x to y. -/
def reg (x y v : Int × Int) : Int := if x.2 < v.2 ∧ v.2 ≤ y.2 ∧ turn x y v < 0 then 1 else 0
theorem cross_up {x y a b : Int × Int} (hxy : x.2 ≤ y.2) (hab : a.2 ≤ b.2) (hap : apart x y a b) : cr x a b - cr y a b = reg x y b - reg x y a := by
  obtain ⟨n1, n2, n3, n4, n5⟩ := hap
  have c1 : ∀ z : Int × Int, cr z a b = if a.2 ≤ z.2 ∧ z.2 < b.2 ∧ 0 < turn a b z then 1 else 0 := by
    intro z; unfold cr; split
    · rfl
    · split <;> omega
  rw [c1, c1]
  unfold reg
  have i0 := id0 a b x y
  have ip := id2 a b x y x.2
  have iq := id2 a b x y y.2
  have ia := id2 a b x y a.2
  have ib := id2 a b x y b.2
  simp only [Int.sub_self, Int.mul_zero, Int.zero_sub, Int.sub_zero] at ip iq ia ib
  -- x and y are not on the line a b where that is between the ends
  have sx : a.2 ≤ x.2 → x.2 < b.2 → turn a b x ≠ 0 := fun h1 h2 h3 => by
    rw [on_y h3 h1 (by omega) (by omega)] at n1; cases n1
  have sy : a.2 ≤ y.2 → y.2 < b.2 → turn a b y ≠ 0 := fun h1 h2 h3 => by
    rw [on_y h3 h1 (by omega) (by omega)] at n2; cases n2
  have ta : x.2 < a.2 → a.2 ≤ y.2 → turn x y a ≠ 0 := fun h1 h2 h3 => by
    rw [on_y h3 (by omega) h2 (by omega)] at n3; cases n3
  have tb : x.2 < b.2 → b.2 ≤ y.2 → turn x y b ≠ 0 := fun h1 h2 h3 => by
    rw [on_y h3 (by omega) h2 (by omega)] at n4; cases n4
  generalize hTA : turn x y a = TA at *
  generalize hTB : turn x y b = TB at *
  generalize hSX : turn a b x = SX at *
  generalize hSY : turn a b y = SY at *
  by_cases c1 : b.2 ≤ x.2
  · rw [if_neg (by omega), if_neg (by omega), if_neg (by omega), if_neg (by omega)]
  by_cases c2 : y.2 < a.2
  · rw [if_neg (by omega), if_neg (by omega), if_neg (by omega), if_neg (by omega)]
  by_cases c3 : a.2 ≤ x.2
  · by_cases c4 : y.2 < b.2
    · -- both points in the strip of the side
      have hx := sx c3 (by omega)
      have hy := sy (by omega) c4
      have key : ¬ (0 < SX ∧ SY < 0) ∧ ¬ (SX < 0 ∧ 0 < SY) := by
        constructor
        · rintro ⟨k1, k2⟩
          have e1 := mnn k2 (b := x.2 - b.2) (by omega)
          have e2 := mpn k1 (b := y.2 - b.2) (by omega)
          have e3 : 0 < TB * (b.2 - a.2) := by
            have : TB * (b.2 - a.2) = -(TB * (a.2 - b.2)) := by grind
            omega
          have h1 := fpos e3 (by omega)
          have e4 := mnp0 (Int.le_of_lt k2) (b := x.2 - a.2) (by omega)
          have e5 := mpp0 (Int.le_of_lt k1) (b := y.2 - a.2) (by omega)
          by_cases z : TA = 0
          · subst z
            simp at ia
            have z1 : SX * (y.2 - a.2) = 0 := by omega
            have z2 : y.2 - a.2 = 0 := by
              rcases Int.mul_eq_zero.1 z1 with k | k
              · omega
              · exact k
            have : onB x y a = true := on_x (by omega) (by omega) (by
              have g1 : SX = - ((b.2 - a.2) * (x.1 - a.1)) := by rw [← hSX]; unfold turn; rw [show x.2 - a.2 = 0 by omega]; simp
              have g2 : SY = - ((b.2 - a.2) * (y.1 - a.1)) := by rw [← hSY]; unfold turn; rw [show y.2 - a.2 = 0 by omega]; simp
              have g3 : (x.1 - a.1) * (b.2 - a.2) < 0 := by rw [Int.mul_comm]; omega
              have g4 : 0 < (y.1 - a.1) * (b.2 - a.2) := by rw [Int.mul_comm]; omega
              exact Int.le_of_lt (mnp (fneg g3 (by omega)) (fpos g4 (by omega))))
            rw [this] at n3; cases n3
          · have h2 : TA < 0 := by
              have : TA * (b.2 - a.2) < 0 ∨ TA * (b.2 - a.2) = 0 := by omega
              rcases this with k | k
              · exact fneg k (by omega)
              · rcases Int.mul_eq_zero.1 k with k | k <;> omega
            exact n5 ⟨mnp h2 h1, mpn k1 k2⟩
        · rintro ⟨k1, k2⟩
          have e1 := mpn k2 (b := x.2 - b.2) (by omega)
          have e2 := mnn k1 (b := y.2 - b.2) (by omega)
          have e3 : TB * (b.2 - a.2) < 0 := by
            have : TB * (b.2 - a.2) = -(TB * (a.2 - b.2)) := by grind
            omega
          have h1 := fneg e3 (by omega)
          have e4 := mpp0 (Int.le_of_lt k2) (b := x.2 - a.2) (by omega)
          have e5 := mnp0 (Int.le_of_lt k1) (b := y.2 - a.2) (by omega)
          by_cases z : TA = 0
          · subst z
            simp at ia
            have z1 : SX * (y.2 - a.2) = 0 := by omega
            have z2 : y.2 - a.2 = 0 := by
              rcases Int.mul_eq_zero.1 z1 with k | k
              · omega
              · exact k
            have : onB x y a = true := on_x (by omega) (by omega) (by
              have g1 : SX = - ((b.2 - a.2) * (x.1 - a.1)) := by rw [← hSX]; unfold turn; rw [show x.2 - a.2 = 0 by omega]; simp
              have g2 : SY = - ((b.2 - a.2) * (y.1 - a.1)) := by rw [← hSY]; unfold turn; rw [show y.2 - a.2 = 0 by omega]; simp
              have g3 : 0 < (x.1 - a.1) * (b.2 - a.2) := by rw [Int.mul_comm]; omega
              have g4 : (y.1 - a.1) * (b.2 - a.2) < 0 := by rw [Int.mul_comm]; omega
              exact Int.le_of_lt (mpn (fpos g3 (by omega)) (fneg g4 (by omega))))
            rw [this] at n3; cases n3
          · have h2 : 0 < TA := by
              have : 0 < TA * (b.2 - a.2) ∨ TA * (b.2 - a.2) = 0 := by omega
              rcases this with k | k
              · exact fpos k (by omega)
              · rcases Int.mul_eq_zero.1 k with k | k <;> omega
            exact n5 ⟨mpn h2 h1, mnp k1 k2⟩
      rw [if_neg (c := x.2 < b.2 ∧ _) (by omega), if_neg (c := x.2 < a.2 ∧ _) (by omega)]
      by_cases k : 0 < SX
      · rw [if_pos (by omega), if_pos (by omega)]; (try omega)
      · rw [if_neg (by omega), if_neg (by omega)]
    · -- a, x, b, y
      have hx := sx c3 (by omega)
      have hb := tb (by omega) (by omega)
      have key : ¬ (0 < SX ∧ 0 < TB) ∧ ¬ (SX < 0 ∧ TB < 0) := by
        constructor
        · rintro ⟨k1, k2⟩
          have e1 := mpp0 (Int.le_of_lt k2) (b := x.2 - a.2) (by omega)
          have e1' : TB * (a.2 - x.2) = -(TB * (x.2 - a.2)) := by grind
          have e2 := mpp k1 (b := y.2 - x.2) (by omega)
          have h1 : TA < 0 := fneg (b := b.2 - x.2) (by omega) (by omega)
          have e3 := mpp k2 (b := b.2 - a.2) (by omega)
          have e3' : TB * (a.2 - b.2) = -(TB * (b.2 - a.2)) := by grind
          have e4 := mpp0 (Int.le_of_lt k1) (b := y.2 - b.2) (by omega)
          have e5 : SY * (b.2 - x.2) < 0 := by
            have : SY * (b.2 - x.2) = -(SY * (x.2 - b.2)) := by grind
            omega
          have h2 := fneg e5 (by omega)
          exact n5 ⟨mnp h1 k2, mpn k1 h2⟩
        · rintro ⟨k1, k2⟩
          have e1 := mnp0 (Int.le_of_lt k2) (b := x.2 - a.2) (by omega)
          have e1' : TB * (a.2 - x.2) = -(TB * (x.2 - a.2)) := by grind
          have e2 := mnp k1 (b := y.2 - x.2) (by omega)
          have h1 : 0 < TA := fpos (b := b.2 - x.2) (by omega) (by omega)
          have e3 := mnp k2 (b := b.2 - a.2) (by omega)
          have e3' : TB * (a.2 - b.2) = -(TB * (b.2 - a.2)) := by grind
          have e4 := mnp0 (Int.le_of_lt k1) (b := y.2 - b.2) (by omega)
          have e5 : 0 < SY * (b.2 - x.2) := by
            have : SY * (b.2 - x.2) = -(SY * (x.2 - b.2)) := by grind
            omega
          have h2 := fpos e5 (by omega)
          exact n5 ⟨mpn h1 k2, mnp k1 h2⟩
      rw [if_neg (c := a.2 ≤ y.2 ∧ _) (by omega), if_neg (c := x.2 < a.2 ∧ _) (by omega)]
      by_cases k : 0 < SX
      · rw [if_pos (by omega), if_pos (by omega)]; (try omega)
      · rw [if_neg (by omega), if_neg (by omega)]
  · by_cases c4 : y.2 < b.2
    · -- x, a, y, b
      have hy := sy (by omega) c4
      have ha := ta (by omega) (by omega)
      have key : ¬ (0 < SY ∧ 0 < TA) ∧ ¬ (SY < 0 ∧ TA < 0) := by
        constructor
        · rintro ⟨k1, k2⟩
          have e1 := mpn k1 (b := x.2 - y.2) (by omega)
          have e2 := mpp k2 (b := b.2 - y.2) (by omega)
          have e3 : TB * (y.2 - a.2) < 0 := by
            have : TB * (y.2 - a.2) = -(TB * (a.2 - y.2)) := by grind
            omega
          have h1 : TB < 0 := by
            by_cases z : y.2 = a.2
            · rw [z] at e3; simp at e3
            · exact fneg e3 (by omega)
          have e4 := mpn k1 (b := x.2 - a.2) (by omega)
          have e5 := mpp k2 (b := b.2 - a.2) (by omega)
          have e6 : SX * (y.2 - a.2) < 0 := by omega
          have h2 : SX < 0 := by
            by_cases z : y.2 = a.2
            · rw [z] at e6; simp at e6
            · exact fneg e6 (by omega)
          exact n5 ⟨mpn k2 h1, mnp h2 k1⟩
        · rintro ⟨k1, k2⟩
          have e1 := mnn k1 (b := x.2 - y.2) (by omega)
          have e2 := mnp k2 (b := b.2 - y.2) (by omega)
          have e3 : 0 < TB * (y.2 - a.2) := by
            have : TB * (y.2 - a.2) = -(TB * (a.2 - y.2)) := by grind
            omega
          have h1 : 0 < TB := by
            by_cases z : y.2 = a.2
            · rw [z] at e3; simp at e3
            · exact fpos e3 (by omega)
          have e4 := mnn k1 (b := x.2 - a.2) (by omega)
          have e5 := mnp k2 (b := b.2 - a.2) (by omega)
          have e6 : 0 < SX * (y.2 - a.2) := by omega
          have h2 : 0 < SX := by
            by_cases z : y.2 = a.2
            · rw [z] at e6; simp at e6
            · exact fpos e6 (by omega)
          exact n5 ⟨mnp k2 h1, mpn h2 k1⟩
      rw [if_neg (c := a.2 ≤ x.2 ∧ _) (by omega), if_neg (c := x.2 < b.2 ∧ b.2 ≤ y.2 ∧ _) (by omega)]
      by_cases k : 0 < SY
      · rw [if_pos (by omega), if_pos (by omega)]; (try omega)
      · rw [if_neg (by omega), if_neg (by omega)]
    · -- both ends in the strip of the points
      have ha := ta (by omega) (by omega)
      have hb := tb (by omega) (by omega)
      have key : ¬ (0 < TA ∧ TB < 0) ∧ ¬ (TA < 0 ∧ 0 < TB) := by
        constructor
        · rintro ⟨k1, k2⟩
          have e1 := mpp k1 (b := b.2 - x.2) (by omega)
          have e2 := mnp k2 (b := a.2 - x.2) (by omega)
          have h1 : SX < 0 := fneg (b := y.2 - x.2) (by omega) (by omega)
          have e3 := mpn0 (Int.le_of_lt k1) (b := b.2 - y.2) (by omega)
          have e4 := mnn0 (Int.le_of_lt k2) (b := a.2 - y.2) (by omega)
          have e5 : SY * (y.2 - x.2) = -(SY * (x.2 - y.2)) := by grind
          by_cases z : SY = 0
          · subst z
            simp at iq
            have z1 : TB * (a.2 - y.2) = 0 := by omega
            have z2 : a.2 - y.2 = 0 := by
              rcases Int.mul_eq_zero.1 z1 with k | k
              · omega
              · exact k
            have : onB a b y = true := on_x (by omega) (by omega) (by
              have g1 : TA = - ((y.2 - x.2) * (a.1 - x.1)) + (y.1 - x.1) * (y.2 - x.2) := by rw [← hTA]; unfold turn; rw [show a.2 = y.2 by omega]; grind
              have g2 : TB = - ((y.2 - x.2) * (b.1 - x.1)) + (y.1 - x.1) * (y.2 - x.2) := by rw [← hTB]; unfold turn; rw [show b.2 = y.2 by omega]; grind
              have g3 : (a.1 - y.1) * (y.2 - x.2) < 0 := by
                have : (a.1 - y.1) * (y.2 - x.2) = - TA := by rw [g1]; grind
                omega
              have g4 : 0 < (b.1 - y.1) * (y.2 - x.2) := by
                have : (b.1 - y.1) * (y.2 - x.2) = - TB := by rw [g2]; grind
                omega
              exact Int.le_of_lt (mnp (fneg g3 (by omega)) (fpos g4 (by omega))))
            rw [this] at n2; cases n2
          · have h2 : 0 < SY := by
              have : 0 < SY * (y.2 - x.2) ∨ SY * (y.2 - x.2) = 0 := by omega
              rcases this with k | k
              · exact fpos k (by omega)
              · rcases Int.mul_eq_zero.1 k with k | k <;> omega
            exact n5 ⟨mpn k1 k2, mnp h1 h2⟩
        · rintro ⟨k1, k2⟩
          have e1 := mnp k1 (b := b.2 - x.2) (by omega)
          have e2 := mpp k2 (b := a.2 - x.2) (by omega)
          have h1 : 0 < SX := fpos (b := y.2 - x.2) (by omega) (by omega)
          have e3 := mnn0 (Int.le_of_lt k1) (b := b.2 - y.2) (by omega)
          have e4 := mpn0 (Int.le_of_lt k2) (b := a.2 - y.2) (by omega)
          have e5 : SY * (y.2 - x.2) = -(SY * (x.2 - y.2)) := by grind
          by_cases z : SY = 0
          · subst z
            simp at iq
            have z1 : TB * (a.2 - y.2) = 0 := by omega
            have z2 : a.2 - y.2 = 0 := by
              rcases Int.mul_eq_zero.1 z1 with k | k
              · omega
              · exact k
            have : onB a b y = true := on_x (by omega) (by omega) (by
              have g1 : TA = - ((y.2 - x.2) * (a.1 - x.1)) + (y.1 - x.1) * (y.2 - x.2) := by rw [← hTA]; unfold turn; rw [show a.2 = y.2 by omega]; grind
              have g2 : TB = - ((y.2 - x.2) * (b.1 - x.1)) + (y.1 - x.1) * (y.2 - x.2) := by rw [← hTB]; unfold turn; rw [show b.2 = y.2 by omega]; grind
              have g3 : 0 < (a.1 - y.1) * (y.2 - x.2) := by
                have : (a.1 - y.1) * (y.2 - x.2) = - TA := by rw [g1]; grind
                omega
              have g4 : (b.1 - y.1) * (y.2 - x.2) < 0 := by
                have : (b.1 - y.1) * (y.2 - x.2) = - TB := by rw [g2]; grind
                omega
              exact Int.le_of_lt (mpn (fpos g3 (by omega)) (fneg g4 (by omega))))
            rw [this] at n2; cases n2
          · have h2 : SY < 0 := by
              have : SY * (y.2 - x.2) < 0 ∨ SY * (y.2 - x.2) = 0 := by omega
              rcases this with k | k
              · exact fneg k (by omega)
              · rcases Int.mul_eq_zero.1 k with k | k <;> omega
            exact n5 ⟨mnp k1 k2, mpn h1 h2⟩
      rw [if_neg (c := a.2 ≤ x.2 ∧ _) (by omega), if_neg (c := a.2 ≤ y.2 ∧ _) (by omega)]
      by_cases k : TA < 0
      · rw [if_pos (by omega), if_pos (by omega)]; rfl
      · rw [if_neg (by omega), if_neg (by omega)]
/-- A ray that moves along a way that a side does not touch: what it crosses changes as the side's ends leave a region. -/
theorem cross {x y a b : Int × Int} (hxy : x.2 ≤ y.2) (hap : apart x y a b) : cr x a b - cr y a b = reg x y b - reg x y a := by
  rcases Int.le_total a.2 b.2 with h | h
  · exact cross_up hxy h hap
  · have := cross_up hxy h (apart_swap hap)
    rw [cr_swap x, cr_swap y] at this; omega
/-- A line with both ends of one side on one side of it, and both ends of the other strictly on the other side. -/
theorem seg_le {a b x : Int × Int} {u v g : Int} (h : onB a b x = true) (ha : u * a.1 + v * a.2 + g ≤ 0) (hb : u * b.1 + v * b.2 + g ≤ 0) : u * x.1 + v * x.2 + g ≤ 0 := by
  unfold onB at h
  rw [Bool.and_eq_true] at h
  obtain ⟨h1, h2⟩ := h
  have h1 : turn a b x = 0 := by simpa using h1
  have h2 := of_decide_eq_true h2
  have key : ((b.1 - a.1) * (b.1 - a.1) + (b.2 - a.2) * (b.2 - a.2)) * (u * x.1 + v * x.2 + g) =
      ((b.1 - x.1) * (b.1 - a.1) + (b.2 - x.2) * (b.2 - a.2)) * (u * a.1 + v * a.2 + g) + ((x.1 - a.1) * (b.1 - a.1) + (x.2 - a.2) * (b.2 - a.2)) * (u * b.1 + v * b.2 + g) := by
    unfold turn at h1; grind
  have sq : ∀ z : Int, 0 ≤ z * z := fun z => by
    rcases Int.le_total 0 z with k | k
    · exact mpp0 k k
    · exact mnn0 k k
  unfold dot at h2
  have c1 : 0 ≤ (b.1 - x.1) * (b.1 - a.1) + (b.2 - x.2) * (b.2 - a.2) := by
    have := sq (b.1 - x.1); have := sq (b.2 - x.2)
    have e : (b.1 - x.1) * (b.1 - a.1) + (b.2 - x.2) * (b.2 - a.2) = (b.1 - x.1) * (b.1 - x.1) + (b.2 - x.2) * (b.2 - x.2) - ((a.1 - x.1) * (b.1 - x.1) + (a.2 - x.2) * (b.2 - x.2)) := by grind
    omega
  have c2 : 0 ≤ (x.1 - a.1) * (b.1 - a.1) + (x.2 - a.2) * (b.2 - a.2) := by
    have := sq (x.1 - a.1); have := sq (x.2 - a.2)
    have e : (x.1 - a.1) * (b.1 - a.1) + (x.2 - a.2) * (b.2 - a.2) = (x.1 - a.1) * (x.1 - a.1) + (x.2 - a.2) * (x.2 - a.2) - ((a.1 - x.1) * (b.1 - x.1) + (a.2 - x.2) * (b.2 - x.2)) := by grind
    omega
  have e1 := mpn0 c1 ha
  have e2 := mpn0 c2 hb
  rcases Int.lt_or_le 0 (u * x.1 + v * x.2 + g) with k | k
  · have p : (b.1 - a.1) * (b.1 - a.1) + (b.2 - a.2) * (b.2 - a.2) = 0 := by
      have q1 := sq (b.1 - a.1); have q2 := sq (b.2 - a.2)
      rcases Int.lt_or_le 0 ((b.1 - a.1) * (b.1 - a.1) + (b.2 - a.2) * (b.2 - a.2)) with k' | k'
      · have := mpp k' k; omega
      · omega
    have q1 := sq (b.1 - a.1); have q2 := sq (b.2 - a.2)
    have r1 : (b.1 - a.1) * (b.1 - a.1) = 0 := by omega
    have r2 : (b.2 - a.2) * (b.2 - a.2) = 0 := by omega
    have s1 : b.1 = a.1 := by rcases Int.mul_eq_zero.1 r1 with k | k <;> omega
    have s2 : b.2 = a.2 := by rcases Int.mul_eq_zero.1 r2 with k | k <;> omega
    rw [s1, s2] at h2
    have t1 := sq (a.1 - x.1); have t2 := sq (a.2 - x.2)
    have w1 : (a.1 - x.1) * (a.1 - x.1) = 0 := by omega
    have w2 : (a.2 - x.2) * (a.2 - x.2) = 0 := by omega
    have v1 : a.1 = x.1 := by rcases Int.mul_eq_zero.1 w1 with k | k <;> omega
    have v2 : a.2 = x.2 := by rcases Int.mul_eq_zero.1 w2 with k | k <;> omega
    rw [← v1, ← v2]; exact ha
  · exact k
theorem apart_of_sep {x y a b : Int × Int} {u v g : Int} (ha : u * a.1 + v * a.2 + g ≤ 0) (hb : u * b.1 + v * b.2 + g ≤ 0)
    (hx : 0 < u * x.1 + v * x.2 + g) (hy : 0 < u * y.1 + v * y.2 + g) : apart x y a b := by
  have n1 : onB a b x = false := by
    cases h : onB a b x
    · rfl
    · have := seg_le h ha hb; omega
  have n2 : onB a b y = false := by
    cases h : onB a b y
    · rfl
    · have := seg_le h ha hb; omega
  have rev : ∀ z, onB x y z = true → 0 < u * z.1 + v * z.2 + g := fun z hz => by
    have := seg_le (u := -u) (v := -v) (g := 1 - g) hz (by simp only [Int.neg_mul]; omega) (by simp only [Int.neg_mul]; omega)
    simp only [Int.neg_mul] at this; omega
  refine ⟨n1, n2, ?_, ?_, ?_⟩
  · cases h : onB x y a
    · rfl
    · have := rev a h; omega
  · cases h : onB x y b
    · rfl
    · have := rev b h; omega
  · rintro ⟨k1, k2⟩
    have key : turn x y a * (u * b.1 + v * b.2 + g) - turn x y b * (u * a.1 + v * a.2 + g) = turn a b y * (u * x.1 + v * x.2 + g) - turn a b x * (u * y.1 + v * y.2 + g) := by
      have h0 := id0 a b x y
      have h1 := id1 a b x y 0
      have h2 := id2 a b x y 0
      grind
    have h0 := id0 a b x y
    rcases Int.lt_trichotomy (turn x y a) 0 with p | p | p
    · have q : 0 < turn x y b := by
        rcases Int.lt_or_le 0 (turn x y b) with q | q
        · exact q
        · have := mnn0 (Int.le_of_lt p) q; omega
      have r : turn a b y < 0 ∧ 0 < turn a b x := by
        rcases Int.lt_trichotomy (turn a b x) 0 with r | r | r
        · have : 0 < turn a b y := by
            rcases Int.lt_or_le 0 (turn a b y) with q | q
            · exact q
            · have := mnn0 (Int.le_of_lt r) q; omega
          omega
        · rw [r] at k2; simp at k2
        · refine ⟨?_, r⟩
          rcases Int.lt_or_le (turn a b y) 0 with q | q
          · exact q
          · have := mpp0 (Int.le_of_lt r) q; omega
      have e1 := mnn0 (Int.le_of_lt p) hb
      have e2 := mpn0 (Int.le_of_lt q) ha
      have e3 := mnp r.1 hx
      have e4 := mpp r.2 hy
      omega
    · rw [p] at k1; simp at k1
    · have q : turn x y b < 0 := by
        rcases Int.lt_or_le (turn x y b) 0 with q | q
        · exact q
        · have := mpp0 (Int.le_of_lt p) q; omega
      have r : 0 < turn a b y ∧ turn a b x < 0 := by
        rcases Int.lt_trichotomy (turn a b x) 0 with r | r | r
        · refine ⟨?_, r⟩
          rcases Int.lt_or_le 0 (turn a b y) with q | q
          · exact q
          · have := mnn0 (Int.le_of_lt r) q; omega
        · rw [r] at k2; simp at k2
        · have : turn a b y < 0 := by
            rcases Int.lt_or_le (turn a b y) 0 with q | q
            · exact q
            · have := mpp0 (Int.le_of_lt r) q; omega
          omega
      have e1 := mpn0 (Int.le_of_lt p) hb
      have e2 := mnn0 (Int.le_of_lt q) ha
      have e3 := mpp r.1 hx
      have e4 := mnp r.2 hy
      omega
theorem sq0 (z : Int) : 0 ≤ z * z := by
  rcases Int.le_total 0 z with k | k
  · exact mpp0 k k
  · exact mnn0 k k
/-- A point that is not on a side is parted from it by a line. -/
theorem sep_of_off {a b x : Int × Int} (h : onB a b x = false) : ∃ u v g : Int, u * a.1 + v * a.2 + g ≤ 0 ∧ u * b.1 + v * b.2 + g ≤ 0 ∧ 0 < u * x.1 + v * x.2 + g := by
  rcases Int.lt_trichotomy (turn a b x) 0 with k | k | k
  · refine ⟨b.2 - a.2, a.1 - b.1, - (b.2 - a.2) * a.1 - (a.1 - b.1) * a.2, ?_, ?_, ?_⟩
    · grind
    · grind
    · unfold turn at k; grind
  · have hd : 0 < dot x a b := by
      unfold onB at h
      rw [k] at h
      simpa using h
    unfold dot at hd
    have q1 := sq0 (a.1 - x.1); have q2 := sq0 (a.2 - x.2)
    have q3 := sq0 (b.1 - x.1); have q4 := sq0 (b.2 - x.2)
    refine ⟨-(a.1 + b.1 - 2 * x.1), -(a.2 + b.2 - 2 * x.2), 1 + (a.1 + b.1 - 2 * x.1) * x.1 + (a.2 + b.2 - 2 * x.2) * x.2, ?_, ?_, ?_⟩
    · have : -(a.1 + b.1 - 2 * x.1) * a.1 + -(a.2 + b.2 - 2 * x.2) * a.2 + (1 + (a.1 + b.1 - 2 * x.1) * x.1 + (a.2 + b.2 - 2 * x.2) * x.2) =
        1 - ((a.1 - x.1) * (a.1 - x.1) + (a.2 - x.2) * (a.2 - x.2) + ((a.1 - x.1) * (b.1 - x.1) + (a.2 - x.2) * (b.2 - x.2))) := by grind
      omega
    · have : -(a.1 + b.1 - 2 * x.1) * b.1 + -(a.2 + b.2 - 2 * x.2) * b.2 + (1 + (a.1 + b.1 - 2 * x.1) * x.1 + (a.2 + b.2 - 2 * x.2) * x.2) =
        1 - ((b.1 - x.1) * (b.1 - x.1) + (b.2 - x.2) * (b.2 - x.2) + ((a.1 - x.1) * (b.1 - x.1) + (a.2 - x.2) * (b.2 - x.2))) := by grind
      omega
    · grind
  · refine ⟨a.2 - b.2, b.1 - a.1, - (a.2 - b.2) * a.1 - (b.1 - a.1) * a.2, ?_, ?_, ?_⟩
    · grind
    · grind
    · unfold turn at k; grind
/-- A point with larger coordinates. -/
def sc (k : Int) (a : Int × Int) : Int × Int := (k * a.1, k * a.2)
/-- Near a point that is not on a side, seen large enough, nothing touches the side. -/
theorem near_apart {a b x : Int × Int} (h : onB a b x = false) (d e : Int × Int) : ∃ k0 : Int, ∀ k, k0 ≤ k → 0 < k →
    apart (k * x.1 + d.1, k * x.2 + d.2) (k * x.1 + e.1, k * x.2 + e.2) (sc k a) (sc k b) := by
  obtain ⟨u, v, g, ha, hb, hx⟩ := sep_of_off h
  refine ⟨1 + max 0 (-(u * d.1 + v * d.2)) + max 0 (-(u * e.1 + v * e.2)), fun k hk hk0 => ?_⟩
  have hk1 : k * 1 ≤ k * (u * x.1 + v * x.2 + g) := Int.mul_le_mul_of_nonneg_left (by omega) (by omega)
  refine apart_of_sep (u := u) (v := v) (g := k * g) ?_ ?_ ?_ ?_
  · have := mpn0 (Int.le_of_lt hk0) ha
    have e : u * (sc k a).1 + v * (sc k a).2 + k * g = k * (u * a.1 + v * a.2 + g) := by unfold sc; grind
    omega
  · have := mpn0 (Int.le_of_lt hk0) hb
    have e : u * (sc k b).1 + v * (sc k b).2 + k * g = k * (u * b.1 + v * b.2 + g) := by unfold sc; grind
    omega
  · have e : u * (k * x.1 + d.1) + v * (k * x.2 + d.2) + k * g = k * (u * x.1 + v * x.2 + g) + (u * d.1 + v * d.2) := by grind
    show 0 < u * (k * x.1 + d.1) + v * (k * x.2 + d.2) + k * g
    omega
  · have e' : u * (k * x.1 + e.1) + v * (k * x.2 + e.2) + k * g = k * (u * x.1 + v * x.2 + g) + (u * e.1 + v * e.2) := by grind
    show 0 < u * (k * x.1 + e.1) + v * (k * x.2 + e.2) + k * g
    omega
/-- A sum of the first n terms. -/
def sumN (f : Nat → Int) : Nat → Int
  | 0 => 0
  | n + 1 => sumN f n + f n
theorem sumN_congr {f g : Nat → Int} : ∀ {n : Nat}, (∀ i, i < n → f i = g i) → sumN f n = sumN g n
  | 0, _ => rfl
  | n + 1, h => by rw [sumN, sumN, sumN_congr (fun i hi => h i (by omega)), h n (by omega)]
theorem sumN_sub {f g : Nat → Int} : ∀ {n : Nat}, sumN (fun i => f i - g i) n = sumN f n - sumN g n
  | 0 => rfl
  | n + 1 => by rw [sumN, sumN, sumN, sumN_sub]; omega
theorem sumN_add {f g : Nat → Int} : ∀ {n : Nat}, sumN (fun i => f i + g i) n = sumN f n + sumN g n
  | 0 => rfl
  | n + 1 => by rw [sumN, sumN, sumN, sumN_add]; omega
theorem sumN_zero {f : Nat → Int} : ∀ {n : Nat}, (∀ i, i < n → f i = 0) → sumN f n = 0
  | 0, _ => rfl
  | n + 1, h => by rw [sumN, sumN_zero (fun i hi => h i (by omega)), h n (by omega)]; rfl
theorem sumN_tele (f : Nat → Int) : ∀ n : Nat, sumN (fun i => f (i + 1) - f i) n = f n - f 0
  | 0 => by simp [sumN]
  | n + 1 => by rw [sumN, sumN_tele]; omega
theorem sumN_one {f : Nat → Int} {i : Nat} : ∀ {n : Nat}, i < n → (∀ j, j < n → j ≠ i → f j = 0) → sumN f n = f i
  | 0, h, _ => by omega
  | n + 1, h, hz => by
    rw [sumN]
    by_cases e : i = n
    · subst e; rw [sumN_zero (fun j hj => hz j (by omega) (by omega))]; omega
    · rw [sumN_one (n := n) (by omega) (fun j hj hn => hz j (by omega) hn), hz n (by omega) (by omega)]; omega
theorem sumN_two {f : Nat → Int} {i k n : Nat} (hi : i < n) (hk : k < n) (hik : i ≠ k) (hz : ∀ j, j < n → j ≠ i → j ≠ k → f j = 0) : sumN f n = f i + f k := by
  have h1 : sumN (fun j => f j - (if j = i then f i else 0)) n = f k := by
    rw [sumN_one hk (fun j hj hn => ?_)]
    · rw [if_neg (fun h => hik h.symm)]; omega
    · by_cases e : j = i
      · subst e; simp
      · rw [if_neg e, hz j hj e hn]; rfl
  rw [sumN_sub, sumN_one (i := i) hi (fun j _ hn => if_neg hn), if_pos rfl] at h1
  omega
/-- How often a closed way goes round a point. -/
def wsum (p : Nat → Int × Int) (n : Nat) (x : Int × Int) : Int := sumN (fun i => cr x (p i) (p (i + 1))) n
/-- A plot: its corners are met again after n steps. -/
structure Simple (p : Nat → Int × Int) (n : Nat) : Prop where
  three : 3 ≤ n
  per : ∀ i, p (i + n) = p i
  inj : ∀ i j, i < n → j < n → p i = p j → i = j
  spike : ∀ i, ¬ (turn (p i) (p (i + 1)) (p (i + 2)) = 0 ∧ 0 < dot (p (i + 1)) (p i) (p (i + 2)))
  free : ∀ i j, i < n → j < n → j ≠ i → (j + 1) % n ≠ i → (i + 1) % n ≠ j → apart (p i) (p (i + 1)) (p j) (p (j + 1))
theorem turn_sc (k : Int) (a b c : Int × Int) : turn (sc k a) (sc k b) (sc k c) = k * k * turn a b c := by unfold turn sc; grind
theorem dot_sc (k : Int) (a b c : Int × Int) : dot (sc k a) (sc k b) (sc k c) = k * k * dot a b c := by unfold dot sc; grind
theorem sign_mul {k t : Int} (hk : 0 < k) : (0 < k * t ↔ 0 < t) ∧ (k * t < 0 ↔ t < 0) ∧ (k * t = 0 ↔ t = 0) := by
  rcases Int.lt_trichotomy t 0 with h | h | h
  · have := mpn hk h; exact ⟨by omega, by omega, by omega⟩
  · subst h; simp
  · have := mpp hk h; exact ⟨by omega, by omega, by omega⟩
theorem onB_sc {k : Int} (hk : 0 < k) (a b x : Int × Int) : onB (sc k a) (sc k b) (sc k x) = onB a b x := by
  unfold onB
  rw [turn_sc, dot_sc]
  have hkk := mpp hk hk
  obtain ⟨h1, h2, h3⟩ := sign_mul (t := turn a b x) hkk
  obtain ⟨g1, g2, g3⟩ := sign_mul (t := dot x a b) hkk
  have e1 : (k * k * turn a b x == 0) = (turn a b x == 0) := by rw [Bool.eq_iff_iff]; simpa using h3
  have e2 : decide (k * k * dot x a b ≤ 0) = decide (dot x a b ≤ 0) := by rw [Bool.eq_iff_iff]; simp only [decide_eq_true_iff]; omega
  rw [e1, e2]
theorem apart_sc {k : Int} (hk : 0 < k) {x y a b : Int × Int} (h : apart x y a b) : apart (sc k x) (sc k y) (sc k a) (sc k b) := by
  obtain ⟨h1, h2, h3, h4, h5⟩ := h
  refine ⟨by rw [onB_sc hk]; exact h1, by rw [onB_sc hk]; exact h2, by rw [onB_sc hk]; exact h3, by rw [onB_sc hk]; exact h4, ?_⟩
  rw [turn_sc, turn_sc, turn_sc, turn_sc]
  have hkk := mpp (mpp hk hk) (mpp hk hk)
  have e1 : k * k * turn x y a * (k * k * turn x y b) = (k * k * (k * k)) * (turn x y a * turn x y b) := by grind
  have e2 : k * k * turn a b x * (k * k * turn a b y) = (k * k * (k * k)) * (turn a b x * turn a b y) := by grind
  rw [e1, e2, (sign_mul hkk).2.1, (sign_mul hkk).2.1]
  exact h5
theorem cr_sc {k : Int} (hk : 0 < k) (x a b : Int × Int) : cr (sc k x) (sc k a) (sc k b) = cr x a b := by
  unfold cr
  rw [turn_sc]
  obtain ⟨h1, h2, h3⟩ := sign_mul (t := turn a b x) (mpp hk hk)
  have e : ∀ u v : Int × Int, ((sc k u).2 ≤ (sc k v).2 ↔ u.2 ≤ v.2) ∧ ((sc k u).2 < (sc k v).2 ↔ u.2 < v.2) := fun u v => by
    unfold sc
    exact ⟨Int.mul_le_mul_left hk, Int.mul_lt_mul_left hk⟩
  simp only [(e _ _).1, (e _ _).2, h1, h2]
theorem sc_inj {k : Int} (hk : 0 < k) {a b : Int × Int} (h : sc k a = sc k b) : a = b := by
  unfold sc at h
  rw [Prod.mk.injEq] at h
  exact Prod.ext (Int.eq_of_mul_eq_mul_left (by omega) h.1) (Int.eq_of_mul_eq_mul_left (by omega) h.2)
theorem Simple.scale {p : Nat → Int × Int} {n : Nat} (h : Simple p n) {k : Int} (hk : 0 < k) : Simple (fun i => sc k (p i)) n := by
  refine ⟨h.three, fun i => by rw [h.per], fun i j hi hj e => h.inj i j hi hj (sc_inj hk e), fun i => ?_, fun i j hi hj h1 h2 h3 => apart_sc hk (h.free i j hi hj h1 h2 h3)⟩
  rw [turn_sc, dot_sc, (sign_mul (mpp hk hk)).1, (sign_mul (mpp hk hk)).2.2]
  exact h.spike i
theorem wsum_sc {k : Int} (hk : 0 < k) (p : Nat → Int × Int) (n : Nat) (x : Int × Int) : wsum (fun i => sc k (p i)) n (sc k x) = wsum p n x :=
  sumN_congr fun _ _ => cr_sc hk _ _ _
theorem sc_sc (k l : Int) (a : Int × Int) : sc k (sc l a) = sc (k * l) a := by unfold sc; simp [Int.mul_assoc]
theorem sc_one (a : Int × Int) : sc 1 a = a := by unfold sc; simp
/-- A way that no side touches: it is gone round both ends alike. -/
theorem wsum_free {p : Nat → Int × Int} {n : Nat} (hper : p n = p 0) {x y : Int × Int} (h : ∀ i, i < n → apart x y (p i) (p (i + 1))) : wsum p n x = wsum p n y := by
  have main : ∀ x y : Int × Int, x.2 ≤ y.2 → (∀ i, i < n → apart x y (p i) (p (i + 1))) → wsum p n x = wsum p n y := fun x y hxy h => by
    have e : sumN (fun i => cr x (p i) (p (i + 1)) - cr y (p i) (p (i + 1))) n = sumN (fun i => reg x y (p (i + 1)) - reg x y (p i)) n :=
      sumN_congr fun i hi => cross hxy (h i hi)
    rw [sumN_sub, sumN_tele (fun i => reg x y (p i)), hper] at e
    unfold wsum; omega
  rcases Int.le_total x.2 y.2 with k | k
  · exact main x y k h
  · refine (main y x k fun i hi => ?_).symm
    obtain ⟨h1, h2, h3, h4, h5⟩ := h i hi
    refine ⟨h2, h1, by rw [onB_swap]; exact h3, by rw [onB_swap]; exact h4, ?_⟩
    rw [turn_swap x y (p i), turn_swap x y (p (i + 1)), Int.neg_mul_neg, Int.mul_comm (turn (p i) (p (i + 1)) y)]
    exact h5
theorem dot_pos_of_off {a b x : Int × Int} (h : onB a b x = false) (k : turn a b x = 0) : 0 < dot x a b := by
  unfold onB at h
  rw [k] at h
  simpa using h
theorem col_same {x y a b : Int × Int} (h : onB x y a = false) (k : turn x y a = 0) (kb : turn x y b ≠ 0) : 0 < turn a b x * turn a b y := by
  have hd := dot_pos_of_off h k
  have h0 := id0 a b x y
  have h1 := id1 a b x y a.1
  have h2 := id2 a b x y a.2
  rw [k] at h0 h1 h2
  simp only [Int.zero_mul, Int.sub_self, Int.mul_zero] at h1 h2
  have key : turn a b y * dot a x y = turn a b x * ((y.1 - a.1) * (y.1 - a.1) + (y.2 - a.2) * (y.2 - a.2)) := by unfold dot; grind
  have q1 := sq0 (y.1 - a.1); have q2 := sq0 (y.2 - a.2)
  have hq : 0 < (y.1 - a.1) * (y.1 - a.1) + (y.2 - a.2) * (y.2 - a.2) := by
    rcases Int.lt_or_le 0 ((y.1 - a.1) * (y.1 - a.1) + (y.2 - a.2) * (y.2 - a.2)) with c | c
    · exact c
    · have r1 : (y.1 - a.1) * (y.1 - a.1) = 0 := by omega
      have r2 : (y.2 - a.2) * (y.2 - a.2) = 0 := by omega
      have s1 : y.1 - a.1 = 0 := by rcases Int.mul_eq_zero.1 r1 with k | k <;> exact k
      have s2 : y.2 - a.2 = 0 := by rcases Int.mul_eq_zero.1 r2 with k | k <;> exact k
      unfold dot at hd; rw [s1, s2] at hd; simp at hd
  generalize hY : turn a b y = SY at *
  generalize hX : turn a b x = SX at *
  rcases Int.lt_trichotomy SX 0 with c | c | c
  · have := mnp c hq
    have : SY * dot a x y < 0 := by omega
    exact mnn c (fneg this hd)
  · exfalso
    rw [c, Int.zero_mul] at key
    rcases Int.mul_eq_zero.1 key with c' | c' <;> omega
  · have := mpp c hq
    have : 0 < SY * dot a x y := by omega
    exact mpp c (fpos this hd)
theorem lagr1 (x y b : Int × Int) : dot b x y * ((y.1 - x.1) * (y.1 - x.1) + (y.2 - x.2) * (y.2 - x.2)) =
    ((b.1 - x.1) * (y.1 - x.1) + (b.2 - x.2) * (y.2 - x.2)) * (((b.1 - x.1) * (y.1 - x.1) + (b.2 - x.2) * (y.2 - x.2)) - ((y.1 - x.1) * (y.1 - x.1) + (y.2 - x.2) * (y.2 - x.2))) + turn x y b * turn x y b := by
  unfold dot turn; grind
theorem lagr2 (x y a b : Int × Int) : dot x a b * ((y.1 - x.1) * (y.1 - x.1) + (y.2 - x.2) * (y.2 - x.2)) =
    ((a.1 - x.1) * (y.1 - x.1) + (a.2 - x.2) * (y.2 - x.2)) * ((b.1 - x.1) * (y.1 - x.1) + (b.2 - x.2) * (y.2 - x.2)) + turn x y a * turn x y b := by
  unfold dot turn; grind
theorem sep_turn {x y a b : Int × Int} (h : 0 < turn a b x * turn a b y) : ∃ u v g : Int, u * a.1 + v * a.2 + g ≤ 0 ∧ u * b.1 + v * b.2 + g ≤ 0 ∧ 0 < u * x.1 + v * x.2 + g ∧ 0 < u * y.1 + v * y.2 + g := by
  rcases Int.lt_trichotomy (turn a b x) 0 with k | k | k
  · have k' : turn a b y < 0 := by
      rcases Int.lt_or_le (turn a b y) 0 with c | c
      · exact c
      · have := mnp0 (Int.le_of_lt k) c; omega
    refine ⟨b.2 - a.2, a.1 - b.1, - (b.2 - a.2) * a.1 - (a.1 - b.1) * a.2, by grind, by grind, ?_, ?_⟩
    · unfold turn at k; grind
    · unfold turn at k'; grind
  · rw [k] at h; simp at h
  · have k' : 0 < turn a b y := by
      rcases Int.lt_or_le 0 (turn a b y) with c | c
      · exact c
      · have := mpn0 (Int.le_of_lt k) c; omega
    refine ⟨a.2 - b.2, b.1 - a.1, - (a.2 - b.2) * a.1 - (b.1 - a.1) * a.2, by grind, by grind, ?_, ?_⟩
    · unfold turn at k; grind
    · unfold turn at k'; grind
theorem apart_symm {x y a b : Int × Int} (h : apart x y a b) : apart a b x y := by
  obtain ⟨h1, h2, h3, h4, h5⟩ := h
  exact ⟨h3, h4, h1, h2, fun ⟨g1, g2⟩ => h5 ⟨g2, g1⟩⟩
/-- Two sides that do not touch are parted by a line. -/
theorem sep_of_apart {x y a b : Int × Int} (h : apart x y a b) : ∃ u v g : Int, u * a.1 + v * a.2 + g ≤ 0 ∧ u * b.1 + v * b.2 + g ≤ 0 ∧ 0 < u * x.1 + v * x.2 + g ∧ 0 < u * y.1 + v * y.2 + g := by
  have flip : ∀ {x y a b : Int × Int}, (∃ u v g : Int, u * a.1 + v * a.2 + g ≤ 0 ∧ u * b.1 + v * b.2 + g ≤ 0 ∧ 0 < u * x.1 + v * x.2 + g ∧ 0 < u * y.1 + v * y.2 + g) →
      ∃ u v g : Int, u * x.1 + v * x.2 + g ≤ 0 ∧ u * y.1 + v * y.2 + g ≤ 0 ∧ 0 < u * a.1 + v * a.2 + g ∧ 0 < u * b.1 + v * b.2 + g := by
    rintro x y a b ⟨u, v, g, h1, h2, h3, h4⟩
    refine ⟨-u, -v, 1 - g, ?_, ?_, ?_, ?_⟩ <;> (simp only [Int.neg_mul]; omega)
  obtain ⟨h1, h2, h3, h4, h5⟩ := h
  by_cases ka : turn x y a = 0
  · by_cases kb : turn x y b = 0
    · by_cases kx : turn a b x = 0
      · have h0 := id0 a b x y
        have ky : turn a b y = 0 := by omega
        by_cases hxy : x = y
        · subst hxy
          obtain ⟨u, v, g, g1, g2, g3⟩ := sep_of_off h1
          exact ⟨u, v, g, g1, g2, g3, g3⟩
        · have d1 := dot_pos_of_off h3 ka
          have d2 := dot_pos_of_off h4 kb
          have d3 := dot_pos_of_off h1 kx
          have hr : 0 < (y.1 - x.1) * (y.1 - x.1) + (y.2 - x.2) * (y.2 - x.2) := by
            have q1 := sq0 (y.1 - x.1); have q2 := sq0 (y.2 - x.2)
            rcases Int.lt_or_le 0 ((y.1 - x.1) * (y.1 - x.1) + (y.2 - x.2) * (y.2 - x.2)) with c | c
            · exact c
            · have r1 : (y.1 - x.1) * (y.1 - x.1) = 0 := by omega
              have r2 : (y.2 - x.2) * (y.2 - x.2) = 0 := by omega
              have s1 : y.1 - x.1 = 0 := by rcases Int.mul_eq_zero.1 r1 with k | k <;> exact k
              have s2 : y.2 - x.2 = 0 := by rcases Int.mul_eq_zero.1 r2 with k | k <;> exact k
              exact absurd (Prod.ext (by omega) (by omega)) hxy
          obtain ⟨R, hR⟩ : ∃ R, R = (y.1 - x.1) * (y.1 - x.1) + (y.2 - x.2) * (y.2 - x.2) := ⟨_, rfl⟩
          obtain ⟨A, hA⟩ : ∃ A, A = (a.1 - x.1) * (y.1 - x.1) + (a.2 - x.2) * (y.2 - x.2) := ⟨_, rfl⟩
          obtain ⟨B, hB⟩ : ∃ B, B = (b.1 - x.1) * (y.1 - x.1) + (b.2 - x.2) * (y.2 - x.2) := ⟨_, rfl⟩
          have e1 : dot a x y * R = A * (A - R) := by subst hR hA; rw [lagr1, ka]; simp
          have e2 : dot b x y * R = B * (B - R) := by subst hR hB; rw [lagr1, kb]; simp
          have e3 : dot x a b * R = A * B := by subst hR hA hB; rw [lagr2, ka]; simp
          rw [← hR] at hr
          have p1 := mpp d1 hr
          have p2 := mpp d2 hr
          have p3 := mpp d3 hr
          rw [e1] at p1; rw [e2] at p2; rw [e3] at p3
          have split : ∀ Z : Int, 0 < Z * (Z - R) → Z < 0 ∨ R < Z := fun Z hZ => by
            rcases Int.lt_or_le Z 0 with c | c
            · exact .inl c
            · rcases Int.lt_or_le R Z with c' | c'
              · exact .inr c'
              · have := mpn0 c (b := Z - R) (by omega); omega
          rcases split A p1 with c | c
          · have cb : B < 0 := by
              rcases split B p2 with c' | c'
              · exact c'
              · have := mnp c (b := B) (by omega); omega
            refine ⟨y.1 - x.1, y.2 - x.2, 1 - x.1 * (y.1 - x.1) - x.2 * (y.2 - x.2), ?_, ?_, ?_, ?_⟩
            · grind
            · grind
            · grind
            · grind
          · have cb : R < B := by
              rcases split B p2 with c' | c'
              · have := mpn (a := A) (by omega) c'; omega
              · exact c'
            refine ⟨-(y.1 - x.1), -(y.2 - x.2), R + 1 + x.1 * (y.1 - x.1) + x.2 * (y.2 - x.2), ?_, ?_, ?_, ?_⟩
            · grind
            · grind
            · grind
            · grind
      · have h0 := id0 a b x y
        refine sep_turn ?_
        have : turn a b y = turn a b x := by omega
        rw [this]
        rcases Int.lt_trichotomy (turn a b x) 0 with c | c | c
        · exact mnn c c
        · exact absurd c kx
        · exact mpp c c
    · exact sep_turn (col_same h3 ka kb)
  · by_cases kb : turn x y b = 0
    · have := col_same (b := a) h4 kb ka
      rw [turn_swap a b x, turn_swap a b y, Int.neg_mul_neg] at this
      exact sep_turn this
    · rcases Int.lt_or_le 0 (turn x y a * turn x y b) with c | c
      · exact flip (sep_turn c)
      · have cn : turn x y a * turn x y b < 0 := by
          rcases Int.lt_or_le (turn x y a * turn x y b) 0 with c' | c'
          · exact c'
          · rcases Int.mul_eq_zero.1 (show turn x y a * turn x y b = 0 by omega) with z | z
            · exact absurd z ka
            · exact absurd z kb
        by_cases kx : turn a b x = 0
        · by_cases ky : turn a b y = 0
          · exfalso
            have h0 := id0 a b x y
            have : turn x y a = turn x y b := by omega
            rw [this] at cn; have := sq0 (turn x y b); omega
          · exact flip (sep_turn (col_same h1 kx ky))
        · by_cases ky : turn a b y = 0
          · have := col_same (b := x) h2 ky kx
            rw [turn_swap x y a, turn_swap x y b, Int.neg_mul_neg] at this
            exact flip (sep_turn this)
          · rcases Int.lt_or_le 0 (turn a b x * turn a b y) with c' | c'
            · exact sep_turn c'
            · exfalso
              refine h5 ⟨cn, ?_⟩
              rcases Int.lt_or_le (turn a b x * turn a b y) 0 with d | d
              · exact d
              · rcases Int.mul_eq_zero.1 (show turn a b x * turn a b y = 0 by omega) with z | z
                · exact absurd z kx
                · exact absurd z ky
theorem seg_pos {a b x : Int × Int} {u v g : Int} (h : onB a b x = true) (ha : 0 < u * a.1 + v * a.2 + g) (hb : 0 < u * b.1 + v * b.2 + g) : 0 < u * x.1 + v * x.2 + g := by
  have := seg_le (u := -u) (v := -v) (g := 1 - g) h (by simp only [Int.neg_mul]; omega) (by simp only [Int.neg_mul]; omega)
  simp only [Int.neg_mul] at this; omega
/-- A part of a side touches no more than the side does. -/
theorem apart_part {a b c d x y : Int × Int} (h : apart a b c d) (hx : onB a b x = true) (hy : onB a b y = true) : apart x y c d := by
  obtain ⟨u, v, g, h1, h2, h3, h4⟩ := sep_of_apart h
  exact apart_of_sep h1 h2 (seg_pos hx h3 h4) (seg_pos hy h3 h4)
end Go.Proofs.Ythiemglckmociaa
