/- Plain geometry of plots, second part: a border goes round a point once or not at all. No program in sight. No conditions. -/
import Derived.Test.YthiemglckmociaaGeo1
namespace Go.Proofs.Ythiemglckmociaa
/-- A side that leads upward, or along the ground to the left. -/
def up (a b : Int × Int) : Int := if a.2 < b.2 ∨ (a.2 = b.2 ∧ b.1 < a.1) then 1 else 0
/-- A point inside a side: on it, and no end of it. -/
def inn (a b x : Int × Int) : Prop := onB a b x = true ∧ x ≠ a ∧ x ≠ b
theorem Simple.per_mul {p : Nat → Int × Int} {n : Nat} (h : Simple p n) (i : Nat) : ∀ k, p (i + n * k) = p i
  | 0 => by simp
  | k + 1 => by rw [Nat.mul_add, Nat.mul_one, ← Nat.add_assoc, h.per, h.per_mul i k]
theorem Simple.mod {p : Nat → Int × Int} {n : Nat} (h : Simple p n) (i : Nat) : p (i % n) = p i := by
  have := h.per_mul (i % n) (i / n)
  rw [Nat.mod_add_div] at this; exact this.symm
theorem Simple.ne {p : Nat → Int × Int} {n : Nat} (h : Simple p n) {i j : Nat} (hij : i % n ≠ j % n) : p i ≠ p j := by
  intro e
  have h3 := h.three
  rw [← h.mod i, ← h.mod j] at e
  exact hij (h.inj _ _ (Nat.mod_lt _ (by omega)) (Nat.mod_lt _ (by omega)) e)
/-- Corners are named anew. -/
theorem Simple.shift {p : Nat → Int × Int} {n : Nat} (h : Simple p n) (m : Nat) : Simple (fun i => p (i + m)) n := by
  have h3 := h.three
  have hm : ∀ k, p ((k + m) % n) = p (k + m) := fun k => h.mod _
  have hm1 : ∀ k, p ((k + m) % n + 1) = p (k + 1 + m) := fun k => by
    rw [← h.mod ((k + m) % n + 1), Nat.mod_add_mod, h.mod]; congr 1; omega
  have md : ∀ i j, i < n → j < n → (i + m) % n = (j + m) % n → i = j := fun i j hi hj e => by
    have h1 := Nat.mod_add_div (i + m) n
    have h2 := Nat.mod_add_div (j + m) n
    rcases Nat.lt_trichotomy ((i + m) / n) ((j + m) / n) with c | c | c
    · have := Nat.mul_le_mul_left n (show (i + m) / n + 1 ≤ (j + m) / n by omega)
      rw [Nat.mul_add, Nat.mul_one] at this; omega
    · rw [c] at h1; omega
    · have := Nat.mul_le_mul_left n (show (j + m) / n + 1 ≤ (i + m) / n by omega)
      rw [Nat.mul_add, Nat.mul_one] at this; omega
  have ml : ∀ k, (k + m) % n < n := fun k => Nat.mod_lt _ (by omega)
  refine ⟨h3, fun i => ?_, fun i j hi hj e => ?_, fun i => ?_, fun i j hi hj h1 h2 h4 => ?_⟩
  · show p (i + n + m) = p (i + m)
    rw [show i + n + m = i + m + n by omega, h.per]
  · by_cases hne : (i + m) % n = (j + m) % n
    · exact md i j hi hj hne
    · exact absurd e (h.ne hne)
  · have := h.spike (i + m)
    rw [show i + m + 1 = i + 1 + m by omega, show i + m + 2 = i + 2 + m by omega] at this
    exact this
  · have := h.free ((i + m) % n) ((j + m) % n) (ml i) (ml j) (fun e => h1 (md _ _ hj hi e)) (fun e => h2 ?_) (fun e => h4 ?_)
    · rw [hm, hm, hm1, hm1] at this; exact this
    · rw [Nat.mod_add_mod] at e
      have := md ((j + 1) % n) i (Nat.mod_lt _ (by omega)) hi (by rw [Nat.mod_add_mod, show j + 1 + m = j + m + 1 by omega]; exact e)
      exact this
    · rw [Nat.mod_add_mod] at e
      exact md ((i + 1) % n) j (Nat.mod_lt _ (by omega)) hj (by rw [Nat.mod_add_mod, show i + 1 + m = i + m + 1 by omega]; exact e)
theorem sumN_shift1 {f : Nat → Int} {n : Nat} (h : f n = f 0) : sumN (fun i => f (i + 1)) n = sumN f n := by
  have := sumN_tele f n
  rw [sumN_sub] at this; omega
theorem sumN_shift {f : Nat → Int} {n : Nat} (h : ∀ i, f (i + n) = f i) : ∀ m, sumN (fun i => f (i + m)) n = sumN f n
  | 0 => rfl
  | m + 1 => by
    rw [← sumN_shift h m, ← sumN_shift1 (f := fun i => f (i + m))]
    · exact sumN_congr fun i _ => by rw [show i + 1 + m = i + (m + 1) by omega]
    · show f (n + m) = f (0 + m)
      rw [show n + m = m + n by omega, h, Nat.zero_add]
theorem Simple.wsum_shift {p : Nat → Int × Int} {n : Nat} (h : Simple p n) (m : Nat) (x : Int × Int) : wsum (fun i => p (i + m)) n x = wsum p n x := by
  unfold wsum
  rw [← sumN_shift (f := fun i => cr x (p i) (p (i + 1))) (fun i => by rw [h.per, show i + n + 1 = i + 1 + n by omega, h.per]) m]
  exact sumN_congr fun i _ => by show cr x (p (i + m)) (p (i + 1 + m)) = _; rw [show i + 1 + m = i + m + 1 by omega]
theorem onB_turn {a b x : Int × Int} (h : onB a b x = true) : turn a b x = 0 ∧ dot x a b ≤ 0 := by
  unfold onB at h
  rw [Bool.and_eq_true] at h
  exact ⟨by simpa using h.1, of_decide_eq_true h.2⟩
theorem onB_mk {a b x : Int × Int} (h1 : turn a b x = 0) (h2 : dot x a b ≤ 0) : onB a b x = true := by
  unfold onB
  rw [Bool.and_eq_true]
  exact ⟨by simpa using h1, decide_eq_true h2⟩
theorem norm_pos {a b : Int × Int} (h : a ≠ b) : 0 < (b.1 - a.1) * (b.1 - a.1) + (b.2 - a.2) * (b.2 - a.2) := by
  have q1 := sq0 (b.1 - a.1); have q2 := sq0 (b.2 - a.2)
  rcases Int.lt_or_le 0 ((b.1 - a.1) * (b.1 - a.1) + (b.2 - a.2) * (b.2 - a.2)) with c | c
  · exact c
  · have r1 : (b.1 - a.1) * (b.1 - a.1) = 0 := by omega
    have r2 : (b.2 - a.2) * (b.2 - a.2) = 0 := by omega
    have s1 : b.1 - a.1 = 0 := by rcases Int.mul_eq_zero.1 r1 with k | k <;> exact k
    have s2 : b.2 - a.2 = 0 := by rcases Int.mul_eq_zero.1 r2 with k | k <;> exact k
    exact absurd (Prod.ext (by omega) (by omega)) h
/-- On a side: seen from an end, the other end lies in the same direction. -/
theorem on_ahead {a b x : Int × Int} (h : onB a b x = true) (hx : x ≠ a) : 0 < dot a b x := by
  obtain ⟨h1, h2⟩ := onB_turn h
  have := norm_pos (fun e => hx e.symm)
  have e : dot a b x = ((x.1 - a.1) * (x.1 - a.1) + (x.2 - a.2) * (x.2 - a.2)) - dot x a b := by unfold dot; grind
  omega
/-- Inside a side: apart from the next side. -/
theorem apart_next {a b c x y : Int × Int} (hs : ¬ (turn a b c = 0 ∧ 0 < dot b a c)) (hab : a ≠ b) (_hbc : b ≠ c) (hx : onB a b x = true) (hy : onB a b y = true) (hxb : x ≠ b) (hyb : y ≠ b) : apart x y b c := by
  have ex := onB_turn hx
  have ey := onB_turn hy
  by_cases ht : turn a b c = 0
  · have hd : dot b a c ≤ 0 := by
      rcases Int.lt_or_le 0 (dot b a c) with k | k
      · exact absurd ⟨ht, k⟩ hs
      · exact k
    have px := on_ahead (a := b) (b := a) (by rw [onB_swap]; exact hx) hxb
    have py := on_ahead (a := b) (b := a) (by rw [onB_swap]; exact hy) hyb
    unfold dot at hd px py
    refine apart_of_sep (u := a.1 - b.1) (v := a.2 - b.2) (g := - b.1 * (a.1 - b.1) - b.2 * (a.2 - b.2)) ?_ ?_ ?_ ?_
    · grind
    · grind
    · grind
    · grind
  · -- the sign of turn b c x is that of turn b c a
    have key : ∀ z, onB a b z = true → z ≠ b → 0 < turn b c z * turn b c a := fun z hz hzb => by
      have pz := on_ahead (a := b) (b := a) (by rw [onB_swap]; exact hz) hzb
      have ez := (onB_turn hz).1
      have e : turn b c z * ((a.1 - b.1) * (a.1 - b.1) + (a.2 - b.2) * (a.2 - b.2)) = turn b c a * dot b a z - turn a b z * dot b c a := by unfold dot turn; grind
      rw [ez, Int.zero_mul, Int.sub_zero] at e
      have np := norm_pos (fun h => hab h.symm)
      have hca : turn b c a ≠ 0 := by rw [turn_rot]; exact ht
      generalize turn b c a = A at *
      rcases Int.lt_trichotomy A 0 with k | k | k
      · have := mnp k pz
        exact mnn (fneg (b := (a.1 - b.1) * (a.1 - b.1) + (a.2 - b.2) * (a.2 - b.2)) (by omega) np) k
      · exact absurd k hca
      · have := mpp k pz
        exact mpp (fpos (b := (a.1 - b.1) * (a.1 - b.1) + (a.2 - b.2) * (a.2 - b.2)) (by omega) np) k
    have kx := key x hx hxb
    have ky := key y hy hyb
    have kxy : 0 < turn b c x * turn b c y := by
      generalize turn b c x = X at *
      generalize turn b c y = Y at *
      generalize turn b c a = A at *
      rcases Int.lt_trichotomy A 0 with k | k | k
      · have p1 : X < 0 := by
          rcases Int.lt_or_le X 0 with c | c
          · exact c
          · have := mpn0 c (Int.le_of_lt k); omega
        have p2 : Y < 0 := by
          rcases Int.lt_or_le Y 0 with c | c
          · exact c
          · have := mpn0 c (Int.le_of_lt k); omega
        exact mnn p1 p2
      · rw [k] at kx; simp at kx
      · exact mpp (fpos kx k) (fpos ky k)
    obtain ⟨u, v, g, h1, h2, h3, h4⟩ := sep_turn kxy
    exact apart_of_sep h1 h2 h3 h4
/-- Points inside the first side: apart from all other sides. -/
theorem Simple.apart_first {p : Nat → Int × Int} {n : Nat} (h : Simple p n) {x y : Int × Int} (hx : inn (p 0) (p 1) x) (hy : inn (p 0) (p 1) y) {j : Nat} (h0 : 0 < j) (hj : j < n) : apart x y (p j) (p (j + 1)) := by
  have h3 := h.three
  have e01 : p 0 ≠ p 1 := h.ne (by rw [Nat.zero_mod, Nat.mod_eq_of_lt (by omega)]; omega)
  by_cases c1 : j = 1
  · subst c1
    exact apart_next (h.spike 0) e01 (h.ne (by rw [Nat.mod_eq_of_lt (by omega), Nat.mod_eq_of_lt (by omega)]; omega)) hx.1 hy.1 hx.2.2 hy.2.2
  · by_cases c2 : j = n - 1
    · have en : p (j + 1) = p 0 := by rw [show j + 1 = 0 + n by omega, h.per]
      have e2 : p (j + 2) = p 1 := by rw [show j + 2 = 1 + n by omega, h.per]
      rw [en]
      refine apart_swap (apart_next (a := p 1) (b := p 0) (c := p j) ?_ (fun e => e01 e.symm) (h.ne (by rw [Nat.zero_mod, Nat.mod_eq_of_lt (by omega)]; omega)) (by rw [onB_swap]; exact hx.1) (by rw [onB_swap]; exact hy.1) hx.2.1 hy.2.1)
      have := h.spike j
      rw [en, e2] at this
      rintro ⟨k1, k2⟩
      refine this ⟨?_, ?_⟩
      · have : turn (p j) (p 0) (p 1) = - turn (p 1) (p 0) (p j) := by unfold turn; grind
        omega
      · have : dot (p 0) (p j) (p 1) = dot (p 0) (p 1) (p j) := by unfold dot; grind
        omega
    · exact apart_part (h.free 0 j (by omega) hj (by omega) (by rw [Nat.mod_eq_of_lt (by omega)]; omega) (by rw [Nat.mod_eq_of_lt (by omega)]; omega)) hx.1 hy.1
theorem cr_on {a b x : Int × Int} (h : turn a b x = 0) : cr x a b = 0 := by unfold cr; rw [h]; simp
theorem turn_col {a b x y c : Int × Int} (hab : a ≠ b) (hx : turn a b x = 0) (hy : turn a b y = 0) (hc : turn a b c = 0) : turn x y c = 0 := by
  have np := norm_pos hab
  have e : turn x y c * ((b.1 - a.1) * (b.1 - a.1) + (b.2 - a.2) * (b.2 - a.2)) =
      (dot a b y - dot a b x) * (turn a b c - turn a b x) - (turn a b y - turn a b x) * (dot a b c - dot a b x) := by unfold turn dot; grind
  rw [hx, hy, hc] at e
  simp only [Int.sub_self, Int.mul_zero, Int.zero_mul] at e
  rcases Int.mul_eq_zero.1 e with e | e
  · exact e
  · omega
/-- Points inside a side are gone round alike. -/
theorem Simple.inside_first {p : Nat → Int × Int} {n : Nat} (h : Simple p n) {x y : Int × Int} (hx : inn (p 0) (p 1) x) (hy : inn (p 0) (p 1) y) : wsum p n x = wsum p n y := by
  have h3 := h.three
  have e01 : p 0 ≠ p 1 := h.ne (by rw [Nat.zero_mod, Nat.mod_eq_of_lt (by omega)]; omega)
  have main : ∀ x y : Int × Int, x.2 ≤ y.2 → inn (p 0) (p 1) x → inn (p 0) (p 1) y → wsum p n x = wsum p n y := fun x y hxy hx hy => by
    have e : sumN (fun i => cr x (p i) (p (i + 1)) - cr y (p i) (p (i + 1))) n = sumN (fun i => reg x y (p (i + 1)) - reg x y (p i)) n :=
      sumN_congr fun i hi => by
        by_cases c : i = 0
        · subst c
          have tx := (onB_turn hx.1).1
          have ty := (onB_turn hy.1).1
          have t0 : turn x y (p 0) = 0 := turn_col e01 tx ty (by unfold turn; simp)
          have t1 : turn x y (p 1) = 0 := turn_col e01 tx ty (by unfold turn; grind)
          show cr x (p 0) (p 1) - cr y (p 0) (p 1) = reg x y (p 1) - reg x y (p 0)
          rw [cr_on tx, cr_on ty]
          unfold reg
          rw [t0, t1]; simp
        · exact cross hxy (h.apart_first hx hy (by omega) hi)
    have hper : p n = p 0 := by rw [show n = 0 + n by omega, h.per]
    rw [sumN_sub, sumN_tele (fun i => reg x y (p i)), hper] at e
    unfold wsum; omega
  rcases Int.le_total x.2 y.2 with k | k
  · exact main x y k hx hy
  · exact (main y x k hy hx).symm
/-- A corner is on no side but its own two. -/
theorem Simple.corner_off {p : Nat → Int × Int} {n : Nat} (h : Simple p n) {j : Nat} (h1 : 1 < j) (hj : j < n) : onB (p j) (p (j + 1)) (p 1) = false := by
  have h3 := h.three
  by_cases c : j = 2
  · subst c
    by_cases c3 : n = 3
    · subst c3
      -- a triangle: its corners are not on one line
      cases ho : onB (p 2) (p 3) (p 1)
      · rfl
      · exfalso
        have e3 : p 3 = p 0 := h.per 0
        have e4 : p 4 = p 1 := h.per 1
        obtain ⟨k1, k2⟩ := onB_turn ho
        have := h.spike 2
        rw [show 2 + 1 = 3 by omega, show 2 + 2 = 4 by omega, e4] at this
        refine this ⟨k1, ?_⟩
        refine on_ahead (a := p 3) (b := p 2) (by rw [onB_swap]; exact ho) ?_
        exact h.ne (by decide)
    · have := h.free 0 2 (by omega) (by omega) (by omega) (by rw [Nat.mod_eq_of_lt (by omega)]; omega) (by rw [Nat.mod_eq_of_lt (by omega)]; omega)
      exact this.2.1
  · have := h.free 1 j (by omega) hj (by omega) (by
      by_cases e : j + 1 = n
      · rw [e, Nat.mod_self]; omega
      · rw [Nat.mod_eq_of_lt (by omega)]; omega) (by rw [Nat.mod_eq_of_lt (by omega)]; omega)
    exact this.1
/-- One bound for finitely many. -/
theorem bound_all {P : Nat → Int → Prop} : ∀ n : Nat, (∀ j, j < n → ∃ k0 : Int, ∀ k, k0 ≤ k → 0 < k → P j k) → ∃ k0 : Int, ∀ k, k0 ≤ k → 0 < k → ∀ j, j < n → P j k
  | 0, _ => ⟨0, fun _ _ _ _ h => by omega⟩
  | n + 1, h => by
    obtain ⟨k1, h1⟩ := bound_all n (fun j hj => h j (by omega))
    obtain ⟨k2, h2⟩ := h n (by omega)
    refine ⟨max k1 k2, fun k hk h0 j hj => ?_⟩
    by_cases e : j = n
    · subst e; exact h2 k (by omega) h0
    · exact h1 k (by omega) h0 j (by omega)
theorem mul_big {k d e : Int} (h : d.natAbs + e.natAbs < k) : (k * d ≤ e ↔ d < 0 ∨ (d = 0 ∧ 0 ≤ e)) ∧ (k * d < e ↔ d < 0 ∨ (d = 0 ∧ 0 < e)) := by
  rcases Int.lt_trichotomy d 0 with c | c | c
  · have := Int.mul_le_mul_of_nonneg_left (show d ≤ -1 by omega) (show 0 ≤ k by omega)
    exact ⟨by omega, by omega⟩
  · subst c; simp
  · have := Int.mul_le_mul_of_nonneg_left (show 1 ≤ d by omega) (show 0 ≤ k by omega)
    exact ⟨by omega, by omega⟩
def upD (d1 d2 : Int) : Int := if d2 < 0 ∨ (d2 = 0 ∧ 0 < d1) then 1 else 0
def upE (e1 e2 : Int) : Int := if 0 < e2 ∨ (e2 = 0 ∧ e1 < 0) then 1 else 0
theorem vertex_signs {d1 d2 e1 e2 X : Int} (hX : X = d1 * e2 - d2 * e1) (hop : X = 0 → d1 * e1 + d2 * e2 < 0) :
    (d2 = 0 → 0 < e2 → (0 < X ↔ 0 < d1) ∧ (X < 0 ↔ d1 < 0)) ∧ (d2 = 0 → e2 < 0 → (0 < X ↔ d1 < 0) ∧ (X < 0 ↔ 0 < d1)) ∧
    (e2 = 0 → 0 < d2 → (0 < X ↔ e1 < 0) ∧ (X < 0 ↔ 0 < e1)) ∧ (e2 = 0 → d2 < 0 → (0 < X ↔ 0 < e1) ∧ (X < 0 ↔ e1 < 0)) ∧
    (d2 = 0 → e2 = 0 → X = 0 ∧ (0 < d1 ∧ e1 < 0 ∨ d1 < 0 ∧ 0 < e1)) ∧ (X = 0 → (0 < d2 → e2 ≤ 0) ∧ (d2 < 0 → 0 ≤ e2)) := by
  have key : ∀ s t : Int, 0 < t → (0 < s * t ↔ 0 < s) ∧ (s * t < 0 ↔ s < 0) := fun s t ht => by
    rw [Int.mul_comm]; exact ⟨(sign_mul ht).1, (sign_mul ht).2.1⟩
  refine ⟨fun h1 h2 => ?_, fun h1 h2 => ?_, fun h1 h2 => ?_, fun h1 h2 => ?_, fun h1 h2 => ?_, fun h => ⟨fun h1 => ?_, fun h1 => ?_⟩⟩
  · rw [h1] at hX; simp only [Int.zero_mul, Int.sub_zero] at hX; rw [hX]; exact key _ _ h2
  · rw [h1] at hX; simp only [Int.zero_mul, Int.sub_zero] at hX
    have : -X = d1 * -e2 := by grind
    have := key d1 (-e2) (by omega)
    omega
  · rw [h1] at hX; simp only [Int.mul_zero, Int.zero_sub] at hX
    have : -X = e1 * d2 := by grind
    have := key e1 d2 h2
    omega
  · rw [h1] at hX; simp only [Int.mul_zero, Int.zero_sub] at hX
    have : X = e1 * -d2 := by grind
    have := key e1 (-d2) (by omega)
    omega
  · rw [h1, h2] at hX; simp at hX
    have := hop hX
    rw [h1] at this; simp at this
    refine ⟨hX, ?_⟩
    rcases Int.lt_trichotomy d1 0 with c | c | c
    · right; refine ⟨c, ?_⟩
      rcases Int.lt_or_le 0 e1 with c' | c'
      · exact c'
      · have := mnn0 (Int.le_of_lt c) c'; omega
    · rw [c] at this; simp at this
    · left; refine ⟨c, ?_⟩
      rcases Int.lt_or_le e1 0 with c' | c'
      · exact c'
      · have := mpp0 (Int.le_of_lt c) c'; omega
  · rcases Int.lt_or_le 0 e2 with c | c
    · exfalso
      have h2 := hop h
      -- d1 e2 = d2 e1: d1 e1 is not below 0
      have e : (d1 * e1) * (d2 * e2) = (d1 * e2) * (d1 * e2) := by
        have : d1 * e2 = d2 * e1 := by omega
        have : (d1 * e1) * (d2 * e2) = (d1 * e2) * (d2 * e1) := by grind
        rw [this, ← ‹d1 * e2 = d2 * e1›]
      have q := sq0 (d1 * e2)
      have r := mpp h1 c
      have : d1 * e1 < 0 := by omega
      have := mnp this r
      omega
    · exact c
  · rcases Int.lt_or_le e2 0 with c | c
    · exfalso
      have h2 := hop h
      have e : (d1 * e1) * (d2 * e2) = (d1 * e2) * (d1 * e2) := by
        have : d1 * e2 = d2 * e1 := by omega
        have : (d1 * e1) * (d2 * e2) = (d1 * e2) * (d2 * e1) := by grind
        rw [this, ← ‹d1 * e2 = d2 * e1›]
      have q := sq0 (d1 * e2)
      have r := mnn h1 c
      have : d1 * e1 < 0 := by omega
      have := mnp this r
      omega
    · exact c
theorem vertex_cases {d1 d2 e1 e2 X : Int} (hX : X = d1 * e2 - d2 * e1) (hop : X = 0 → d1 * e1 + d2 * e2 < 0) {P : Prop}
    (h1 : d2 < 0 → e2 < 0 → X < 0 → P)
    (h2 : d2 < 0 → e2 < 0 → 0 < X → P)
    (h3 : d2 < 0 → e2 = 0 → 0 < e1 → 0 < X → P)
    (h4 : d2 < 0 → e2 = 0 → e1 < 0 → X < 0 → P)
    (h5 : d2 < 0 → 0 < e2 → X < 0 → P)
    (h6 : d2 < 0 → 0 < e2 → X = 0 → P)
    (h7 : d2 < 0 → 0 < e2 → 0 < X → P)
    (h8 : d2 = 0 → e2 < 0 → d1 < 0 → 0 < X → P)
    (h9 : d2 = 0 → e2 < 0 → 0 < d1 → X < 0 → P)
    (h10 : d2 = 0 → e2 = 0 → X = 0 → 0 < d1 → e1 < 0 → P)
    (h11 : d2 = 0 → e2 = 0 → X = 0 → d1 < 0 → 0 < e1 → P)
    (h12 : d2 = 0 → 0 < e2 → 0 < d1 → 0 < X → P)
    (h13 : d2 = 0 → 0 < e2 → d1 < 0 → X < 0 → P)
    (h14 : 0 < d2 → e2 < 0 → X < 0 → P)
    (h15 : 0 < d2 → e2 < 0 → X = 0 → P)
    (h16 : 0 < d2 → e2 < 0 → 0 < X → P)
    (h17 : 0 < d2 → e2 = 0 → e1 < 0 → 0 < X → P)
    (h18 : 0 < d2 → e2 = 0 → 0 < e1 → X < 0 → P)
    (h19 : 0 < d2 → 0 < e2 → X < 0 → P)
    (h20 : 0 < d2 → 0 < e2 → 0 < X → P) : P := by
  obtain ⟨s1, s2, s3, s4, s5, s6⟩ := vertex_signs hX hop
  have z1 : d2 = 0 → X = 0 → e2 = 0 := fun k1 k2 => by
    rw [k1] at hX; simp only [Int.zero_mul, Int.sub_zero] at hX
    have := hop k2
    rw [k1] at this; simp only [Int.zero_mul, Int.add_zero] at this
    rcases Int.mul_eq_zero.1 (show d1 * e2 = 0 by omega) with k | k
    · rw [k] at this; simp at this
    · exact k
  have z2 : e2 = 0 → X = 0 → d2 = 0 := fun k1 k2 => by
    rw [k1] at hX; simp only [Int.mul_zero, Int.zero_sub] at hX
    have := hop k2
    rw [k1] at this; simp only [Int.mul_zero, Int.add_zero] at this
    rcases Int.mul_eq_zero.1 (show d2 * e1 = 0 by omega) with k | k
    · exact k
    · rw [k] at this; simp at this
  clear hX hop
  rcases Int.lt_trichotomy d2 0 with cd | cd | cd
  · rcases Int.lt_trichotomy e2 0 with ce | ce | ce
    · rcases Int.lt_trichotomy X 0 with cx | cx | cx
      · exact h1 cd ce cx
      · have := (s6 cx).2 cd; omega
      · exact h2 cd ce cx
    · have t := s4 ce cd
      rcases Int.lt_trichotomy X 0 with cx | cx | cx
      · exact h4 cd ce (t.2.1 cx) cx
      · have := z2 ce cx; omega
      · exact h3 cd ce (t.1.1 cx) cx
    · rcases Int.lt_trichotomy X 0 with cx | cx | cx
      · exact h5 cd ce cx
      · exact h6 cd ce cx
      · exact h7 cd ce cx
  · rcases Int.lt_trichotomy e2 0 with ce | ce | ce
    · have t := s2 cd ce
      rcases Int.lt_trichotomy X 0 with cx | cx | cx
      · exact h9 cd ce (t.2.1 cx) cx
      · have := z1 cd cx; omega
      · exact h8 cd ce (t.1.1 cx) cx
    · obtain ⟨k1, ⟨k2, k3⟩ | ⟨k2, k3⟩⟩ := s5 cd ce
      · exact h10 cd ce k1 k2 k3
      · exact h11 cd ce k1 k2 k3
    · have t := s1 cd ce
      rcases Int.lt_trichotomy X 0 with cx | cx | cx
      · exact h13 cd ce (t.2.1 cx) cx
      · have := z1 cd cx; omega
      · exact h12 cd ce (t.1.1 cx) cx
  · rcases Int.lt_trichotomy e2 0 with ce | ce | ce
    · rcases Int.lt_trichotomy X 0 with cx | cx | cx
      · exact h14 cd ce cx
      · exact h15 cd ce cx
      · exact h16 cd ce cx
    · have t := s3 ce cd
      rcases Int.lt_trichotomy X 0 with cx | cx | cx
      · exact h18 cd ce (t.2.1 cx) cx
      · have := z2 ce cx; omega
      · exact h17 cd ce (t.1.1 cx) cx
    · rcases Int.lt_trichotomy X 0 with cx | cx | cx
      · exact h19 cd ce cx
      · have := (s6 cx).1 cd; omega
      · exact h20 cd ce cx
theorem big_neg {k d e f : Int} (h : d.natAbs + e.natAbs + f.natAbs < k) (c : d < 0) : k * d < e ∧ k * d < f := by
  have := Int.mul_le_mul_of_nonneg_left (show d ≤ -1 by omega) (show 0 ≤ k by omega)
  omega
theorem big_zero {k d : Int} (c : d = 0) : k * d = 0 := by rw [c]; simp
theorem big_pos {k d e f : Int} (h : d.natAbs + e.natAbs + f.natAbs < k) (c : 0 < d) : e < k * d ∧ f < k * d := by
  have := Int.mul_le_mul_of_nonneg_left (show 1 ≤ d by omega) (show 0 ≤ k by omega)
  omega
theorem vertex_le {d1 d2 e1 e2 k X : Int} (hX : X = d1 * e2 - d2 * e1) (hop : X = 0 → d1 * e1 + d2 * e2 < 0) (hk : 2 * d2.natAbs + 2 * e2.natAbs + 1 < k) (hle : d2 ≤ e2) :
    -(if k * d2 ≤ e2 ∧ e2 < 0 ∧ 0 < -(k * X) then (1 : Int) else if 0 ≤ e2 ∧ e2 < k * d2 ∧ -(k * X) < 0 then -1 else 0) +
      (if 0 ≤ d2 ∧ d2 < k * e2 ∧ 0 < -(k * X) then 1 else if k * e2 ≤ d2 ∧ d2 < 0 ∧ -(k * X) < 0 then -1 else 0) +
      (if d2 < k * d2 ∧ k * d2 ≤ e2 ∧ -((k - 1) * X) < 0 then 1 else 0) - (if d2 < k * e2 ∧ k * e2 ≤ e2 ∧ -((k - 1) * X) < 0 then 1 else 0) = upE e1 e2 - upD d1 d2 := by
  have hk1 : d2.natAbs + e2.natAbs + d2.natAbs < k := by omega
  have hk2 : e2.natAbs + e2.natAbs + d2.natAbs < k := by omega
  have hk3 : 0 < k := by omega
  have hk4 : 0 < k - 1 := by omega
  unfold upE upD
  refine vertex_cases hX hop ?_ ?_ ?_ ?_ ?_ ?_ ?_ ?_ ?_ ?_ ?_ ?_ ?_ ?_ ?_ ?_ ?_ ?_ ?_ ?_ <;> clear hX hop hk
  · intro c1 c2 c3; first | (exfalso; omega) | (have A := big_neg (e := e2) (f := d2) hk1 c1; have B := big_neg (e := e2) (f := d2) hk2 c2; have Y := mpn hk3 c3; have Z := mpn hk4 c3; clear hk1 hk2 hk3 hk4; generalize k * d2 = A1 at *; generalize k * e2 = B1 at *; generalize k * X = Y1 at *; generalize (k - 1) * X = Z1 at *; (repeat (first | rw [if_neg (by omega)] | rw [if_pos (by omega)])) <;> (try omega))
  · intro c1 c2 c3; first | (exfalso; omega) | (have A := big_neg (e := e2) (f := d2) hk1 c1; have B := big_neg (e := e2) (f := d2) hk2 c2; have Y := mpp hk3 c3; have Z := mpp hk4 c3; clear hk1 hk2 hk3 hk4; generalize k * d2 = A1 at *; generalize k * e2 = B1 at *; generalize k * X = Y1 at *; generalize (k - 1) * X = Z1 at *; (repeat (first | rw [if_neg (by omega)] | rw [if_pos (by omega)])) <;> (try omega))
  · intro c1 c2 c3 c4; first | (exfalso; omega) | (have A := big_neg (e := e2) (f := d2) hk1 c1; have B := big_zero (k := k) c2; have Y := mpp hk3 c4; have Z := mpp hk4 c4; clear hk1 hk2 hk3 hk4; generalize k * d2 = A1 at *; generalize k * e2 = B1 at *; generalize k * X = Y1 at *; generalize (k - 1) * X = Z1 at *; (repeat (first | rw [if_neg (by omega)] | rw [if_pos (by omega)])) <;> (try omega))
  · intro c1 c2 c3 c4; first | (exfalso; omega) | (have A := big_neg (e := e2) (f := d2) hk1 c1; have B := big_zero (k := k) c2; have Y := mpn hk3 c4; have Z := mpn hk4 c4; clear hk1 hk2 hk3 hk4; generalize k * d2 = A1 at *; generalize k * e2 = B1 at *; generalize k * X = Y1 at *; generalize (k - 1) * X = Z1 at *; (repeat (first | rw [if_neg (by omega)] | rw [if_pos (by omega)])) <;> (try omega))
  · intro c1 c2 c3; first | (exfalso; omega) | (have A := big_neg (e := e2) (f := d2) hk1 c1; have B := big_pos (e := e2) (f := d2) hk2 c2; have Y := mpn hk3 c3; have Z := mpn hk4 c3; clear hk1 hk2 hk3 hk4; generalize k * d2 = A1 at *; generalize k * e2 = B1 at *; generalize k * X = Y1 at *; generalize (k - 1) * X = Z1 at *; (repeat (first | rw [if_neg (by omega)] | rw [if_pos (by omega)])) <;> (try omega))
  · intro c1 c2 c3; first | (exfalso; omega) | (have A := big_neg (e := e2) (f := d2) hk1 c1; have B := big_pos (e := e2) (f := d2) hk2 c2; have Y := big_zero (k := k) c3; have Z := big_zero (k := k - 1) c3; clear hk1 hk2 hk3 hk4; generalize k * d2 = A1 at *; generalize k * e2 = B1 at *; generalize k * X = Y1 at *; generalize (k - 1) * X = Z1 at *; (repeat (first | rw [if_neg (by omega)] | rw [if_pos (by omega)])) <;> (try omega))
  · intro c1 c2 c3; first | (exfalso; omega) | (have A := big_neg (e := e2) (f := d2) hk1 c1; have B := big_pos (e := e2) (f := d2) hk2 c2; have Y := mpp hk3 c3; have Z := mpp hk4 c3; clear hk1 hk2 hk3 hk4; generalize k * d2 = A1 at *; generalize k * e2 = B1 at *; generalize k * X = Y1 at *; generalize (k - 1) * X = Z1 at *; (repeat (first | rw [if_neg (by omega)] | rw [if_pos (by omega)])) <;> (try omega))
  · intro c1 c2 c3 c4; first | (exfalso; omega) | (have A := big_zero (k := k) c1; have B := big_neg (e := e2) (f := d2) hk2 c2; have Y := mpp hk3 c4; have Z := mpp hk4 c4; clear hk1 hk2 hk3 hk4; generalize k * d2 = A1 at *; generalize k * e2 = B1 at *; generalize k * X = Y1 at *; generalize (k - 1) * X = Z1 at *; (repeat (first | rw [if_neg (by omega)] | rw [if_pos (by omega)])) <;> (try omega))
  · intro c1 c2 c3 c4; first | (exfalso; omega) | (have A := big_zero (k := k) c1; have B := big_neg (e := e2) (f := d2) hk2 c2; have Y := mpn hk3 c4; have Z := mpn hk4 c4; clear hk1 hk2 hk3 hk4; generalize k * d2 = A1 at *; generalize k * e2 = B1 at *; generalize k * X = Y1 at *; generalize (k - 1) * X = Z1 at *; (repeat (first | rw [if_neg (by omega)] | rw [if_pos (by omega)])) <;> (try omega))
  · intro c1 c2 c3 c4 c5; first | (exfalso; omega) | (have A := big_zero (k := k) c1; have B := big_zero (k := k) c2; have Y := big_zero (k := k) c3; have Z := big_zero (k := k - 1) c3; clear hk1 hk2 hk3 hk4; generalize k * d2 = A1 at *; generalize k * e2 = B1 at *; generalize k * X = Y1 at *; generalize (k - 1) * X = Z1 at *; (repeat (first | rw [if_neg (by omega)] | rw [if_pos (by omega)])) <;> (try omega))
  · intro c1 c2 c3 c4 c5; first | (exfalso; omega) | (have A := big_zero (k := k) c1; have B := big_zero (k := k) c2; have Y := big_zero (k := k) c3; have Z := big_zero (k := k - 1) c3; clear hk1 hk2 hk3 hk4; generalize k * d2 = A1 at *; generalize k * e2 = B1 at *; generalize k * X = Y1 at *; generalize (k - 1) * X = Z1 at *; (repeat (first | rw [if_neg (by omega)] | rw [if_pos (by omega)])) <;> (try omega))
  · intro c1 c2 c3 c4; first | (exfalso; omega) | (have A := big_zero (k := k) c1; have B := big_pos (e := e2) (f := d2) hk2 c2; have Y := mpp hk3 c4; have Z := mpp hk4 c4; clear hk1 hk2 hk3 hk4; generalize k * d2 = A1 at *; generalize k * e2 = B1 at *; generalize k * X = Y1 at *; generalize (k - 1) * X = Z1 at *; (repeat (first | rw [if_neg (by omega)] | rw [if_pos (by omega)])) <;> (try omega))
  · intro c1 c2 c3 c4; first | (exfalso; omega) | (have A := big_zero (k := k) c1; have B := big_pos (e := e2) (f := d2) hk2 c2; have Y := mpn hk3 c4; have Z := mpn hk4 c4; clear hk1 hk2 hk3 hk4; generalize k * d2 = A1 at *; generalize k * e2 = B1 at *; generalize k * X = Y1 at *; generalize (k - 1) * X = Z1 at *; (repeat (first | rw [if_neg (by omega)] | rw [if_pos (by omega)])) <;> (try omega))
  · intro c1 c2 c3; first | (exfalso; omega) | (have A := big_pos (e := e2) (f := d2) hk1 c1; have B := big_neg (e := e2) (f := d2) hk2 c2; have Y := mpn hk3 c3; have Z := mpn hk4 c3; clear hk1 hk2 hk3 hk4; generalize k * d2 = A1 at *; generalize k * e2 = B1 at *; generalize k * X = Y1 at *; generalize (k - 1) * X = Z1 at *; (repeat (first | rw [if_neg (by omega)] | rw [if_pos (by omega)])) <;> (try omega))
  · intro c1 c2 c3; first | (exfalso; omega) | (have A := big_pos (e := e2) (f := d2) hk1 c1; have B := big_neg (e := e2) (f := d2) hk2 c2; have Y := big_zero (k := k) c3; have Z := big_zero (k := k - 1) c3; clear hk1 hk2 hk3 hk4; generalize k * d2 = A1 at *; generalize k * e2 = B1 at *; generalize k * X = Y1 at *; generalize (k - 1) * X = Z1 at *; (repeat (first | rw [if_neg (by omega)] | rw [if_pos (by omega)])) <;> (try omega))
  · intro c1 c2 c3; first | (exfalso; omega) | (have A := big_pos (e := e2) (f := d2) hk1 c1; have B := big_neg (e := e2) (f := d2) hk2 c2; have Y := mpp hk3 c3; have Z := mpp hk4 c3; clear hk1 hk2 hk3 hk4; generalize k * d2 = A1 at *; generalize k * e2 = B1 at *; generalize k * X = Y1 at *; generalize (k - 1) * X = Z1 at *; (repeat (first | rw [if_neg (by omega)] | rw [if_pos (by omega)])) <;> (try omega))
  · intro c1 c2 c3 c4; first | (exfalso; omega) | (have A := big_pos (e := e2) (f := d2) hk1 c1; have B := big_zero (k := k) c2; have Y := mpp hk3 c4; have Z := mpp hk4 c4; clear hk1 hk2 hk3 hk4; generalize k * d2 = A1 at *; generalize k * e2 = B1 at *; generalize k * X = Y1 at *; generalize (k - 1) * X = Z1 at *; (repeat (first | rw [if_neg (by omega)] | rw [if_pos (by omega)])) <;> (try omega))
  · intro c1 c2 c3 c4; first | (exfalso; omega) | (have A := big_pos (e := e2) (f := d2) hk1 c1; have B := big_zero (k := k) c2; have Y := mpn hk3 c4; have Z := mpn hk4 c4; clear hk1 hk2 hk3 hk4; generalize k * d2 = A1 at *; generalize k * e2 = B1 at *; generalize k * X = Y1 at *; generalize (k - 1) * X = Z1 at *; (repeat (first | rw [if_neg (by omega)] | rw [if_pos (by omega)])) <;> (try omega))
  · intro c1 c2 c3; first | (exfalso; omega) | (have A := big_pos (e := e2) (f := d2) hk1 c1; have B := big_pos (e := e2) (f := d2) hk2 c2; have Y := mpn hk3 c3; have Z := mpn hk4 c3; clear hk1 hk2 hk3 hk4; generalize k * d2 = A1 at *; generalize k * e2 = B1 at *; generalize k * X = Y1 at *; generalize (k - 1) * X = Z1 at *; (repeat (first | rw [if_neg (by omega)] | rw [if_pos (by omega)])) <;> (try omega))
  · intro c1 c2 c3; first | (exfalso; omega) | (have A := big_pos (e := e2) (f := d2) hk1 c1; have B := big_pos (e := e2) (f := d2) hk2 c2; have Y := mpp hk3 c3; have Z := mpp hk4 c3; clear hk1 hk2 hk3 hk4; generalize k * d2 = A1 at *; generalize k * e2 = B1 at *; generalize k * X = Y1 at *; generalize (k - 1) * X = Z1 at *; (repeat (first | rw [if_neg (by omega)] | rw [if_pos (by omega)])) <;> (try omega))
theorem vertex_gt {d1 d2 e1 e2 k X : Int} (hX : X = d1 * e2 - d2 * e1) (hop : X = 0 → d1 * e1 + d2 * e2 < 0) (hk : 2 * d2.natAbs + 2 * e2.natAbs + 1 < k) (hle : e2 ≤ d2) :
    (if k * d2 ≤ e2 ∧ e2 < 0 ∧ 0 < -(k * X) then (1 : Int) else if 0 ≤ e2 ∧ e2 < k * d2 ∧ -(k * X) < 0 then -1 else 0) -
      (if 0 ≤ d2 ∧ d2 < k * e2 ∧ 0 < -(k * X) then 1 else if k * e2 ≤ d2 ∧ d2 < 0 ∧ -(k * X) < 0 then -1 else 0) +
      (if e2 < k * d2 ∧ k * d2 ≤ d2 ∧ (k - 1) * X < 0 then 1 else 0) - (if e2 < k * e2 ∧ k * e2 ≤ d2 ∧ (k - 1) * X < 0 then 1 else 0) = upD d1 d2 - upE e1 e2 := by
  have hk1 : d2.natAbs + e2.natAbs + d2.natAbs < k := by omega
  have hk2 : e2.natAbs + e2.natAbs + d2.natAbs < k := by omega
  have hk3 : 0 < k := by omega
  have hk4 : 0 < k - 1 := by omega
  unfold upE upD
  refine vertex_cases hX hop ?_ ?_ ?_ ?_ ?_ ?_ ?_ ?_ ?_ ?_ ?_ ?_ ?_ ?_ ?_ ?_ ?_ ?_ ?_ ?_ <;> clear hX hop hk
  · intro c1 c2 c3; first | (exfalso; omega) | (have A := big_neg (e := e2) (f := d2) hk1 c1; have B := big_neg (e := e2) (f := d2) hk2 c2; have Y := mpn hk3 c3; have Z := mpn hk4 c3; clear hk1 hk2 hk3 hk4; generalize k * d2 = A1 at *; generalize k * e2 = B1 at *; generalize k * X = Y1 at *; generalize (k - 1) * X = Z1 at *; (repeat (first | rw [if_neg (by omega)] | rw [if_pos (by omega)])) <;> (try omega))
  · intro c1 c2 c3; first | (exfalso; omega) | (have A := big_neg (e := e2) (f := d2) hk1 c1; have B := big_neg (e := e2) (f := d2) hk2 c2; have Y := mpp hk3 c3; have Z := mpp hk4 c3; clear hk1 hk2 hk3 hk4; generalize k * d2 = A1 at *; generalize k * e2 = B1 at *; generalize k * X = Y1 at *; generalize (k - 1) * X = Z1 at *; (repeat (first | rw [if_neg (by omega)] | rw [if_pos (by omega)])) <;> (try omega))
  · intro c1 c2 c3 c4; first | (exfalso; omega) | (have A := big_neg (e := e2) (f := d2) hk1 c1; have B := big_zero (k := k) c2; have Y := mpp hk3 c4; have Z := mpp hk4 c4; clear hk1 hk2 hk3 hk4; generalize k * d2 = A1 at *; generalize k * e2 = B1 at *; generalize k * X = Y1 at *; generalize (k - 1) * X = Z1 at *; (repeat (first | rw [if_neg (by omega)] | rw [if_pos (by omega)])) <;> (try omega))
  · intro c1 c2 c3 c4; first | (exfalso; omega) | (have A := big_neg (e := e2) (f := d2) hk1 c1; have B := big_zero (k := k) c2; have Y := mpn hk3 c4; have Z := mpn hk4 c4; clear hk1 hk2 hk3 hk4; generalize k * d2 = A1 at *; generalize k * e2 = B1 at *; generalize k * X = Y1 at *; generalize (k - 1) * X = Z1 at *; (repeat (first | rw [if_neg (by omega)] | rw [if_pos (by omega)])) <;> (try omega))
  · intro c1 c2 c3; first | (exfalso; omega) | (have A := big_neg (e := e2) (f := d2) hk1 c1; have B := big_pos (e := e2) (f := d2) hk2 c2; have Y := mpn hk3 c3; have Z := mpn hk4 c3; clear hk1 hk2 hk3 hk4; generalize k * d2 = A1 at *; generalize k * e2 = B1 at *; generalize k * X = Y1 at *; generalize (k - 1) * X = Z1 at *; (repeat (first | rw [if_neg (by omega)] | rw [if_pos (by omega)])) <;> (try omega))
  · intro c1 c2 c3; first | (exfalso; omega) | (have A := big_neg (e := e2) (f := d2) hk1 c1; have B := big_pos (e := e2) (f := d2) hk2 c2; have Y := big_zero (k := k) c3; have Z := big_zero (k := k - 1) c3; clear hk1 hk2 hk3 hk4; generalize k * d2 = A1 at *; generalize k * e2 = B1 at *; generalize k * X = Y1 at *; generalize (k - 1) * X = Z1 at *; (repeat (first | rw [if_neg (by omega)] | rw [if_pos (by omega)])) <;> (try omega))
  · intro c1 c2 c3; first | (exfalso; omega) | (have A := big_neg (e := e2) (f := d2) hk1 c1; have B := big_pos (e := e2) (f := d2) hk2 c2; have Y := mpp hk3 c3; have Z := mpp hk4 c3; clear hk1 hk2 hk3 hk4; generalize k * d2 = A1 at *; generalize k * e2 = B1 at *; generalize k * X = Y1 at *; generalize (k - 1) * X = Z1 at *; (repeat (first | rw [if_neg (by omega)] | rw [if_pos (by omega)])) <;> (try omega))
  · intro c1 c2 c3 c4; first | (exfalso; omega) | (have A := big_zero (k := k) c1; have B := big_neg (e := e2) (f := d2) hk2 c2; have Y := mpp hk3 c4; have Z := mpp hk4 c4; clear hk1 hk2 hk3 hk4; generalize k * d2 = A1 at *; generalize k * e2 = B1 at *; generalize k * X = Y1 at *; generalize (k - 1) * X = Z1 at *; (repeat (first | rw [if_neg (by omega)] | rw [if_pos (by omega)])) <;> (try omega))
  · intro c1 c2 c3 c4; first | (exfalso; omega) | (have A := big_zero (k := k) c1; have B := big_neg (e := e2) (f := d2) hk2 c2; have Y := mpn hk3 c4; have Z := mpn hk4 c4; clear hk1 hk2 hk3 hk4; generalize k * d2 = A1 at *; generalize k * e2 = B1 at *; generalize k * X = Y1 at *; generalize (k - 1) * X = Z1 at *; (repeat (first | rw [if_neg (by omega)] | rw [if_pos (by omega)])) <;> (try omega))
  · intro c1 c2 c3 c4 c5; first | (exfalso; omega) | (have A := big_zero (k := k) c1; have B := big_zero (k := k) c2; have Y := big_zero (k := k) c3; have Z := big_zero (k := k - 1) c3; clear hk1 hk2 hk3 hk4; generalize k * d2 = A1 at *; generalize k * e2 = B1 at *; generalize k * X = Y1 at *; generalize (k - 1) * X = Z1 at *; (repeat (first | rw [if_neg (by omega)] | rw [if_pos (by omega)])) <;> (try omega))
  · intro c1 c2 c3 c4 c5; first | (exfalso; omega) | (have A := big_zero (k := k) c1; have B := big_zero (k := k) c2; have Y := big_zero (k := k) c3; have Z := big_zero (k := k - 1) c3; clear hk1 hk2 hk3 hk4; generalize k * d2 = A1 at *; generalize k * e2 = B1 at *; generalize k * X = Y1 at *; generalize (k - 1) * X = Z1 at *; (repeat (first | rw [if_neg (by omega)] | rw [if_pos (by omega)])) <;> (try omega))
  · intro c1 c2 c3 c4; first | (exfalso; omega) | (have A := big_zero (k := k) c1; have B := big_pos (e := e2) (f := d2) hk2 c2; have Y := mpp hk3 c4; have Z := mpp hk4 c4; clear hk1 hk2 hk3 hk4; generalize k * d2 = A1 at *; generalize k * e2 = B1 at *; generalize k * X = Y1 at *; generalize (k - 1) * X = Z1 at *; (repeat (first | rw [if_neg (by omega)] | rw [if_pos (by omega)])) <;> (try omega))
  · intro c1 c2 c3 c4; first | (exfalso; omega) | (have A := big_zero (k := k) c1; have B := big_pos (e := e2) (f := d2) hk2 c2; have Y := mpn hk3 c4; have Z := mpn hk4 c4; clear hk1 hk2 hk3 hk4; generalize k * d2 = A1 at *; generalize k * e2 = B1 at *; generalize k * X = Y1 at *; generalize (k - 1) * X = Z1 at *; (repeat (first | rw [if_neg (by omega)] | rw [if_pos (by omega)])) <;> (try omega))
  · intro c1 c2 c3; first | (exfalso; omega) | (have A := big_pos (e := e2) (f := d2) hk1 c1; have B := big_neg (e := e2) (f := d2) hk2 c2; have Y := mpn hk3 c3; have Z := mpn hk4 c3; clear hk1 hk2 hk3 hk4; generalize k * d2 = A1 at *; generalize k * e2 = B1 at *; generalize k * X = Y1 at *; generalize (k - 1) * X = Z1 at *; (repeat (first | rw [if_neg (by omega)] | rw [if_pos (by omega)])) <;> (try omega))
  · intro c1 c2 c3; first | (exfalso; omega) | (have A := big_pos (e := e2) (f := d2) hk1 c1; have B := big_neg (e := e2) (f := d2) hk2 c2; have Y := big_zero (k := k) c3; have Z := big_zero (k := k - 1) c3; clear hk1 hk2 hk3 hk4; generalize k * d2 = A1 at *; generalize k * e2 = B1 at *; generalize k * X = Y1 at *; generalize (k - 1) * X = Z1 at *; (repeat (first | rw [if_neg (by omega)] | rw [if_pos (by omega)])) <;> (try omega))
  · intro c1 c2 c3; first | (exfalso; omega) | (have A := big_pos (e := e2) (f := d2) hk1 c1; have B := big_neg (e := e2) (f := d2) hk2 c2; have Y := mpp hk3 c3; have Z := mpp hk4 c3; clear hk1 hk2 hk3 hk4; generalize k * d2 = A1 at *; generalize k * e2 = B1 at *; generalize k * X = Y1 at *; generalize (k - 1) * X = Z1 at *; (repeat (first | rw [if_neg (by omega)] | rw [if_pos (by omega)])) <;> (try omega))
  · intro c1 c2 c3 c4; first | (exfalso; omega) | (have A := big_pos (e := e2) (f := d2) hk1 c1; have B := big_zero (k := k) c2; have Y := mpp hk3 c4; have Z := mpp hk4 c4; clear hk1 hk2 hk3 hk4; generalize k * d2 = A1 at *; generalize k * e2 = B1 at *; generalize k * X = Y1 at *; generalize (k - 1) * X = Z1 at *; (repeat (first | rw [if_neg (by omega)] | rw [if_pos (by omega)])) <;> (try omega))
  · intro c1 c2 c3 c4; first | (exfalso; omega) | (have A := big_pos (e := e2) (f := d2) hk1 c1; have B := big_zero (k := k) c2; have Y := mpn hk3 c4; have Z := mpn hk4 c4; clear hk1 hk2 hk3 hk4; generalize k * d2 = A1 at *; generalize k * e2 = B1 at *; generalize k * X = Y1 at *; generalize (k - 1) * X = Z1 at *; (repeat (first | rw [if_neg (by omega)] | rw [if_pos (by omega)])) <;> (try omega))
  · intro c1 c2 c3; first | (exfalso; omega) | (have A := big_pos (e := e2) (f := d2) hk1 c1; have B := big_pos (e := e2) (f := d2) hk2 c2; have Y := mpn hk3 c3; have Z := mpn hk4 c3; clear hk1 hk2 hk3 hk4; generalize k * d2 = A1 at *; generalize k * e2 = B1 at *; generalize k * X = Y1 at *; generalize (k - 1) * X = Z1 at *; (repeat (first | rw [if_neg (by omega)] | rw [if_pos (by omega)])) <;> (try omega))
  · intro c1 c2 c3; first | (exfalso; omega) | (have A := big_pos (e := e2) (f := d2) hk1 c1; have B := big_pos (e := e2) (f := d2) hk2 c2; have Y := mpp hk3 c3; have Z := mpp hk4 c3; clear hk1 hk2 hk3 hk4; generalize k * d2 = A1 at *; generalize k * e2 = B1 at *; generalize k * X = Y1 at *; generalize (k - 1) * X = Z1 at *; (repeat (first | rw [if_neg (by omega)] | rw [if_pos (by omega)])) <;> (try omega))
/-- The point near b on the way to a, seen k times as large. -/
def near (k : Int) (b a : Int × Int) : Int × Int := (k * b.1 + (a.1 - b.1), k * b.2 + (a.2 - b.2))
theorem near_inn {k : Int} (hk : 1 < k) {a b : Int × Int} (hab : a ≠ b) : inn (sc k a) (sc k b) (near k b a) := by
  have np := norm_pos hab
  have e1 : turn (sc k a) (sc k b) (near k b a) = 0 := by unfold turn sc near; grind
  have e2 : dot (near k b a) (sc k a) (sc k b) = -((k - 1) * ((b.1 - a.1) * (b.1 - a.1) + (b.2 - a.2) * (b.2 - a.2))) := by unfold dot sc near; grind
  have := mpp (show 0 < k - 1 by omega) np
  refine ⟨onB_mk e1 (by omega), fun e => ?_, fun e => ?_⟩
  · unfold near sc at e
    rw [Prod.mk.injEq] at e
    have f1 : (k - 1) * (b.1 - a.1) = 0 := by grind
    have f2 : (k - 1) * (b.2 - a.2) = 0 := by grind
    refine hab (Prod.ext ?_ ?_)
    · rcases Int.mul_eq_zero.1 f1 with k | k <;> omega
    · rcases Int.mul_eq_zero.1 f2 with k | k <;> omega
  · unfold near sc at e
    rw [Prod.mk.injEq] at e
    refine hab (Prod.ext ?_ ?_) <;> omega
theorem upD_eq {k : Int} (_hk : 0 < k) (a b : Int × Int) : up a b = upD (a.1 - b.1) (a.2 - b.2) := by
  unfold up upD
  by_cases h : a.2 < b.2 ∨ (a.2 = b.2 ∧ b.1 < a.1)
  · rw [if_pos h, if_pos (by omega)]
  · rw [if_neg h, if_neg (by omega)]
theorem upE_eq (a b : Int × Int) : up a b = upE (b.1 - a.1) (b.2 - a.2) := by
  unfold up upE
  by_cases h : a.2 < b.2 ∨ (a.2 = b.2 ∧ b.1 < a.1)
  · rw [if_pos h, if_pos (by omega)]
  · rw [if_neg h, if_neg (by omega)]
theorem if_iff {P Q : Prop} [Decidable P] [Decidable Q] {a b c d : Int} (h : P ↔ Q) (h1 : a = c) (h2 : b = d) : (if P then a else b) = if Q then c else d := by
  subst h1 h2
  by_cases hp : P
  · rw [if_pos hp, if_pos (h.1 hp)]
  · rw [if_neg hp, if_neg (fun q => hp (h.2 q))]
theorem term_in (a b d1 d2 e1 e2 k : Int) : cr (a + e1, b + e2) (a + k * d1, b + k * d2) (a, b) =
    (if k * d2 ≤ e2 ∧ e2 < 0 ∧ 0 < -(k * (d1 * e2 - d2 * e1)) then (1 : Int) else if 0 ≤ e2 ∧ e2 < k * d2 ∧ -(k * (d1 * e2 - d2 * e1)) < 0 then -1 else 0) := by
  have ht : turn (a + k * d1, b + k * d2) (a, b) (a + e1, b + e2) = -(k * (d1 * e2 - d2 * e1)) := by unfold turn; grind
  unfold cr; rw [ht]
  exact if_iff (by simp only; omega) rfl (if_iff (by simp only; omega) rfl rfl)
theorem term_out (a b d1 d2 e1 e2 k : Int) : cr (a + d1, b + d2) (a, b) (a + k * e1, b + k * e2) =
    (if 0 ≤ d2 ∧ d2 < k * e2 ∧ 0 < -(k * (d1 * e2 - d2 * e1)) then (1 : Int) else if k * e2 ≤ d2 ∧ d2 < 0 ∧ -(k * (d1 * e2 - d2 * e1)) < 0 then -1 else 0) := by
  have ht : turn (a, b) (a + k * e1, b + k * e2) (a + d1, b + d2) = -(k * (d1 * e2 - d2 * e1)) := by unfold turn; grind
  unfold cr; rw [ht]
  exact if_iff (by simp only; omega) rfl (if_iff (by simp only; omega) rfl rfl)
theorem term_reg1 (a b d1 d2 e1 e2 k : Int) : reg (a + d1, b + d2) (a + e1, b + e2) (a + k * d1, b + k * d2) = (if d2 < k * d2 ∧ k * d2 ≤ e2 ∧ -((k - 1) * (d1 * e2 - d2 * e1)) < 0 then 1 else 0) := by
  have ht : turn (a + d1, b + d2) (a + e1, b + e2) (a + k * d1, b + k * d2) = -((k - 1) * (d1 * e2 - d2 * e1)) := by unfold turn; grind
  unfold reg; rw [ht]
  exact if_iff (by simp only; omega) rfl rfl
theorem term_reg2 (a b d1 d2 e1 e2 k : Int) : reg (a + d1, b + d2) (a + e1, b + e2) (a + k * e1, b + k * e2) = (if d2 < k * e2 ∧ k * e2 ≤ e2 ∧ -((k - 1) * (d1 * e2 - d2 * e1)) < 0 then 1 else 0) := by
  have ht : turn (a + d1, b + d2) (a + e1, b + e2) (a + k * e1, b + k * e2) = -((k - 1) * (d1 * e2 - d2 * e1)) := by unfold turn; grind
  unfold reg; rw [ht]
  exact if_iff (by simp only; omega) rfl rfl
theorem term_reg3 (a b d1 d2 e1 e2 k : Int) : reg (a + e1, b + e2) (a + d1, b + d2) (a + k * d1, b + k * d2) = (if e2 < k * d2 ∧ k * d2 ≤ d2 ∧ (k - 1) * (d1 * e2 - d2 * e1) < 0 then 1 else 0) := by
  have ht : turn (a + e1, b + e2) (a + d1, b + d2) (a + k * d1, b + k * d2) = (k - 1) * (d1 * e2 - d2 * e1) := by unfold turn; grind
  unfold reg; rw [ht]
  exact if_iff (by simp only; omega) rfl rfl
theorem term_reg4 (a b d1 d2 e1 e2 k : Int) : reg (a + e1, b + e2) (a + d1, b + d2) (a + k * e1, b + k * e2) = (if e2 < k * e2 ∧ k * e2 ≤ d2 ∧ (k - 1) * (d1 * e2 - d2 * e1) < 0 then 1 else 0) := by
  have ht : turn (a + e1, b + e2) (a + d1, b + d2) (a + k * e1, b + k * e2) = (k - 1) * (d1 * e2 - d2 * e1) := by unfold turn; grind
  unfold reg; rw [ht]
  exact if_iff (by simp only; omega) rfl rfl
/-- A ray that moves along a way that only two sides touch. -/
theorem wsum_but2 {p : Nat → Int × Int} {n : Nat} (h2 : 2 ≤ n) (hper : p n = p 0) {x y : Int × Int} (hxy : x.2 ≤ y.2) (ha : ∀ j, 1 < j → j < n → apart x y (p j) (p (j + 1))) :
    wsum p n x - wsum p n y = (cr x (p 0) (p 1) - cr y (p 0) (p 1) - (reg x y (p 1) - reg x y (p 0))) + (cr x (p 1) (p 2) - cr y (p 1) (p 2) - (reg x y (p 2) - reg x y (p 1))) := by
  have e := sumN_two (f := fun i => (cr x (p i) (p (i + 1)) - cr y (p i) (p (i + 1))) - (reg x y (p (i + 1)) - reg x y (p i))) (i := 0) (k := 1) (n := n) (by omega) (by omega) (by omega) (fun j hj j0 j1 => by
    have := cross hxy (ha j (by omega) hj)
    omega)
  rw [sumN_sub, sumN_sub, sumN_tele (fun i => reg x y (p i))] at e
  simp only [hper] at e
  unfold wsum
  simp only [Nat.zero_add, Nat.reduceAdd] at e ⊢
  omega
theorem corner_sum {u v w : Int × Int} {k d1 d2 e1 e2 a b : Int} {S : Int × Int → Int} (hk : 2 * d2.natAbs + 2 * e2.natAbs + 1 < k)
    (hop : d1 * e2 - d2 * e1 = 0 → d1 * e1 + d2 * e2 < 0)
    (hu : u = (a + k * d1, b + k * d2)) (hv : v = (a, b)) (hw : w = (a + k * e1, b + k * e2))
    (hS : ∀ x y : Int × Int, (x = (a + d1, b + d2) ∧ y = (a + e1, b + e2) ∨ y = (a + d1, b + d2) ∧ x = (a + e1, b + e2)) → x.2 ≤ y.2 → S x - S y = (cr x u v - cr y u v - (reg x y v - reg x y u)) + (cr x v w - cr y v w - (reg x y w - reg x y v))) :
    S (a + d1, b + d2) + upD d1 d2 = S (a + e1, b + e2) + upE e1 e2 := by
  have t1 : cr (a + d1, b + d2) (a + k * d1, b + k * d2) (a, b) = 0 := cr_on (by unfold turn; grind)
  have t2 : cr (a + e1, b + e2) (a, b) (a + k * e1, b + k * e2) = 0 := cr_on (by unfold turn; grind)
  subst hu hv hw
  rcases Int.le_total d2 e2 with c | c
  · have g := hS (a + d1, b + d2) (a + e1, b + e2) (.inl ⟨rfl, rfl⟩) (by simp only; omega)
    rw [t1, t2, term_in, term_out, term_reg1, term_reg2] at g
    have := vertex_le (X := d1 * e2 - d2 * e1) rfl hop (k := k) hk c
    omega
  · have g := hS (a + e1, b + e2) (a + d1, b + d2) (.inr ⟨rfl, rfl⟩) (by simp only; omega)
    rw [t1, t2, term_in, term_out, term_reg3, term_reg4] at g
    have := vertex_gt (X := d1 * e2 - d2 * e1) rfl hop (k := k) hk c
    omega
theorem spike_op {a b c : Int × Int} (hs : ¬ (turn a b c = 0 ∧ 0 < dot b a c)) (hab : a ≠ b) (hbc : b ≠ c) (h0 : turn a b c = 0) : dot b a c < 0 := by
  have hle : dot b a c ≤ 0 := by
    rcases Int.lt_or_le 0 (dot b a c) with c | c
    · exact absurd ⟨h0, c⟩ hs
    · exact c
  have n1 := norm_pos (fun e => hab e.symm)
  have n2 := norm_pos hbc
  have sq : dot b a c * dot b a c + turn a b c * turn a b c = ((a.1 - b.1) * (a.1 - b.1) + (a.2 - b.2) * (a.2 - b.2)) * ((c.1 - b.1) * (c.1 - b.1) + (c.2 - b.2) * (c.2 - b.2)) := by
    unfold dot turn; grind
  have := mpp n1 n2
  rw [← sq, h0] at this
  rcases Int.lt_or_le (dot b a c) 0 with c' | c'
  · exact c'
  · have z : dot b a c = 0 := by omega
    rw [z] at this; simp at this
theorem apart_flip {x y a b : Int × Int} (h : apart x y a b) : apart y x a b := apart_symm (apart_swap (apart_symm h))
/-- Near a corner: from one side to the next. -/
theorem Simple.corner_step {p : Nat → Int × Int} {n : Nat} (h : Simple p n) : ∃ k0 : Int, ∀ k, k0 ≤ k → 0 < k →
    wsum (fun i => sc k (p i)) n (near k (p 1) (p 0)) + up (p 0) (p 1) = wsum (fun i => sc k (p i)) n (near k (p 1) (p 2)) + up (p 1) (p 2) := by
  have h3 := h.three
  have e01 : p 0 ≠ p 1 := h.ne (by rw [Nat.zero_mod, Nat.mod_eq_of_lt (by omega)]; omega)
  have e12 : p 1 ≠ p 2 := h.ne (by rw [Nat.mod_eq_of_lt (by omega), Nat.mod_eq_of_lt (by omega)]; omega)
  obtain ⟨k1, hk1⟩ := bound_all (P := fun j k => 1 < j → apart (near k (p 1) (p 0)) (near k (p 1) (p 2)) (sc k (p j)) (sc k (p (j + 1)))) n (fun j hj => by
    by_cases c : 1 < j
    · obtain ⟨k0, hk0⟩ := near_apart (h.corner_off c hj) ((p 0).1 - (p 1).1, (p 0).2 - (p 1).2) ((p 2).1 - (p 1).1, (p 2).2 - (p 1).2)
      exact ⟨k0, fun k a b _ => hk0 k a b⟩
    · exact ⟨0, fun k _ _ c' => absurd c' c⟩)
  refine ⟨max k1 (2 * ((p 0).2 - (p 1).2).natAbs + 2 * ((p 2).2 - (p 1).2).natAbs + 2), fun k hk hk0 => ?_⟩
  have hs := h.spike 0
  simp only [Nat.zero_add] at hs
  rw [upD_eq hk0 (p 0) (p 1), upE_eq (p 1) (p 2)]
  have ap := fun j h1 hj => hk1 k (by omega) hk0 j hj h1
  refine corner_sum (k := k) (u := sc k (p 0)) (v := sc k (p 1)) (w := sc k (p 2)) (a := k * (p 1).1) (b := k * (p 1).2) (S := wsum (fun i => sc k (p i)) n) (by omega) ?_ ?_ rfl ?_ ?_
  · intro h0
    have := spike_op hs e01 e12 (by unfold turn; grind)
    unfold dot at this
    exact this
  · unfold sc; rw [Prod.mk.injEq]; constructor <;> grind
  · unfold sc; rw [Prod.mk.injEq]; constructor <;> grind
  · intro x y hxy hle
    refine wsum_but2 (p := fun i => sc k (p i)) (by omega) ?_ hle ?_
    · show sc k (p n) = sc k (p 0)
      rw [show n = 0 + n by omega, h.per]
    · intro j h1 hj
      rcases hxy with ⟨rfl, rfl⟩ | ⟨rfl, rfl⟩
      · exact ap j h1 hj
      · exact apart_flip (ap j h1 hj)
theorem inn_sc {k : Int} (hk : 0 < k) {a b x : Int × Int} (h : inn a b x) : inn (sc k a) (sc k b) (sc k x) :=
  ⟨by rw [onB_sc hk]; exact h.1, fun e => h.2.1 (sc_inj hk e), fun e => h.2.2 (sc_inj hk e)⟩
theorem Simple.inside_at {p : Nat → Int × Int} {n : Nat} (h : Simple p n) (i : Nat) {x y : Int × Int} (hx : inn (p i) (p (i + 1)) x) (hy : inn (p i) (p (i + 1)) y) : wsum p n x = wsum p n y := by
  have := (h.shift i).inside_first (x := x) (y := y) (by simp only [Nat.zero_add]; rw [Nat.add_comm 1 i]; exact hx) (by simp only [Nat.zero_add]; rw [Nat.add_comm 1 i]; exact hy)
  rwa [h.wsum_shift, h.wsum_shift] at this
/-- Points inside a side, however large the plot is seen, are gone round alike. -/
theorem Simple.inside_scaled {p : Nat → Int × Int} {n : Nat} (h : Simple p n) (i : Nat) {k l : Int} (hk : 0 < k) (hl : 0 < l) {x y : Int × Int}
    (hx : inn (sc k (p i)) (sc k (p (i + 1))) x) (hy : inn (sc l (p i)) (sc l (p (i + 1))) y) : wsum (fun i => sc k (p i)) n x = wsum (fun i => sc l (p i)) n y := by
  rw [← wsum_sc hl (fun i => sc k (p i)) n x, ← wsum_sc hk (fun i => sc l (p i)) n y]
  have e : ∀ i, sc k (sc l (p i)) = sc l (sc k (p i)) := fun i => by rw [sc_sc, sc_sc, Int.mul_comm]
  have ef : (fun i => sc k (sc l (p i))) = fun i => sc l (sc k (p i)) := funext e
  rw [ef]
  exact ((h.scale hk).scale hl).inside_at i (inn_sc hl hx) (by rw [← e, ← e]; exact inn_sc hk hy)
theorem mid_inn {a b : Int × Int} (hab : a ≠ b) : inn (sc 2 a) (sc 2 b) (near 2 b a) := near_inn (by decide) hab
/-- What lies on the left of a side. -/
def lam (p : Nat → Int × Int) (n i : Nat) : Int := wsum (fun i => sc 2 (p i)) n (near 2 (p (i + 1)) (p i)) + up (p i) (p (i + 1))
theorem Simple.ne_next {p : Nat → Int × Int} {n : Nat} (h : Simple p n) (i : Nat) : p i ≠ p (i + 1) := by
  have h3 := h.three
  refine h.ne fun e => ?_
  have h1 := Nat.mod_lt i (show 0 < n by omega)
  rw [← Nat.mod_add_mod] at e
  by_cases c : i % n + 1 = n
  · rw [c, Nat.mod_self] at e; omega
  · rw [Nat.mod_eq_of_lt (show i % n + 1 < n by omega)] at e; omega
theorem Simple.lam_eq {p : Nat → Int × Int} {n : Nat} (h : Simple p n) (i : Nat) {k : Int} (hk : 0 < k) {x : Int × Int} (hx : inn (sc k (p i)) (sc k (p (i + 1))) x) :
    wsum (fun i => sc k (p i)) n x + up (p i) (p (i + 1)) = lam p n i := by
  unfold lam
  rw [h.inside_scaled i hk (by decide) hx (mid_inn (h.ne_next i))]
theorem near_inn' {k : Int} (hk : 1 < k) {a b : Int × Int} (hab : a ≠ b) : inn (sc k a) (sc k b) (near k a b) := by
  obtain ⟨h1, h2, h3⟩ := near_inn hk (fun e => hab e.symm)
  exact ⟨by rw [onB_swap]; exact h1, h3, h2⟩
theorem Simple.lam_step {p : Nat → Int × Int} {n : Nat} (h : Simple p n) (i : Nat) : lam p n i = lam p n (i + 1) := by
  obtain ⟨k0, hk⟩ := (h.shift i).corner_step
  have := hk (max k0 2) (by omega) (by omega)
  simp only [Nat.zero_add] at this
  rw [show 1 + i = i + 1 by omega, show 2 + i = i + 1 + 1 by omega, (h.scale (show 0 < max k0 2 by omega)).wsum_shift i, (h.scale (show 0 < max k0 2 by omega)).wsum_shift i] at this
  rw [← h.lam_eq i (show 0 < max k0 2 by omega) (near_inn (by omega) (h.ne_next i)), ← h.lam_eq (i + 1) (show 0 < max k0 2 by omega) (near_inn' (by omega) (h.ne_next (i + 1)))]
  exact this
theorem Simple.lam_all {p : Nat → Int × Int} {n : Nat} (h : Simple p n) : ∀ i, lam p n i = lam p n 0
  | 0 => rfl
  | i + 1 => by rw [← h.lam_step i, h.lam_all i]
/-- A point inside a side is on no other side. -/
theorem Simple.inside_off {p : Nat → Int × Int} {n : Nat} (h : Simple p n) {i j : Nat} (hi : i < n) (hj : j < n) (hij : j ≠ i) {x : Int × Int} (hx : inn (p i) (p (i + 1)) x) : onB (p j) (p (j + 1)) x = false := by
  have hx' : inn (p (0 + i)) (p (1 + i)) x := by rw [Nat.zero_add, Nat.add_comm 1 i]; exact hx
  have ht : (j + n - i) % n < n := Nat.mod_lt _ (by omega)
  have e : ((j + n - i) % n + i) % n = j := by
    rw [Nat.mod_add_mod, show j + n - i + i = j + n by omega, Nat.add_mod_right, Nat.mod_eq_of_lt hj]
  have e1 : p ((j + n - i) % n + i) = p j := by rw [← h.mod ((j + n - i) % n + i), e]
  have e2 : p ((j + n - i) % n + 1 + i) = p (j + 1) := by
    rw [← h.mod ((j + n - i) % n + 1 + i), show (j + n - i) % n + 1 + i = (j + n - i) % n + i + 1 by omega, ← Nat.mod_add_mod, e, h.mod]
  have t0 : 0 < (j + n - i) % n := by
    rcases Nat.eq_zero_or_pos ((j + n - i) % n) with c | c
    · rw [c, Nat.zero_add, Nat.mod_eq_of_lt hi] at e; omega
    · exact c
  have := (h.shift i).apart_first hx' hx' t0 ht
  simp only [e1, e2] at this
  exact this.1
theorem exists_min (f : Nat → Int) (P : Nat → Prop) : ∀ n : Nat, (∃ j, j < n ∧ P j) → ∃ j, j < n ∧ P j ∧ ∀ i, i < n → P i → f j ≤ f i
  | 0, ⟨j, h, _⟩ => by omega
  | n + 1, ⟨j, hj, pj⟩ => by
    by_cases c : ∃ j, j < n ∧ P j
    · obtain ⟨m, hm, pm, hmin⟩ := exists_min f P n c
      by_cases pn : P n
      · rcases Int.le_total (f m) (f n) with k | k
        · exact ⟨m, by omega, pm, fun i hi pi => by
            by_cases e : i = n
            · subst e; exact k
            · exact hmin i (by omega) pi⟩
        · exact ⟨n, by omega, pn, fun i hi pi => by
            by_cases e : i = n
            · subst e; exact Int.le_refl _
            · exact Int.le_trans k (hmin i (by omega) pi)⟩
      · exact ⟨m, by omega, pm, fun i hi pi => by
          by_cases e : i = n
          · subst e; exact absurd pi pn
          · exact hmin i (by omega) pi⟩
    · have e : j = n := by
        rcases Nat.lt_or_ge j n with k | k
        · exact absurd ⟨j, k, pj⟩ c
        · omega
      subst e
      exact ⟨j, hj, pj, fun i hi pi => by
        by_cases e : i = j
        · subst e; exact Int.le_refl _
        · exact absurd ⟨i, by omega, pi⟩ c⟩
theorem exists_mul (f : Nat → Int) : ∀ n : Nat, ∃ L : Int, 0 < L ∧ ∀ j, j < n → f j ≠ 0 → f j ∣ L
  | 0 => ⟨1, by decide, fun j h => by omega⟩
  | n + 1 => by
    obtain ⟨L, hL, h⟩ := exists_mul f n
    by_cases c : f n = 0
    · exact ⟨L, hL, fun j hj hne => by
        by_cases e : j = n
        · subst e; exact absurd c hne
        · exact h j (by omega) hne⟩
    · refine ⟨L * (f n).natAbs, Int.mul_pos hL (by omega), fun j hj hne => ?_⟩
      by_cases e : j = n
      · subst e; exact Int.dvd_mul_of_dvd_right (Int.dvd_natAbs.2 (Int.dvd_refl _))
      · exact Int.dvd_mul_of_dvd_left (h j (by omega) hne)
/-- A row of heights that a ray meets: where it meets a side, in whole numbers. -/
theorem meet_at {a b : Int × Int} {L y : Int} (hd : b.2 - a.2 ∣ L) (_hab : b.2 ≠ a.2) : ∃ P : Int, turn (sc L a) (sc L b) (P, L * y) = 0 := by
  obtain ⟨c, hc⟩ := hd
  refine ⟨L * a.1 + (b.1 - a.1) * (y - a.2) * c, ?_⟩
  have e : turn (sc L a) (sc L b) (L * a.1 + (b.1 - a.1) * (y - a.2) * c, L * y) = L * ((b.1 - a.1) * (y - a.2)) * (L - (b.2 - a.2) * c) := by unfold turn sc; grind
  rw [e, ← hc]; simp
theorem cr_at {a b : Int × Int} {P X y : Int} (ht : turn a b (P, y) = 0) (ha : a.2 ≠ y) (hb : b.2 ≠ y) :
    cr (X, y) a b = if a.2 < y ∧ y < b.2 ∧ X < P then 1 else if b.2 < y ∧ y < a.2 ∧ X < P then -1 else 0 := by
  have e : turn a b (X, y) = (b.2 - a.2) * (P - X) := by
    have : turn a b (X, y) = turn a b (P, y) + (b.2 - a.2) * (P - X) := by unfold turn; grind
    rw [this, ht]; omega
  unfold cr
  rw [e]
  refine if_iff ?_ rfl (if_iff ?_ rfl rfl)
  · constructor
    · rintro ⟨h1, h2, h3⟩
      refine ⟨by simp only at h1; omega, h2, ?_⟩
      rw [Int.mul_comm] at h3
      have := fpos h3 (by simp only at h1 h2; omega); omega
    · rintro ⟨h1, h2, h3⟩
      exact ⟨by simp only; omega, h2, mpp (by omega) (by omega)⟩
  · constructor
    · rintro ⟨h1, h2, h3⟩
      refine ⟨by simp only at h1; omega, h2, ?_⟩
      have h4 : 0 < (P - X) * (a.2 - b.2) := by
        have : (P - X) * (a.2 - b.2) = -((b.2 - a.2) * (P - X)) := by grind
        omega
      have := fpos h4 (by simp only at h1 h2; omega); omega
    · rintro ⟨h1, h2, h3⟩
      exact ⟨by simp only; omega, h2, mnp (by omega) (by omega)⟩
/-- A ray that meets no corner: what it meets first tells how often a point is gone round. -/
theorem Simple.first_hit {q : Nat → Int × Int} {n : Nat} (h : Simple q n) {y : Int × Int} (hy : ∀ i, (q i).2 ≠ y.2) :
    ((∀ i, i < n → cr y (q i) (q (i + 1)) = 0) ∧ wsum q n y = 0) ∨ wsum q n y = lam q n 0 ∨ wsum q n y = lam q n 0 - 1 := by
  obtain ⟨L, hL, hdv⟩ := exists_mul (fun j => (q (j + 1)).2 - (q j).2) n
  have hr := h.scale hL
  have hh : ∀ i, (sc L (q i)).2 ≠ L * y.2 := fun i e => hy i (Int.eq_of_mul_eq_mul_left (show L ≠ 0 by omega) e)
  have hP : ∀ j, ∃ P : Int, j < n → (q (j + 1)).2 ≠ (q j).2 → turn (sc L (q j)) (sc L (q (j + 1))) (P, L * y.2) = 0 := fun j => by
    by_cases c : j < n ∧ (q (j + 1)).2 ≠ (q j).2
    · obtain ⟨P, hP⟩ := meet_at (y := y.2) (hdv j c.1 (by have := c.2; omega)) c.2
      exact ⟨P, fun _ _ => hP⟩
    · exact ⟨0, fun a b => absurd ⟨a, b⟩ c⟩
  obtain ⟨P, hP⟩ : ∃ P : Nat → Int, ∀ j, j < n → (q (j + 1)).2 ≠ (q j).2 → turn (sc L (q j)) (sc L (q (j + 1))) (P j, L * y.2) = 0 :=
    ⟨fun j => (hP j).choose, fun j => (hP j).choose_spec⟩
  -- how a ray at this height meets a side
  have hcr : ∀ X j, j < n → cr (X, L * y.2) (sc L (q j)) (sc L (q (j + 1))) = if (sc L (q j)).2 < L * y.2 ∧ L * y.2 < (sc L (q (j + 1))).2 ∧ X < P j then 1 else if (sc L (q (j + 1))).2 < L * y.2 ∧ L * y.2 < (sc L (q j)).2 ∧ X < P j then -1 else 0 := fun X j hj => by
    by_cases c : (q (j + 1)).2 = (q j).2
    · have e : (sc L (q (j + 1))).2 = (sc L (q j)).2 := by unfold sc; simp [c]
      unfold cr
      rw [e, if_neg (by omega), if_neg (by omega), if_neg (by omega), if_neg (by omega)]
    · exact cr_at (hP j hj c) (hh j) (hh (j + 1))
  have hz : wsum q n y = sumN (fun j => cr (L * y.1, L * y.2) (sc L (q j)) (sc L (q (j + 1)))) n := (wsum_sc hL q n y).symm
  by_cases hex : ∃ j, j < n ∧ (((sc L (q j)).2 < L * y.2 ∧ L * y.2 < (sc L (q (j + 1))).2) ∨ ((sc L (q (j + 1))).2 < L * y.2 ∧ L * y.2 < (sc L (q j)).2)) ∧ L * y.1 < P j
  · right
    obtain ⟨j, hj, ⟨hc, hX⟩, hmin⟩ := exists_min P (fun j => (((sc L (q j)).2 < L * y.2 ∧ L * y.2 < (sc L (q (j + 1))).2) ∨ ((sc L (q (j + 1))).2 < L * y.2 ∧ L * y.2 < (sc L (q j)).2)) ∧ L * y.1 < P j) n (by
      obtain ⟨j, a, b, c⟩ := hex; exact ⟨j, a, b, c⟩)
    have hne : (q (j + 1)).2 ≠ (q j).2 := fun e => by
      have : (sc L (q (j + 1))).2 = (sc L (q j)).2 := by unfold sc; simp [e]
      omega
    have ht := hP j hj hne
    have hin : inn (sc L (q j)) (sc L (q (j + 1))) (P j, L * y.2) := by
      refine ⟨?_, fun e => hh j (by rw [← e]), fun e => hh (j + 1) (by rw [← e])⟩
      rcases hc with ⟨c1, c2⟩ | ⟨c1, c2⟩
      · exact on_y ht (by simp only; omega) (by simp only; omega) (by omega)
      · rw [← onB_swap]; exact on_y (by rw [turn_swap, ht]; rfl) (by simp only; omega) (by simp only; omega) (by omega)
    have hm := h.lam_eq j hL hin
    rw [h.lam_all] at hm
    have hdiff : wsum q n y - wsum (fun i => sc L (q i)) n (P j, L * y.2) = cr (L * y.1, L * y.2) (sc L (q j)) (sc L (q (j + 1))) := by
      rw [hz]
      unfold wsum
      rw [← sumN_sub, sumN_one hj]
      · show cr (L * y.1, L * y.2) (sc L (q j)) (sc L (q (j + 1))) - cr (P j, L * y.2) (sc L (q j)) (sc L (q (j + 1))) = _
        rw [cr_on ht]; omega
      · intro i hi hij
        show cr (L * y.1, L * y.2) (sc L (q i)) (sc L (q (i + 1))) - cr (P j, L * y.2) (sc L (q i)) (sc L (q (i + 1))) = 0
        rw [hcr _ i hi, hcr _ i hi]
        by_cases hci : ((sc L (q i)).2 < L * y.2 ∧ L * y.2 < (sc L (q (i + 1))).2) ∨ ((sc L (q (i + 1))).2 < L * y.2 ∧ L * y.2 < (sc L (q i)).2)
        · have hpe : P i ≠ P j := fun e => by
            have hoff := hr.inside_off hj hi hij hin
            have hnei : (q (i + 1)).2 ≠ (q i).2 := fun e => by
              have : (sc L (q (i + 1))).2 = (sc L (q i)).2 := by unfold sc; simp [e]
              omega
            have hti := hP i hi hnei
            rw [e] at hti
            have hon : onB (sc L (q i)) (sc L (q (i + 1))) (P j, L * y.2) = true := by
              rcases hci with ⟨c1, c2⟩ | ⟨c1, c2⟩
              · exact on_y hti (by simp only; omega) (by simp only; omega) (by omega)
              · rw [← onB_swap]; exact on_y (by rw [turn_swap, hti]; rfl) (by simp only; omega) (by simp only; omega) (by omega)
            rw [hon] at hoff; cases hoff
          by_cases hXi : L * y.1 < P i
          · have hmi := hmin i hi ⟨hci, hXi⟩
            rw [if_iff (c := 1) (d := if (sc L (q (i + 1))).2 < L * y.2 ∧ L * y.2 < (sc L (q i)).2 ∧ P j < P i then (-1 : Int) else 0) (Q := (sc L (q i)).2 < L * y.2 ∧ L * y.2 < (sc L (q (i + 1))).2 ∧ P j < P i) (by omega) rfl (if_iff (by omega) rfl rfl)]
            omega
          · rw [if_neg (by omega), if_neg (by omega), if_neg (by omega), if_neg (by omega)]; rfl
        · rw [if_neg (by omega), if_neg (by omega), if_neg (by omega), if_neg (by omega)]; rfl
    have hup : up (q j) (q (j + 1)) = if (sc L (q j)).2 < (sc L (q (j + 1))).2 then 1 else 0 := by
      unfold up
      have : (sc L (q j)).2 < (sc L (q (j + 1))).2 ↔ (q j).2 < (q (j + 1)).2 := by unfold sc; exact Int.mul_lt_mul_left hL
      exact if_iff (by rw [this]; omega) rfl rfl
    rw [hcr _ j hj] at hdiff
    rcases hc with ⟨c1, c2⟩ | ⟨c1, c2⟩
    · rw [if_pos (by omega)] at hup
      rw [if_pos (by omega)] at hdiff
      left; omega
    · rw [if_neg (by omega)] at hup
      rw [if_neg (by omega), if_pos (by omega)] at hdiff
      right; omega
  · left
    have hall : ∀ i, i < n → cr (L * y.1, L * y.2) (sc L (q i)) (sc L (q (i + 1))) = 0 := fun i hi => by
      rw [hcr _ i hi]
      have : ¬ ((((sc L (q i)).2 < L * y.2 ∧ L * y.2 < (sc L (q (i + 1))).2) ∨ ((sc L (q (i + 1))).2 < L * y.2 ∧ L * y.2 < (sc L (q i)).2)) ∧ L * y.1 < P i) := fun c => hex ⟨i, hi, c⟩
      rw [if_neg (by omega), if_neg (by omega)]
    exact ⟨fun i hi => by rw [← cr_sc hL]; exact hall i hi, by rw [hz]; exact sumN_zero hall⟩
theorem lam_scale {p : Nat → Int × Int} {n : Nat} (h : Simple p n) {k : Int} (hk : 0 < k) : lam (fun i => sc k (p i)) n 0 = lam p n 0 := by
  have hin := mid_inn ((h.scale hk).ne_next 0)
  have e1 := (h.scale hk).lam_eq 0 (show (0 : Int) < 2 by decide) hin
  rw [sc_sc, sc_sc] at hin
  have e2 := h.lam_eq 0 (show (0 : Int) < 2 * k by omega) hin
  have eu : up (sc k (p 0)) (sc k (p (0 + 1))) = up (p 0) (p (0 + 1)) := by
    unfold up sc
    exact if_iff (by
      have a1 : k * (p 0).2 < k * (p (0 + 1)).2 ↔ (p 0).2 < (p (0 + 1)).2 := Int.mul_lt_mul_left hk
      have a2 : k * (p (0 + 1)).1 < k * (p 0).1 ↔ (p (0 + 1)).1 < (p 0).1 := Int.mul_lt_mul_left hk
      have a3 : k * (p 0).2 = k * (p (0 + 1)).2 ↔ (p 0).2 = (p (0 + 1)).2 := ⟨fun e => Int.eq_of_mul_eq_mul_left (show k ≠ 0 by omega) e, fun e => by rw [e]⟩
      simp only [a1, a2, a3]) rfl rfl
  have ef : (fun i => sc 2 (sc k (p i))) = fun i => sc (2 * k) (p i) := funext fun i => sc_sc _ _ _
  rw [ef] at e1
  rw [← e1, ← e2, eu]
/-- What is far on the left is gone round by nothing. -/
theorem cr_left {a b y : Int × Int} (ha : y.1 < a.1) (hb : y.1 < b.1) : cr y a b = (if y.2 < b.2 then 1 else 0) - (if y.2 < a.2 then 1 else 0) := by
  have e : turn a b y = (y.2 - a.2) * (b.1 - y.1) + (b.2 - y.2) * (a.1 - y.1) := by unfold turn; grind
  unfold cr
  by_cases c1 : a.2 ≤ y.2 ∧ y.2 < b.2
  · have := mpp0 (show 0 ≤ y.2 - a.2 by omega) (show 0 ≤ b.1 - y.1 by omega)
    have := mpp (show 0 < b.2 - y.2 by omega) (show 0 < a.1 - y.1 by omega)
    rw [if_pos (by omega), if_pos (by omega), if_neg (by omega)]; rfl
  · by_cases c2 : b.2 ≤ y.2 ∧ y.2 < a.2
    · have := mnp (show y.2 - a.2 < 0 by omega) (show 0 < b.1 - y.1 by omega)
      have := mnp0 (show b.2 - y.2 ≤ 0 by omega) (show 0 ≤ a.1 - y.1 by omega)
      rw [if_neg (by omega), if_pos (by omega), if_neg (by omega), if_pos (by omega)]; rfl
    · rw [if_neg (by omega), if_neg (by omega)]
      by_cases c3 : y.2 < b.2
      · rw [if_pos (by omega), if_pos (by omega)]; rfl
      · rw [if_neg (by omega), if_neg (by omega)]; rfl
theorem wsum_left {p : Nat → Int × Int} {n : Nat} (hper : p n = p 0) {y : Int × Int} (h : ∀ i, i ≤ n → y.1 < (p i).1) : wsum p n y = 0 := by
  unfold wsum
  rw [sumN_congr (g := fun i => (if y.2 < (p (i + 1)).2 then 1 else 0) - (if y.2 < (p i).2 then 1 else 0)) (fun i hi => cr_left (h i (by omega)) (h (i + 1) (by omega))),
    sumN_tele (fun i => if y.2 < (p i).2 then (1 : Int) else 0), hper]
  omega
theorem lower_bound (f : Nat → Int) : ∀ n : Nat, ∃ B : Int, ∀ i, i ≤ n → B < f i
  | 0 => ⟨f 0 - 1, fun i hi => by have : i = 0 := by omega
                                  subst this; omega⟩
  | n + 1 => by
    obtain ⟨B, h⟩ := lower_bound f n
    refine ⟨min B (f (n + 1) - 1), fun i hi => ?_⟩
    by_cases c : i = n + 1
    · subst c; omega
    · have := h i (by omega); omega
/-- Some side is not level. -/
theorem Simple.not_level {p : Nat → Int × Int} {n : Nat} (h : Simple p n) : ∃ i, i < n ∧ (p (i + 1)).2 ≠ (p i).2 := by
  have h3 := h.three
  refine Classical.byContradiction fun hno => ?_
  have lev : ∀ i, (p (i + 1)).2 = (p i).2 := fun i => by
    have h1 : (p (i % n + 1)).2 = (p (i % n)).2 := Classical.byContradiction fun c => hno ⟨i % n, Nat.mod_lt _ (by omega), c⟩
    rw [h.mod i, ← h.mod (i % n + 1), Nat.mod_add_mod, h.mod] at h1
    exact h1
  -- the corner most to the left
  obtain ⟨j, hj, _, hmin⟩ := exists_min (fun i => (p (i + 1)).1) (fun _ => True) n ⟨0, by omega, trivial⟩
  have l1 := lev j
  have l2 := lev (j + 1)
  have m0 : (p (j + 1)).1 ≤ (p j).1 := by
    have := hmin ((j + (n - 1)) % n) (Nat.mod_lt _ (by omega)) trivial
    have e : p ((j + (n - 1)) % n + 1) = p j := by
      rw [← h.mod ((j + (n - 1)) % n + 1), Nat.mod_add_mod, show j + (n - 1) + 1 = j + n by omega, Nat.add_mod_right, h.mod]
    rw [e] at this; exact this
  have m2 : (p (j + 1)).1 ≤ (p (j + 2)).1 := by
    have := hmin ((j + 1) % n) (Nat.mod_lt _ (by omega)) trivial
    have e : p ((j + 1) % n + 1) = p (j + 2) := by
      rw [← h.mod ((j + 1) % n + 1), Nat.mod_add_mod, h.mod]
    rw [e] at this; exact this
  have n0 := h.ne_next j
  have n1 := h.ne_next (j + 1)
  have d0 : (p (j + 1)).1 < (p j).1 := by
    rcases Int.lt_or_eq_of_le m0 with c | c
    · exact c
    · exact absurd (Prod.ext c.symm l1.symm) n0
  have d2 : (p (j + 1)).1 < (p (j + 2)).1 := by
    rcases Int.lt_or_eq_of_le m2 with c | c
    · exact c
    · exact absurd (Prod.ext c l2.symm) n1
  have l2' : (p (j + 2)).2 = (p (j + 1)).2 := l2
  refine h.spike j ⟨?_, ?_⟩
  · unfold turn; rw [l2', l1]; simp
  · unfold dot; rw [l2', l1]
    have := mpp (show 0 < (p j).1 - (p (j + 1)).1 by omega) (show 0 < (p (j + 2)).1 - (p (j + 1)).1 by omega)
    simp; omega
/-- The left of a border is gone round once, or its right is, the other way round. -/
theorem Simple.lam01 {p : Nat → Int × Int} {n : Nat} (h : Simple p n) : lam p n 0 = 0 ∨ lam p n 0 = 1 := by
  obtain ⟨i, hi, hne⟩ := h.not_level
  obtain ⟨B, hB⟩ := lower_bound (fun i => (sc 2 (p i)).1) n
  have hper : p n = p 0 := by rw [show n = 0 + n by omega, h.per]
  have hs := h.scale (show (0 : Int) < 2 by decide)
  have hall : ∀ i, i ≤ n → B < (sc 2 (p i)).1 := hB
  have z := wsum_left (p := fun i => sc 2 (p i)) (n := n) (by show sc 2 (p n) = sc 2 (p 0); rw [hper]) (y := (B, 2 * min (p i).2 (p (i + 1)).2 + 1)) hB
  have f := hs.first_hit (y := (B, 2 * min (p i).2 (p (i + 1)).2 + 1)) (fun i => by unfold sc; simp only; omega)
  rw [lam_scale h (by decide)] at f
  rcases f with ⟨f, _⟩ | f | f
  · exfalso
    have := f i hi
    rw [cr_left (hB i (by omega)) (hB (i + 1) (by omega))] at this
    unfold sc at this
    simp only at this
    rcases Int.lt_or_gt_of_ne hne with c | c
    · rw [if_neg (by omega), if_pos (by omega)] at this; omega
    · rw [if_pos (by omega), if_neg (by omega)] at this; omega
  · left; omega
  · right; omega
/-- A border goes round a point once or not at all: what is not on it is on its left or on its right. -/
theorem Simple.around {p : Nat → Int × Int} {n : Nat} (h : Simple p n) {x : Int × Int} (hx : ∀ i, i < n → onB (p i) (p (i + 1)) x = false) : wsum p n x = lam p n 0 ∨ wsum p n x = lam p n 0 - 1 := by
  have h3 := h.three
  obtain ⟨k0, hk0⟩ := bound_all (P := fun j k => apart (k * x.1 + 0, k * x.2 + 0) (k * x.1 + 0, k * x.2 + 1) (sc k (p j)) (sc k (p (j + 1)))) n (fun j hj => near_apart (hx j hj) (0, 0) (0, 1))
  obtain ⟨k, hk⟩ : ∃ k : Int, k = max k0 2 := ⟨_, rfl⟩
  have hkp : 0 < k := by omega
  have ha := hk0 k (by omega) hkp
  have hs := h.scale hkp
  have hper : sc k (p n) = sc k (p 0) := by rw [show n = 0 + n by omega, h.per]
  have e1 := wsum_free (p := fun i => sc k (p i)) (n := n) hper ha
  have e2 : wsum (fun i => sc k (p i)) n (k * x.1 + 0, k * x.2 + 0) = wsum p n x := by
    have : ((k * x.1 + 0, k * x.2 + 0) : Int × Int) = sc k x := by unfold sc; simp
    rw [this, wsum_sc hkp]
  have f := hs.first_hit (y := (k * x.1 + 0, k * x.2 + 1)) (fun i e => by
    unfold sc at e
    simp only at e
    have : k * ((p i).2 - x.2) = 1 := by grind
    have hd : k ∣ 1 := ⟨_, this.symm⟩
    have := Int.le_of_dvd (by decide) hd
    omega)
  rw [lam_scale h hkp, ← e1, e2] at f
  rcases f with ⟨_, f⟩ | f | f
  · have := h.lam01; omega
  · exact .inl f
  · exact .inr f
end Go.Proofs.Ythiemglckmociaa
