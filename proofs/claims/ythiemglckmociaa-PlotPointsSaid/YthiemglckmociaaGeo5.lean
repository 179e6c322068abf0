/- Plain geometry of plots, fifth part: the lowest corner; points parted from a plot; leaving a triangle. No program in sight. No conditions. -/
import Derived.Test.YthiemglckmociaaGeo4
namespace Go.Proofs.Ythiemglckmociaa
/-- Corner 1 is the lowest, the rightmost of several. -/
def Lowest (p : Nat → Int × Int) (n : Nat) : Prop := ∀ i, i < n → i ≠ 1 → (p 1).2 < (p i).2 ∨ ((p 1).2 = (p i).2 ∧ (p i).1 < (p 1).1)
theorem Lowest.any {p : Nat → Int × Int} {n : Nat} (h : Simple p n) (hl : Lowest p n) (i : Nat) : p i = p 1 ∨ (p 1).2 < (p i).2 ∨ ((p 1).2 = (p i).2 ∧ (p i).1 < (p 1).1) := by
  have h3 := h.three
  rw [← h.mod i]
  by_cases c : i % n = 1
  · exact .inl (by rw [c])
  · exact .inr (hl _ (Nat.mod_lt _ (by omega)) c)
theorem cr_low {v a b : Int × Int} (ha : a = v ∨ v.2 < a.2 ∨ (v.2 = a.2 ∧ a.1 < v.1)) (hb : b = v ∨ v.2 < b.2 ∨ (v.2 = b.2 ∧ b.1 < v.1)) : cr v a b = 0 := by
  have t1 : turn v b v = 0 := by unfold turn; grind
  have t2 : turn a v v = 0 := by unfold turn; grind
  unfold cr
  rw [if_neg, if_neg]
  · rintro ⟨h1, h2, h3⟩
    rcases hb with rfl | hb | ⟨hb1, hb2⟩
    · omega
    · omega
    · have : turn a b v = (b.1 - a.1) * (v.2 - a.2) - (b.2 - a.2) * (v.1 - a.1) := rfl
      have e : turn a b v = (a.2 - b.2) * (v.1 - b.1) := by unfold turn; rw [hb1]; grind
      have := mpp (a := a.2 - b.2) (b := v.1 - b.1) (by omega) (by omega)
      omega
  · rintro ⟨h1, h2, h3⟩
    rcases ha with rfl | ha | ⟨ha1, ha2⟩
    · omega
    · omega
    · have e : turn a b v = -((b.2 - a.2) * (v.1 - a.1)) := by unfold turn; rw [ha1]; grind
      have := mpp (a := b.2 - a.2) (b := v.1 - a.1) (by omega) (by omega)
      omega
theorem Lowest.wsum {p : Nat → Int × Int} {n : Nat} (h : Simple p n) (hl : Lowest p n) : wsum p n (p 1) = 0 :=
  sumN_zero fun i _ => cr_low (hl.any h i) (hl.any h (i + 1))
/-- The lowest corner tells the direction. -/
theorem Simple.ext {p : Nat → Int × Int} {n : Nat} (h : Simple p n) (hl : Lowest p n) : 0 < (2 * lam p n 0 - 1) * turn (p 0) (p 1) (p 2) := by
  have h3 := h.three
  have lu := hl 0 (by omega) (by omega)
  have lw : (p 1).2 < (p 2).2 ∨ ((p 1).2 = (p 2).2 ∧ (p 2).1 < (p 1).1) := by
    rcases hl.any h 2 with e | e
    · exact absurd e (h.ne (by
        by_cases c : n = 3
        · subst c; decide
        · rw [Nat.mod_eq_of_lt (by omega), Nat.mod_eq_of_lt (by omega)]; omega))
    · exact e
  have hsp := h.spike 0
  simp only [Nat.zero_add] at hsp
  have e01 : p 0 ≠ p 1 := fun e => by rw [e] at lu; omega
  have e12 : p 1 ≠ p 2 := fun e => by rw [← e] at lw; omega
  obtain ⟨k1, hk1⟩ := bound_all (P := fun j k => 1 < j → apart (k * (p 1).1 + 0, k * (p 1).2 + 0) (near k (p 1) (p 2)) (sc k (p j)) (sc k (p (j + 1)))) n (fun j hj => by
    by_cases c : 1 < j
    · obtain ⟨k0, hk0⟩ := near_apart (h.corner_off c hj) (0, 0) ((p 2).1 - (p 1).1, (p 2).2 - (p 1).2)
      exact ⟨k0, fun k a b _ => hk0 k a b⟩
    · exact ⟨0, fun k _ _ c' => absurd c' c⟩)
  obtain ⟨k, hkd⟩ : ∃ k : Int, k = max k1 (((p 2).2 - (p 1).2).natAbs + ((p 0).2 - (p 1).2).natAbs + 2) := ⟨_, rfl⟩
  have hk0 : 1 < k := by omega
  have hx : ((k * (p 1).1 + 0, k * (p 1).2 + 0) : Int × Int) = sc k (p 1) := by unfold sc; simp
  have hap := hk1 k (by omega) (by omega)
  rw [hx] at hap
  have hle : (sc k (p 1)).2 ≤ (near k (p 1) (p 2)).2 := by unfold sc near; simp only; omega
  have g := wsum_but2 (p := fun i => sc k (p i)) (n := n) (by omega) (by show sc k (p n) = sc k (p 0); rw [h.per1]) hle (fun j h1 hj => hap j hj h1)
  have z1 : cr (sc k (p 1)) (sc k (p 0)) (sc k (p 1)) = 0 := cr_on (by unfold turn; grind)
  have z2 : cr (sc k (p 1)) (sc k (p 1)) (sc k (p 2)) = 0 := cr_on (by unfold turn; grind)
  have z3 : cr (near k (p 1) (p 2)) (sc k (p 1)) (sc k (p 2)) = 0 := cr_on (by unfold turn near sc; grind)
  have z4 : reg (sc k (p 1)) (near k (p 1) (p 2)) (sc k (p 1)) = 0 := by unfold reg; rw [if_neg (by omega)]
  have tk : turn (sc k (p 1)) (near k (p 1) (p 2)) (sc k (p 2)) = 0 := by unfold turn near sc; grind
  have z5 : reg (sc k (p 1)) (near k (p 1) (p 2)) (sc k (p 2)) = 0 := by unfold reg; rw [tk, if_neg (by omega)]
  -- the point near the lowest corner is below the corner before, if that is higher
  have hup : (p 1).2 < (p 0).2 → (near k (p 1) (p 2)).2 < (sc k (p 0)).2 := fun c => by
    unfold near sc
    simp only
    have := Int.mul_le_mul_of_nonneg_left (show 1 ≤ (p 0).2 - (p 1).2 by omega) (show 0 ≤ k by omega)
    rw [Int.mul_sub] at this
    omega
  have z6 : reg (sc k (p 1)) (near k (p 1) (p 2)) (sc k (p 0)) = 0 := by
    unfold reg
    rw [if_neg]
    rintro ⟨c1, c2, _⟩
    rcases lu with c | ⟨c, _⟩
    · have := hup c; omega
    · have : (sc k (p 0)).2 = (sc k (p 1)).2 := by unfold sc; simp only; rw [c]
      omega
  have hw0 : wsum (fun i => sc k (p i)) n (sc k (p 1)) = 0 := by rw [wsum_sc (by omega)]; exact hl.wsum h
  rw [z1, z2, z3, z4, z5, z6, hw0] at g
  have hle2 := h.lam_eq 1 (k := k) (by omega) (near_inn' hk0 e12)
  rw [h.lam_all 1] at hle2
  have hu : up (p 1) (p 2) = 1 := by unfold up; rw [if_pos lw]
  simp only [Nat.reduceAdd] at hle2
  rw [hu] at hle2
  have tt : turn (sc k (p 0)) (sc k (p 1)) (near k (p 1) (p 2)) = k * turn (p 0) (p 1) (p 2) := by unfold turn near sc; grind
  have hne : turn (p 0) (p 1) (p 2) ≠ 0 := fun h0 => by
    have hd := spike_op hsp e01 e12 h0
    unfold dot at hd
    unfold turn at h0
    have a1 : 0 ≤ ((p 0).2 - (p 1).2) * ((p 2).2 - (p 1).2) := mpp0 (by omega) (by omega)
    have a2 : ((p 0).1 - (p 1).1) * ((p 2).1 - (p 1).1) < 0 := by omega
    have a3 : ((p 0).1 - (p 1).1) * ((p 2).2 - (p 1).2) = ((p 0).2 - (p 1).2) * ((p 2).1 - (p 1).1) := by grind
    rcases Int.lt_trichotomy ((p 0).1 - (p 1).1) 0 with c | c | c
    · have c2 : 0 < (p 2).1 - (p 1).1 := by
        rcases Int.lt_or_le 0 ((p 2).1 - (p 1).1) with x | x
        · exact x
        · have := mnn0 (Int.le_of_lt c) x; omega
      have b1 := mnp0 (Int.le_of_lt c) (b := (p 2).2 - (p 1).2) (by omega)
      have b2 := mpp0 (a := (p 0).2 - (p 1).2) (b := (p 2).1 - (p 1).1) (by omega) (by omega)
      have b3 : ((p 0).1 - (p 1).1) * ((p 2).2 - (p 1).2) = 0 := by omega
      have b4 : (p 2).2 - (p 1).2 = 0 := by rcases Int.mul_eq_zero.1 b3 with x | x <;> omega
      omega
    · rw [c] at a2; simp at a2
    · have c2 : (p 2).1 - (p 1).1 < 0 := by
        rcases Int.lt_or_le ((p 2).1 - (p 1).1) 0 with x | x
        · exact x
        · have := mpp0 (Int.le_of_lt c) x; omega
      have b1 := mpp0 (Int.le_of_lt c) (b := (p 2).2 - (p 1).2) (by omega)
      have b2 := mpn0 (a := (p 0).2 - (p 1).2) (b := (p 2).1 - (p 1).1) (by omega) (by omega)
      have b3 : ((p 0).2 - (p 1).2) * ((p 2).1 - (p 1).1) = 0 := by omega
      have b4 : (p 0).2 - (p 1).2 = 0 := by rcases Int.mul_eq_zero.1 b3 with x | x <;> omega
      omega
  rcases Int.lt_trichotomy (turn (p 0) (p 1) (p 2)) 0 with c | c | c
  · have c0 : (p 1).2 < (p 0).2 := by
      rcases lu with x | ⟨x1, x2⟩
      · exact x
      · have e : turn (p 0) (p 1) (p 2) = ((p 1).1 - (p 0).1) * ((p 2).2 - (p 1).2) := by unfold turn; rw [x1]; grind
        have := mpp0 (a := (p 1).1 - (p 0).1) (b := (p 2).2 - (p 1).2) (by omega) (by omega)
        omega
    have hcr : cr (near k (p 1) (p 2)) (sc k (p 0)) (sc k (p 1)) = -1 := by
      unfold cr
      have := hup c0
      rw [if_neg (by omega), if_pos ⟨hle, this, by rw [tt]; exact mpn (by omega) c⟩]
    rw [hcr] at g
    have : lam p n 0 = 0 := by omega
    rw [this]; omega
  · exact absurd c hne
  · have hcr : cr (near k (p 1) (p 2)) (sc k (p 0)) (sc k (p 1)) = 0 := by
      unfold cr
      have := mpp (show 0 < k by omega) c
      rw [if_neg (by omega), if_neg (by rw [tt]; omega)]
    rw [hcr] at g
    have : lam p n 0 = 1 := by omega
    rw [this]; omega
end Go.Proofs.Ythiemglckmociaa
