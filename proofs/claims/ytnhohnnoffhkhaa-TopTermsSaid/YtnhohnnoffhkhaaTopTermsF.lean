/- The law TopTerms: its walk. Conditions: a calendar lies in memory as said. -/
import Derived.Test.YtnhohnnoffhkhaaTermKnown
import Derived.Test.YtnhohnnoffhkhaaTermWithP
import Derived.Test.YtnhohnnoffhkhaaTermLatest
import Derived.Test.YtnhohnnoffhkhaaTermChain
import Derived.Test.YtnhohnnoffhkhaaTermInTime
namespace Go.Proofs.Ytnhohnnoffhkhaa
open Go.RowKit

theorem asked_add0 : askedF cal0 [5] [1] = 0 := asked_of valid_cal0 (by simp) (by simp)
theorem add_cal0 : addR cal0 5 1 = 7 := by
  unfold addR
  rw [if_pos asked_add0]
  show firstDay (fun x => !(freeB cal0 x)) 20000 6 = 7
  exact firstDay_eq 1 20000 6 (by decide +kernel) (by decide +kernel) (by omega)
theorem lastDay_ge {p : Int → Bool} {g : Int} (hg : p g = true) : ∀ (n : Nat) (e : Int), g ≤ e → e - n < g → ∃ l, lastDay p n e = some l ∧ g ≤ l ∧ l ≤ e ∧ p l = true
  | 0, e, h1, h2 => by omega
  | n + 1, e, h1, h2 => by
    unfold lastDay
    by_cases hp : p e = true
    · rw [if_pos hp]; exact ⟨e, rfl, h1, Int.le_refl _, hp⟩
    · rw [if_neg hp]
      have hne : g ≠ e := fun h => hp (h ▸ hg)
      obtain ⟨l, h3, h4, h5, h6⟩ := lastDay_ge hg n (e - 1) (by omega) (by omega)
      exact ⟨l, h3, h4, by omega, h6⟩
/-- What is asked of a term that is over on a day. -/
structure Over (c : Cal) (xa xb E : Int) : Prop where
  le : xa ≤ E
  x0 : 0 ≤ xa
  x1 : xa ≤ 10000
  n0 : 0 ≤ xb
  n1 : xb ≤ 400
  big : 10000 < E → chainL c xa [xb] = [] ∧ chainE c xa [xb] = 10
  chain : E ≤ 10000 → chainL c xa [xb] = [E] ∧ chainE c xa [xb] = 0
  lat : E ≤ 10000 → askedF c [E] [xb] = 0 ∧ latestI c E xb = true ∧ xa ≤ latestV c E xb ∧ latestV c E xb ≤ 10000 ∧ askedF c [latestV c E xb] [xb] = 0 ∧ endsR c (latestV c E xb) xb ≤ E
  inn : E ≤ 10000 → askedF c [xa, E] [xb] = 0 ∧ inR c xa xb E = true
  out : inR c xa xb (E + 1) = false
  bef : E ≤ 10000 → askedF c [E] [] = 0 ∧ beforeI c E = true ∧ beforeV c E = E
  self : E = xa → xb = 0
  cnt : E ≤ 10000 → E ≠ xa → orderedF c (xa + 1) E = 0 ∧ xb ≤ countR c (xa + 1) E
theorem over_of {c : Cal} {xa xb : Int} (h : askedF c [xa] [xb] = 0) : Over c xa xb (endsR c xa xb) := by
  obtain ⟨hv, x0, x1, n0, n1⟩ := asked_term h
  have hE : endsR c xa xb = endsF c xa xb := by unfold endsR; rw [if_pos h]
  obtain ⟨g1, g2, g3⟩ := endsF_first hv (day := xa) (days := xb) x0 n0 (by omega)
  rw [← hE] at g1 g2
  have hE' := hE
  generalize hEE : endsR c xa xb = E at *
  unfold endB at g2
  rw [Bool.and_eq_true] at g2
  obtain ⟨g4, g5⟩ := g2
  have g4 := of_decide_eq_true g4
  have g6 : freeB c E = false := by simpa using g5
  have aE : E ≤ 10000 → ∀ l : List Int, (∀ d ∈ l, 0 ≤ d ∧ d ≤ 10000) → ∀ t : List Int, (∀ d ∈ t, 0 ≤ d ∧ d ≤ 400) → askedF c l t = 0 := fun _ l hl t ht => asked_of hv hl ht
  have a1 : ∀ d : Int, 0 ≤ d → d ≤ 10000 → askedF c [d] [xb] = 0 := fun d h1 h2 => asked_of hv (by simp; omega) (by simp; omega)
  refine ⟨g1, x0, x1, n0, n1, fun hb => ?_, fun hb => ?_, fun hb => ?_, fun hb => ?_, ?_, fun hb => ?_, fun he => ?_, fun hb hne => ?_⟩
  · unfold chainL chainO chainE
    rw [if_pos h, if_neg (by simp), if_pos h, if_neg (by simp)]
    have : chainF c xa [xb] = none := by rw [chainF, ← hE, if_pos hb]
    rw [this]; exact ⟨rfl, rfl⟩
  · unfold chainL chainO chainE
    rw [if_pos h, if_neg (by simp), if_pos h, if_neg (by simp)]
    have : chainF c xa [xb] = some [E] := by rw [chainF, ← hE, if_neg (by omega), chainF]; rfl
    rw [this]; exact ⟨rfl, rfl⟩
  · have b1 := a1 E (by omega) hb
    have hgood : byB c E xb xa = true := decide_eq_true (by omega)
    obtain ⟨l, h3, h4, h5, h6⟩ := lastDay_ge hgood (E + 1).toNat E g1 (by omega)
    have h7 : latestR c E xb = some l := by unfold latestR; rw [if_pos b1]; exact h3
    have h8 : latestV c E xb = l := by unfold latestV; rw [h7]; rfl
    have h9 : latestI c E xb = true := by unfold latestI; rw [h7]; rfl
    have b2 := a1 l (by omega) (by omega)
    rw [h8]
    refine ⟨b1, h9, h4, by omega, b2, ?_⟩
    unfold endsR
    rw [if_pos b2]
    exact of_decide_eq_true h6
  · have b1 : askedF c [xa, E] [xb] = 0 := asked_of hv (by simp; omega) (by simp; omega)
    refine ⟨b1, ?_⟩
    unfold inR inF
    rw [if_pos b1, ← hE]
    exact withinB_iff.2 ⟨g1, Int.le_refl _⟩
  · unfold inR inF
    split
    · rw [← hE]
      cases hq : withinB (E + 1) xa E
      · rfl
      · have := withinB_iff.1 hq; omega
    · rfl
  · have b1 : askedF c [E] [] = 0 := asked_of hv (by simp; omega) (by simp)
    have b2 : beforeR c E = some E := by
      unfold beforeR beforeF
      rw [if_pos b1]
      obtain ⟨m, hm⟩ : ∃ m, (E + 1).toNat = m + 1 := ⟨E.toNat, by omega⟩
      rw [hm, lastDay, if_pos (by rw [g6]; rfl)]
    refine ⟨b1, ?_, ?_⟩
    · unfold beforeI; rw [b2]; rfl
    · unfold beforeV; rw [b2]; rfl
  · rw [he, show (xa - xa).toNat = 0 by omega] at g4
    have : cnt (fun y => !(stillB c y)) (xa + 1) 0 = 0 := rfl
    omega
  · have b1 : orderedF c (xa + 1) E = 0 := by
      unfold orderedF
      rw [if_pos (asked_of hv (by simp; omega) (by simp)), if_neg (by omega)]
    refine ⟨b1, ?_⟩
    unfold countR
    rw [if_pos b1]
    unfold countF
    rw [show (E - (xa + 1) + 1).toNat = (E - xa).toNat by omega]
    exact g4

end Go.Proofs.Ytnhohnnoffhkhaa
