/- Whom each owner points to, and what the rounds make of right lists. Plain; no program in sight. Conditions: the lists are right. -/
import Derived.Test.YtpbkkekdjkmpmaaSwLikes
import Derived.Test.YtpbkkekdjkmpmaaSwMath
namespace Go.Proofs.Ytpbkkekdjkmpmaa

/-- Where the first element from k on lies for which p holds. -/
theorem idxFrom_spec {α : Type} {l : List α} {p : α → Bool} {d : α} {k : Nat} (h : ∃ i, k ≤ i ∧ i < l.length ∧ p (gi l d i) = true) : ∃ m : Nat, idxFrom l p d k = m ∧ k ≤ m ∧ m < l.length ∧ p (gi l d m) = true ∧ ∀ j, k ≤ j → j < m → p (gi l d j) = false := by
  obtain ⟨i, hi, hl, e⟩ := h
  generalize hd : i - k = n
  induction n generalizing k with
  | zero =>
    have : i = k := by omega
    subst this
    exact ⟨i, idxFrom_yes hl e, Nat.le_refl _, hl, e, fun j h1 h2 => by omega⟩
  | succ n ih =>
    by_cases hx : p (gi l d k) = true
    · exact ⟨k, idxFrom_yes (by omega) hx, Nat.le_refl _, by omega, hx, fun j h1 h2 => by omega⟩
    · have hx' : p (gi l d k) = false := by simpa using hx
      obtain ⟨m, h1, h2, h3, h4, h5⟩ := ih (k := k + 1) (by omega) (by omega)
      refine ⟨m, by rw [idxFrom_no (by omega) hx', h1], by omega, h3, h4, fun j hj1 hj2 => ?_⟩
      by_cases e2 : j = k
      · subst e2; exact hx'
      · exact h5 j (by omega) hj2
/-- The numbers of a right list are in range, and no two are equal. -/
theorem vB_num {L : List (List Int)} (h : vB L = true) {i k : Nat} (hi : i < L.length) (hk : k < L.length) : (0 ≤ gi (gi L [] i) 0 k ∧ gi (gi L [] i) 0 k < L.length) ∧ ∀ j, j < k → gi (gi L [] i) 0 j ≠ gi (gi L [] i) 0 k := by
  obtain ⟨hl, hall⟩ := vB_ord h hi
  have h1 : allIn (gi L [] i) L.length 0 = true := by
    unfold allIn
    rw [decide_eq_true_iff]
    intro j hj _
    exact hasB_iff.2 (hall j hj)
  rw [ord_good hl] at h1
  unfold goodB freshB at h1
  rw [decide_eq_true_iff] at h1
  obtain ⟨h2, h3⟩ := h1 k hk (Nat.zero_le _)
  rw [decide_eq_true_iff] at h3
  exact ⟨by omega, fun j hj => h3 j hj (Nat.zero_le _)⟩

/-- Whom an owner points to while lf are left. -/
def ptN (L : List (List Int)) (lf : Nat → Bool) (i : Nat) : Nat := (gi (gi L [] i) 0 (idxFrom (gi L [] i) (fun p => lf p.toNat) 0 0).toNat).toNat
theorem pt_spec {L : List (List Int)} {lf : Nat → Bool} {i : Nat} (hv : vB L = true) (hi : i < L.length) (hl : anyL L.length lf = true) :
    ∃ m : Nat, idxFrom (gi L [] i) (fun p => lf p.toNat) 0 0 = m ∧ m < (gi L [] i).length ∧ gi (gi L [] i) 0 m = (ptN L lf i : Int) ∧ ptN L lf i < L.length ∧ lf (ptN L lf i) = true ∧ ∀ j, j < m → lf (gi (gi L [] i) 0 j).toNat = false := by
  obtain ⟨j, hj, hlj⟩ := anyL_iff.1 hl
  obtain ⟨hlen, hall⟩ := vB_ord hv hi
  obtain ⟨k, hk, e⟩ := List.mem_iff_getElem.1 (hall j hj)
  obtain ⟨m, h1, h2, h3, h4, h5⟩ := idxFrom_spec (l := gi L [] i) (p := fun p => lf p.toNat) (d := 0) (k := 0) ⟨k, Nat.zero_le _, hk, by rw [gi_lt hk, e]; simpa using hlj⟩
  have hn := (vB_num hv hi (show m < L.length by omega)).1
  have e2 : gi (gi L [] i) 0 m = (ptN L lf i : Int) := by
    unfold ptN
    rw [h1]
    simp only [Int.toNat_natCast]
    omega
  have e3 : (gi (gi L [] i) 0 m).toNat = ptN L lf i := by rw [e2]; simp
  refine ⟨m, h1, h3, e2, by omega, ?_, fun j hj => h5 j (Nat.zero_le _) hj⟩
  rw [← e3]; exact h4
theorem points_of {L : List (List Int)} (hv : vB L = true) : Points (ptN L) L.length :=
  ⟨fun lf i hi hl => (by obtain ⟨m, _, _, _, h, _⟩ := pt_spec hv hi hl; exact h), fun lf i hi hl => (by obtain ⟨m, _, _, _, _, h, _⟩ := pt_spec hv hi hl; exact h)⟩
/-- The place of a plot in an owner's list. -/
def plN (L : List (List Int)) (i j : Nat) : Nat := (ixF (gi L [] i) j 0).toNat
theorem pl_spec {L : List (List Int)} (hv : vB L = true) {i j : Nat} (hi : i < L.length) (hj : j < L.length) : ixF (gi L [] i) j 0 = (plN L i j : Int) ∧ plN L i j < L.length ∧ gi (gi L [] i) 0 (plN L i j) = j := by
  obtain ⟨hlen, hall⟩ := vB_ord hv hi
  obtain ⟨k, hk, e⟩ := List.mem_iff_getElem.1 (hall j hj)
  obtain ⟨m, h1, h2, h3, h4, h5⟩ := ixF_spec (l := gi L [] i) (x := (j : Int)) (k := 0) ⟨k, Nat.zero_le _, hk, by rw [gi_lt hk, e]⟩
  have e1 : plN L i j = m := by unfold plN; rw [h1]; simp
  rw [e1]
  exact ⟨h1, by omega, h4⟩
theorem strict_of {L : List (List Int)} (hv : vB L = true) : Strict L.length (plN L) := by
  intro i j k hi hj hk e
  have h1 := (pl_spec hv hi hj).2.2
  have h2 := (pl_spec hv hi hk).2.2
  rw [e, h2] at h1
  omega
theorem best_of {L : List (List Int)} (hv : vB L = true) (lf : Nat → Bool) (i j : Nat) (hi : i < L.length) (hj : j < L.length) (hl : lf j = true) : plN L i (ptN L lf i) ≤ plN L i j := by
  obtain ⟨m, h1, h2, h3, h4, h5, h6⟩ := pt_spec hv hi (anyL_iff.2 ⟨j, hj, hl⟩)
  obtain ⟨_, g2, g3⟩ := pl_spec hv hi hj
  obtain ⟨_, k2, k3⟩ := pl_spec hv hi h4
  have hlen := (vB_ord hv hi).1
  have e1 : plN L i (ptN L lf i) = m := by
    apply Classical.byContradiction
    intro hne
    rcases Nat.lt_or_gt_of_ne hne with h | h
    · exact (vB_num hv hi (show m < L.length by omega)).2 _ h (by rw [k3, h3])
    · exact (vB_num hv hi k2).2 m h (by rw [k3, h3])
  rw [e1]
  apply Classical.byContradiction
  intro hc
  have := h6 (plN L i j) (by omega)
  rw [g3] at this
  simp only [Int.toNat_natCast] at this
  rw [this] at hl; cases hl
/-- What each owner gets, and in which round he goes. -/
def ownN (L : List (List Int)) (i : Nat) : Nat := ownR (ptN L) L.length i
def rdN (L : List (List Int)) (i : Nat) : Nat := rdR (ptN L) L.length i
theorem ttc_L {L : List (List Int)} (hv : vB L = true) : Ttc L.length (plN L) (ownN L) (rdN L) := ttc_of (points_of hv) (best_of hv)
/-- Who is left behind r rounds; the cycles of round r; how many rounds there are. -/
def lfN (L : List (List Int)) (r : Nat) : Nat → Bool := lfR (ptN L) L.length r
def cyN (L : List (List Int)) (r : Nat) : List (List Nat) := cyR (ptN L) L.length r
def nrN (L : List (List Int)) : Nat := numR (ptN L) L.length
theorem nrN_iff {L : List (List Int)} (hv : vB L = true) {r : Nat} : r < nrN L ↔ anyL L.length (lfN L r) = true := numR_iff (points_of hv)
theorem lfN_succ (L : List (List Int)) (r : Nat) : lfN L (r + 1) = nextL (cyN L r) (lfN L r) := rfl
theorem cyN_eq (L : List (List Int)) (r : Nat) : cyN L r = cycK (ptN L (lfN L r)) L.length (lfN L r) L.length := rfl
/-- The numbers of a list of owners. -/
def numsL (c : List Nat) : List Int := c.map fun k : Nat => (k : Int)
theorem numsL_length (c : List Nat) : (numsL c).length = c.length := by simp [numsL]
theorem numsL_get {c : List Nat} {k : Nat} (h : k < c.length) : gi (numsL c) 0 k = (c[k] : Int) := by simp [numsL, gi, h]
theorem numsL_has (c : List Nat) (k : Nat) : hasB (numsL c) k = c.contains k := by
  rw [Bool.eq_iff_iff, hasB_iff, List.contains_iff_mem]
  simp only [numsL, List.mem_map]
  exact ⟨fun ⟨a, h1, h2⟩ => by have : a = k := by omega
                               subst this; exact h1, fun h => ⟨k, h, rfl⟩⟩
end Go.Proofs.Ytpbkkekdjkmpmaa
