/- The convex plot around points, as a list: what the program's two chains give, and what the document's steps give. No conditions. -/
import Derived.Test.YthiemglckmociaaPtNormF
import Derived.Test.YthiemglckmociaaHullG
namespace Go.Proofs.Ythiemglckmociaa
open Go.RowKit
/-- Points in order, each once. -/
def insP (x : Int × Int) : List (Int × Int) → List (Int × Int)
  | [] => [x]
  | y :: r => if x.1 < y.1 ∨ (x.1 = y.1 ∧ x.2 < y.2) then x :: y :: r else if x = y then y :: r else y :: insP x r
theorem insP_mem (x z : Int × Int) : ∀ l : List (Int × Int), z ∈ insP x l ↔ z = x ∨ z ∈ l
  | [] => by simp [insP]
  | y :: r => by
    unfold insP
    split
    · simp
    · split
      · rename_i e; subst e; simp
      · rw [List.mem_cons, insP_mem x z r, List.mem_cons]
        exact ⟨fun h => h.elim (fun e => .inr (.inl e)) (fun h => h.elim .inl (fun e => .inr (.inr e))), fun h => h.elim (fun e => .inr (.inl e)) (fun h => h.elim .inl (fun e => .inr (.inr e)))⟩
theorem insP_sorted (x : Int × Int) : ∀ {l : List (Int × Int)}, l.Pairwise ltP → (insP x l).Pairwise ltP
  | [], _ => List.pairwise_singleton _ _
  | y :: r, h => by
    rw [List.pairwise_cons] at h
    unfold insP
    split
    · rename_i c
      have hxy : ltP x y := c
      refine List.pairwise_cons.2 ⟨fun z hz => ?_, List.pairwise_cons.2 h⟩
      rcases List.mem_cons.1 hz with e | e
      · exact e ▸ hxy
      · exact hxy.trans (h.1 z e)
    · split
      · exact List.pairwise_cons.2 h
      · rename_i c1 c2
        refine List.pairwise_cons.2 ⟨fun z hz => ?_, insP_sorted x h.2⟩
        rcases (insP_mem x z r).1 hz with e | e
        · subst e
          rcases ltP.tri z y with k | k | k
          · exact absurd k c1
          · exact absurd k c2
          · exact k
        · exact h.1 z e
def sortC (l : List (Int × Int)) : List (Int × Int) := l.foldr insP []
theorem sortC_mem (z : Int × Int) : ∀ l : List (Int × Int), z ∈ sortC l ↔ z ∈ l
  | [] => Iff.rfl
  | x :: l => by
    show z ∈ insP x (sortC l) ↔ _
    rw [insP_mem, sortC_mem z l, List.mem_cons]
theorem sortC_sorted : ∀ l : List (Int × Int), (sortC l).Pairwise ltP
  | [] => List.Pairwise.nil
  | x :: l => insP_sorted x (sortC_sorted l)
/-- Sorted lists of the same points are one. -/
theorem sorted_one : ∀ {s t : List (Int × Int)}, s.Pairwise ltP → t.Pairwise ltP → (∀ x, x ∈ s ↔ x ∈ t) → s = t
  | [], [], _, _, _ => rfl
  | [], y :: t, _, _, h => by have := (h y).2 (by simp); cases this
  | x :: s, [], _, _, h => by have := (h x).1 (by simp); cases this
  | x :: s, y :: t, hs, ht, h => by
    rw [List.pairwise_cons] at hs ht
    have e : x = y := by
      rcases List.mem_cons.1 ((h x).1 (by simp)) with k | k
      · exact k
      · rcases List.mem_cons.1 ((h y).2 (by simp)) with k2 | k2
        · exact k2.symm
        · exact absurd (ht.1 x k) (fun q => ltP.asym q (hs.1 y k2))
    subst e
    refine congrArg (x :: ·) (sorted_one hs.2 ht.2 fun z => ?_)
    constructor
    · intro hz
      rcases List.mem_cons.1 ((h z).1 (List.mem_cons_of_mem _ hz)) with k | k
      · subst k; exact absurd (hs.1 z hz) (fun q => q.irr)
      · exact k
    · intro hz
      rcases List.mem_cons.1 ((h z).2 (List.mem_cons_of_mem _ hz)) with k | k
      · subst k; exact absurd (ht.1 z hz) (fun q => q.irr)
      · exact k
theorem nodup_len : ∀ {a b : List (Int × Int)}, a.Nodup → (∀ x ∈ a, x ∈ b) → a.length ≤ b.length
  | [], _, _, _ => Nat.zero_le _
  | x :: a, b, h, hs => by
    rw [List.nodup_cons] at h
    have hx := hs x (by simp)
    have h1 := nodup_len (a := a) (b := b.erase x) h.2 (fun y hy => (List.mem_erase_of_ne (fun e => h.1 (by rw [← e]; exact hy))).2 (hs y (List.mem_cons_of_mem _ hy)))
    rw [List.length_erase_of_mem hx] at h1
    have := List.length_pos_of_mem hx
    rw [List.length_cons]; omega
def hullE (l : List (Int × Int)) : Int := if 10 < l.length then 3 else if rangedB l = false then 1 else if (hullF (sortC l)).length < 3 then 8 else 0
def hullL (l : List (Int × Int)) : List (Int × Int) := if hullE l = 0 then hullF (sortC l) else []
theorem cyc_cor (l : List (Int × Int)) : cyc l = cor l := rfl
/-- Few sorted points, or a round. -/
theorem sort_cases (l : List (Int × Int)) : (hullF (sortC l) = [] ∧ ((∀ x, x ∉ l) ∨ ∃ z, z ∈ l ∧ ∀ x ∈ l, x = z)) ∨ ∃ lo hi z b, Round (sortC l) lo hi z b := by
  cases hs : sortC l with
  | nil =>
    left
    refine ⟨rfl, .inl fun x hx => ?_⟩
    rw [← sortC_mem, hs] at hx; cases hx
  | cons z r =>
    cases r with
    | nil =>
      left
      refine ⟨rfl, .inr ⟨z, by rw [← sortC_mem, hs]; simp, fun x hx => ?_⟩⟩
      rw [← sortC_mem, hs] at hx
      simpa using hx
    | cons c r =>
      right
      have hp := sortC_sorted l
      rw [hs] at hp
      obtain ⟨lo, hi, b, h⟩ := round_of (z := z) (l := c :: r) hp (by simp)
      exact ⟨lo, hi, z, b, h⟩
theorem mem_same (l : List (Int × Int)) : (fun y => y ∈ sortC l) = fun y => y ∈ l := funext fun y => propext (sortC_mem y l)
theorem hull_q {l : List (Int × Int)} (h : ¬ (hullF (sortC l)).length < 3) : HullQ (· ∈ l) (cor (hullF (sortC l))) (hullF (sortC l)).length ∧ (hullF (sortC l)).length ≤ l.length ∧ ∃ z, cor (hullF (sortC l)) 0 = z ∧ z ∈ l ∧ ∀ y ∈ l, y = z ∨ ltP z y := by
  rcases sort_cases l with ⟨e, _⟩ | ⟨lo, hi, z, b, hr⟩
  · rw [e] at h; simp at h
  · rw [hr.eq] at h ⊢
    have hq := hr.hull (by omega)
    rw [mem_same l, cyc_cor] at hq
    refine ⟨hq, ?_, z, ?_, ?_, fun y hy => hr.min y ((sortC_mem y l).2 hy)⟩
    · exact nodup_len hr.inj fun x hx => (sortC_mem x l).1 (hr.mem x hx)
    · have h0 := hr.lo0
      cases lo with
      | nil => cases h0
      | cons c r =>
        exact Option.some.inj h0
    · have h0 := hr.lo0
      cases lo with
      | nil => cases h0
      | cons c r =>
        injection h0 with h0
        subst h0
        exact (sortC_mem _ l).1 (hr.mem _ (by simp))
/-- All points on one line, as the document asks. -/
def flatB (l : List (Int × Int)) : Bool := !(anyN (fun i => anyN (fun k => turn (gi l (0, 0) 0) (gi l (0, 0) i) (gi l (0, 0) k) != 0) l.length) l.length)
theorem flatB_iff {l : List (Int × Int)} : flatB l = true ↔ ∀ x ∈ l, ∀ y ∈ l, turn (gi l (0, 0) 0) x y = 0 := by
  unfold flatB
  rw [Bool.not_eq_true']
  constructor
  · intro h x hx y hy
    obtain ⟨i, hi, rfl⟩ := List.getElem_of_mem hx
    obtain ⟨k, hk, rfl⟩ := List.getElem_of_mem hy
    have := anyN_none (anyN_none h i hi) k hk
    rw [gi_lt (i := i) hi, gi_lt (i := k) hk] at this
    simpa using this
  · intro h
    refine anyN_false fun i hi => anyN_false fun k hk => ?_
    have := h _ (List.getElem_mem hi) _ (List.getElem_mem hk)
    rw [gi_lt (i := i) hi, gi_lt (i := k) hk, this]; rfl
theorem flat_hull (l : List (Int × Int)) : flatB l = true ↔ (hullF (sortC l)).length < 3 := by
  rw [flatB_iff]
  constructor
  · intro h
    apply Classical.byContradiction
    intro hn
    obtain ⟨hq, _, _⟩ := hull_q hn
    have hs := hq.strict 0
    have := flat_three (h _ (hq.mem 0) _ (hq.mem 1)) (h _ (hq.mem 1) _ (hq.mem 2)) (h _ (hq.mem 0) _ (hq.mem 2))
    simp only [Nat.zero_add] at hs
    omega
  · intro h x hx y hy
    have h0 : gi l (0, 0) 0 ∈ l := by
      obtain ⟨i, hi, _⟩ := List.getElem_of_mem hx
      rw [gi_lt (by omega)]
      exact List.getElem_mem _
    rcases sort_cases l with ⟨_, e | ⟨z, _, e⟩⟩ | ⟨lo, hi, z, b, hr⟩
    · exact absurd hx (e x)
    · rw [e _ h0, e x hx, e y hy]; unfold turn; grind
    · rw [hr.eq] at h
      have hf := hr.flat h
      have hz : z ≠ b := fun e => by have := hr.zb; rw [e] at this; exact this.irr
      exact turn_col hz (hf _ ((sortC_mem _ l).2 h0)) (hf _ ((sortC_mem _ l).2 hx)) (hf _ ((sortC_mem _ l).2 hy))
/-- What holds of the convex plot. -/
structure HullOK (l h : List (Int × Int)) : Prop where
  q : HullQ (· ∈ l) (cor h) h.length
  val : Valid h
  min : ∃ z, cor h 0 = z ∧ z ∈ l ∧ ∀ y ∈ l, y = z ∨ ltP z y
theorem hull_ok {l : List (Int × Int)} (h : hullE l = 0) : HullOK l (hullF (sortC l)) := by
  unfold hullE at h
  split at h
  · cases h
  · rename_i h1
    split at h
    · cases h
    · rename_i h2
      split at h
      · cases h
      · rename_i h3
        obtain ⟨hq, hl, hm⟩ := hull_q h3
        refine ⟨hq, Valid.of_simple (by omega) (fun i => ?_) hq.simple, hm⟩
        have hr : rangedB l = true := by simpa using h2
        exact inR_iff.1 (List.all_eq_true.1 hr _ (hq.mem i))
theorem hull_area {l h : List (Int × Int)} (k : HullOK l h) : twiceF h = area (cor h) h.length ∧ 0 < area (cor h) h.length := by
  have ha := k.q.area
  have e : areaK h h.length = area (cor h) h.length := rfl
  unfold twiceF
  rw [if_pos (valid_iff.2 k.val), e]
  omega
/-- Is a plot convex? -/
def convB (l : List (Int × Int)) : Bool := !(anyN (fun i => (turn (cor l i) (cor l (i + 1)) (cor l (i + 2)) != 0) && (decide (0 < turn (cor l i) (cor l (i + 1)) (cor l (i + 2))) != decide (0 < areaK l l.length))) l.length)
theorem convB_iff {l : List (Int × Int)} (hv : Valid l) : convB l = true ↔ (0 < areaK l l.length → ∀ i, 0 ≤ turn (cor l i) (cor l (i + 1)) (cor l (i + 2))) ∧ (areaK l l.length < 0 → ∀ i, turn (cor l i) (cor l (i + 1)) (cor l (i + 2)) ≤ 0) := by
  have h3 := hv.lo
  have hne := hv.area_ne
  have hm : ∀ i, cor l (i % l.length) = cor l i ∧ cor l (i % l.length + 1) = cor l (i + 1) ∧ cor l (i % l.length + 2) = cor l (i + 2) := fun i => ⟨by have := cor_mod l i 0; simpa using this, cor_mod l i 1, cor_mod l i 2⟩
  unfold convB
  rw [Bool.not_eq_true']
  constructor
  · intro h
    have key : ∀ i, turn (cor l i) (cor l (i + 1)) (cor l (i + 2)) = 0 ∨ (0 < turn (cor l i) (cor l (i + 1)) (cor l (i + 2)) ↔ 0 < areaK l l.length) := fun i => by
      have := anyN_none h (i % l.length) (Nat.mod_lt _ (by omega))
      obtain ⟨e1, e2, e3⟩ := hm i
      rw [e1, e2, e3, Bool.and_eq_false_iff] at this
      rcases this with k | k
      · left; simpa using k
      · right
        have k : decide (0 < turn (cor l i) (cor l (i + 1)) (cor l (i + 2))) = decide (0 < areaK l l.length) := by simpa using k
        rwa [decide_eq_decide] at k
    exact ⟨fun ha i => by rcases key i with k | k <;> omega, fun ha i => by rcases key i with k | k <;> omega⟩
  · intro ⟨h1, h2⟩
    refine anyN_false fun i _ => ?_
    obtain ⟨t, ht⟩ : ∃ t, turn (cor l i) (cor l (i + 1)) (cor l (i + 2)) = t := ⟨_, rfl⟩
    rw [ht, Bool.and_eq_false_iff]
    by_cases h0 : t = 0
    · left; rw [h0]; rfl
    · right
      have : (0 < t) ↔ 0 < areaK l l.length := by
        rcases Int.lt_or_lt_of_ne hne with c | c
        · have := h2 c i; omega
        · have := h1 c i; omega
      rw [show decide (0 < t) = decide (0 < areaK l l.length) from decide_eq_decide.2 this]
      simp
theorem mem_cor {l : List (Int × Int)} (h : 0 < l.length) (y : Int × Int) : y ∈ l ↔ ∃ i, y = cor l i := by
  constructor
  · intro hy
    obtain ⟨i, hi, rfl⟩ := List.getElem_of_mem hy
    exact ⟨i, by rw [cor_lt hi, gi_lt hi]⟩
  · rintro ⟨i, rfl⟩
    unfold cor
    rw [gi_lt (Nat.mod_lt _ h)]
    exact List.getElem_mem _
/-- A plot has a convex plot around its corners; it is convex just if it is as large. -/
theorem convex_law {l : List (Int × Int)} (hv : Valid l) : hullE l = 0 ∧ twiceF l ≤ twiceF (hullF (sortC l)) ∧ (convB l = true ↔ twiceF (hullF (sortC l)) = twiceF l) := by
  have h3 := hv.lo
  have h10 := hv.hi
  have hs := hv.simple
  have hne := hv.area_ne
  have ea : area (cor l) l.length = areaK l l.length := rfl
  have hr : rangedB l = true := by
    refine List.all_eq_true.2 fun x hx => ?_
    obtain ⟨i, rfl⟩ := (mem_cor (by omega) x).1 hx
    exact inR_iff.2 (hv.rng i)
  have hlen : ¬ (hullF (sortC l)).length < 3 := fun h => by
    have hf := flatB_iff.1 ((flat_hull l).2 h)
    have hc0 : gi l (0, 0) 0 = cor l 0 := (cor_lt (by omega)).symm
    rw [hc0] at hf
    have hz : area (cor l) l.length = 0 := by
      rw [area_fan hs.per1]
      exact sumN_zero fun i _ => hf _ ((mem_cor (by omega) _).2 ⟨i, rfl⟩) _ ((mem_cor (by omega) _).2 ⟨i + 1, rfl⟩)
    rw [ea] at hz
    exact hne hz
  have he : hullE l = 0 := by
    unfold hullE
    rw [if_neg (by omega), if_neg (by rw [hr]; decide), if_neg hlen]
  have hk := hull_ok he
  obtain ⟨ha, hp⟩ := hull_area hk
  obtain ⟨a1, a2⟩ := hk.q.any hs (fun y => mem_cor (by omega) y)
  rw [ea] at a1 a2
  refine ⟨he, ?_⟩
  rw [ha, convB_iff hv]
  have et : twiceF l = max (areaK l l.length) (-(areaK l l.length)) := by unfold twiceF; rw [if_pos (valid_iff.2 hv)]
  rw [et]
  rcases Int.lt_or_lt_of_ne hne with c | c
  · obtain ⟨b1, b2⟩ := a2 c
    refine ⟨by omega, ?_⟩
    constructor
    · intro k
      have := b2.1 (k.2 c)
      omega
    · intro k
      have := b2.2 (by omega)
      exact ⟨fun q => by omega, fun _ => this⟩
  · obtain ⟨b1, b2⟩ := a1 c
    refine ⟨by omega, ?_⟩
    constructor
    · intro k
      have := b2.1 (k.1 c)
      omega
    · intro k
      have := b2.2 (by omega)
      exact ⟨fun _ => this, fun q => by omega⟩
/-- The convex plot is convex. -/
theorem hull_conv {l h : List (Int × Int)} (k : HullOK l h) : convB h = true := by
  have hp := (hull_area k).2
  have e : areaK h h.length = area (cor h) h.length := rfl
  rw [convB_iff k.val, e]
  exact ⟨fun _ i => Int.le_of_lt (k.q.strict i), fun q => by omega⟩
/-- The document's steps. -/
theorem hull_next {l h : List (Int × Int)} (k : HullOK l h) (i : Nat) : nextF (cor h i) l = cor h (i + 1) :=
  next_is (k.q.mem _) (fun e => k.q.ne i e.symm) (k.q.way i)
end Go.Proofs.Ythiemglckmociaa
