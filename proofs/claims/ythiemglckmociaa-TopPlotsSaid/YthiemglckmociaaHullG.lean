/- The convex plot around points, in plain: one side of it, made of sorted points, and what lies on its left. No conditions. -/
import Derived.Test.YthiemglckmociaaGeoA
namespace Go.Proofs.Ythiemglckmociaa
/-- The order of points. -/
def ltP (a b : Int × Int) : Prop := a.1 < b.1 ∨ (a.1 = b.1 ∧ a.2 < b.2)
/-- The order, or the other way round. -/
def ltS (s : Bool) (a b : Int × Int) : Prop := if s then ltP a b else ltP b a
theorem ltP.trans {a b c : Int × Int} (h : ltP a b) (k : ltP b c) : ltP a c := by unfold ltP at *; omega
theorem ltP.irr {a : Int × Int} (h : ltP a a) : False := by unfold ltP at h; omega
theorem ltP.asym {a b : Int × Int} (h : ltP a b) (k : ltP b a) : False := (h.trans k).irr
theorem ltP.tri (a b : Int × Int) : ltP a b ∨ a = b ∨ ltP b a := by
  unfold ltP
  by_cases h : a = b
  · exact .inr (.inl h)
  · have : ¬ (a.1 = b.1 ∧ a.2 = b.2) := fun e => h (Prod.ext e.1 e.2)
    omega
theorem ltS.trans {s : Bool} {a b c : Int × Int} (h : ltS s a b) (k : ltS s b c) : ltS s a c := by
  cases s
  · exact ltP.trans (a := c) (b := b) (c := a) k h
  · exact ltP.trans (a := a) (b := b) (c := c) h k
theorem ltS.irr {s : Bool} {a : Int × Int} (h : ltS s a a) : False := by
  cases s
  · exact ltP.irr (a := a) h
  · exact ltP.irr (a := a) h
theorem ltS.tri (s : Bool) (a b : Int × Int) : ltS s a b ∨ a = b ∨ ltS s b a := by
  cases s
  · rcases ltP.tri a b with h | h | h
    · exact .inr (.inr h)
    · exact .inr (.inl h)
    · exact .inl h
  · exact ltP.tri a b
/-- Ways that go on in the order: who is left of whom. -/
theorem half0 {u1 u2 v1 v2 w1 w2 : Int} (hu : 0 < u1 ∨ (u1 = 0 ∧ 0 < u2)) (hv : 0 < v1 ∨ (v1 = 0 ∧ 0 < v2)) (hw : 0 < w1 ∨ (w1 = 0 ∧ 0 < w2))
    (h1 : 0 ≤ u1 * v2 - u2 * v1) (h2 : 0 ≤ v1 * w2 - v2 * w1) : 0 ≤ u1 * w2 - u2 * w1 ∧ ((0 < u1 * v2 - u2 * v1 ∨ 0 < v1 * w2 - v2 * w1) → 0 < u1 * w2 - u2 * w1) := by
  have e1 : (u1 * w2 - u2 * w1) * v1 = (u1 * v2 - u2 * v1) * w1 + (v1 * w2 - v2 * w1) * u1 := by grind
  have e2 : (u1 * w2 - u2 * w1) * v2 = (u1 * v2 - u2 * v1) * w2 + (v1 * w2 - v2 * w1) * u2 := by grind
  obtain ⟨X, hX⟩ : ∃ X, u1 * v2 - u2 * v1 = X := ⟨_, rfl⟩
  obtain ⟨Y, hY⟩ : ∃ Y, v1 * w2 - v2 * w1 = Y := ⟨_, rfl⟩
  obtain ⟨Z, hZ⟩ : ∃ Z, u1 * w2 - u2 * w1 = Z := ⟨_, rfl⟩
  rw [hX] at h1
  rw [hY] at h2
  rw [hX, hY, hZ] at e1 e2
  rw [hX, hY, hZ]
  rcases hv with hv | ⟨hv, hv2⟩
  · have hu0 : 0 ≤ u1 := by omega
    have hw0 : 0 ≤ w1 := by omega
    have a1 := mpp0 h1 hw0
    have a2 := mpp0 h2 hu0
    have hz : 0 ≤ Z := by
      rcases Int.lt_or_le Z 0 with c | c
      · have := mnp c hv; omega
      · exact c
    refine ⟨hz, fun hs => ?_⟩
    rcases Int.lt_or_eq_of_le hz with c | c
    · exact c
    · exfalso
      rw [← c] at e1
      simp only [Int.zero_mul] at e1
      have b1 : X * w1 = 0 := by omega
      have b2 : Y * u1 = 0 := by omega
      rcases hs with hs | hs
      · have w0 : w1 = 0 := by rcases Int.mul_eq_zero.1 b1 with x | x <;> omega
        have hY2 : 0 < Y := by rw [← hY, w0]; have := mpp hv (b := w2) (by omega); simp; exact this
        have u0 : u1 = 0 := by rcases Int.mul_eq_zero.1 b2 with x | x <;> omega
        have : X < 0 := by rw [← hX, u0]; have := mpp (a := u2) (b := v1) (by omega) hv; omega
        omega
      · have u0 : u1 = 0 := by rcases Int.mul_eq_zero.1 b2 with x | x <;> omega
        have : X < 0 := by rw [← hX, u0]; have := mpp (a := u2) (b := v1) (by omega) hv; omega
        omega
  · subst hv
    have a1 : Y = - (v2 * w1) := by rw [← hY]; simp
    have w0 : w1 = 0 := by
      rcases hw with c | c
      · have := mpp hv2 c; omega
      · exact c.1
    subst w0
    have a2 : X = u1 * v2 := by rw [← hX]; simp
    have a3 : Z = u1 * w2 := by rw [← hZ]; simp
    have hw2 : 0 < w2 := by omega
    refine ⟨by rw [a3]; exact mpp0 (by omega) (by omega), fun hs => ?_⟩
    rcases hs with hs | hs
    · rw [a2] at hs
      have := fpos hs hv2
      rw [a3]; exact mpp this hw2
    · simp at a1; omega
theorem lt_pos {a b : Int × Int} (h : ltP a b) : 0 < b.1 - a.1 ∨ (b.1 - a.1 = 0 ∧ 0 < b.2 - a.2) := by unfold ltP at h; omega
/-- a to b, then to c, and to x. -/
theorem half1 {s : Bool} {a b c x : Int × Int} (h1 : ltS s a b) (h2 : ltS s b c) (h3 : ltS s b x) (t1 : 0 ≤ turn a b c) (t2 : 0 < turn b c x) : 0 < turn a b x := by
  cases s
  · have h := half0 (lt_pos (a := b) (b := a) h1) (lt_pos (a := c) (b := b) h2) (lt_pos (a := x) (b := b) h3) (by have e : turn a b c = (a.1 - b.1) * (b.2 - c.2) - (a.2 - b.2) * (b.1 - c.1) := (by unfold turn; grind); omega) (by have e : turn b c x = (b.1 - c.1) * (b.2 - x.2) - (b.2 - c.2) * (b.1 - x.1) := (by unfold turn; grind); omega)
    have e : turn a b x = (a.1 - b.1) * (b.2 - x.2) - (a.2 - b.2) * (b.1 - x.1) := by unfold turn; grind
    rw [e]
    refine h.2 (.inr ?_)
    have e : turn b c x = (b.1 - c.1) * (b.2 - x.2) - (b.2 - c.2) * (b.1 - x.1) := by unfold turn; grind
    rw [← e]; exact t2
  · have h := half0 (lt_pos (a := a) (b := b) h1) (lt_pos (a := b) (b := c) h2) (lt_pos (a := b) (b := x) h3) (by have e : turn a b c = (b.1 - a.1) * (c.2 - b.2) - (b.2 - a.2) * (c.1 - b.1) := (by unfold turn; grind); omega) (by have e : turn b c x = (c.1 - b.1) * (x.2 - b.2) - (c.2 - b.2) * (x.1 - b.1) := (by unfold turn; grind); omega)
    have e : turn a b x = (b.1 - a.1) * (x.2 - b.2) - (b.2 - a.2) * (x.1 - b.1) := by unfold turn; grind
    rw [e]
    refine h.2 (.inr ?_)
    have e : turn b c x = (c.1 - b.1) * (x.2 - b.2) - (c.2 - b.2) * (x.1 - b.1) := by unfold turn; grind
    rw [← e]; exact t2
/-- From a: b is right of x or ahead, y is left of b. -/
theorem half2 {s : Bool} {a b x y : Int × Int} (h1 : ltS s a b) (h2 : ltS s a x) (h3 : ltS s a y) (t1 : turn a b x ≤ 0) (t2 : 0 ≤ turn a b y) : 0 ≤ turn a x y := by
  cases s
  · have h := half0 (lt_pos (a := x) (b := a) h2) (lt_pos (a := b) (b := a) h1) (lt_pos (a := y) (b := a) h3) (by have e : turn a b x = -((a.1 - x.1) * (a.2 - b.2) - (a.2 - x.2) * (a.1 - b.1)) := (by unfold turn; grind); omega) (by have e : turn a b y = (a.1 - b.1) * (a.2 - y.2) - (a.2 - b.2) * (a.1 - y.1) := (by unfold turn; grind); omega)
    have e : turn a x y = (a.1 - x.1) * (a.2 - y.2) - (a.2 - x.2) * (a.1 - y.1) := by unfold turn; grind
    rw [e]; exact h.1
  · have h := half0 (lt_pos (a := a) (b := x) h2) (lt_pos (a := a) (b := b) h1) (lt_pos (a := a) (b := y) h3) (by have e : turn a b x = -((x.1 - a.1) * (b.2 - a.2) - (x.2 - a.2) * (b.1 - a.1)) := (by unfold turn; grind); omega) (by have e : turn a b y = (b.1 - a.1) * (y.2 - a.2) - (b.2 - a.2) * (y.1 - a.1) := (by unfold turn; grind); omega)
    have e : turn a x y = (x.1 - a.1) * (y.2 - a.2) - (x.2 - a.2) * (y.1 - a.1) := by unfold turn; grind
    rw [e]; exact h.1
/-- y is behind b and left of the way there; x is ahead of b and left of it. -/
theorem half3 {s : Bool} {a b x y : Int × Int} (h1 : ltS s a b) (h2 : ltS s b x) (h3 : ltS s y b) (t1 : 0 < turn a b x) (t2 : 0 ≤ turn a b y) : 0 < turn b x y := by
  cases s
  · have h := half0 (lt_pos (a := b) (b := y) h3) (lt_pos (a := b) (b := a) h1) (lt_pos (a := x) (b := b) h2) (by have e : turn a b y = (y.1 - b.1) * (a.2 - b.2) - (y.2 - b.2) * (a.1 - b.1) := (by unfold turn; grind); omega) (by have e : turn a b x = (a.1 - b.1) * (b.2 - x.2) - (a.2 - b.2) * (b.1 - x.1) := (by unfold turn; grind); omega)
    have e : turn b x y = (y.1 - b.1) * (b.2 - x.2) - (y.2 - b.2) * (b.1 - x.1) := by unfold turn; grind
    rw [e]
    refine h.2 (.inr ?_)
    have e : turn a b x = (a.1 - b.1) * (b.2 - x.2) - (a.2 - b.2) * (b.1 - x.1) := by unfold turn; grind
    omega
  · have h := half0 (lt_pos (a := y) (b := b) h3) (lt_pos (a := a) (b := b) h1) (lt_pos (a := b) (b := x) h2) (by have e : turn a b y = (b.1 - y.1) * (b.2 - a.2) - (b.2 - y.2) * (b.1 - a.1) := (by unfold turn; grind); omega) (by have e : turn a b x = (b.1 - a.1) * (x.2 - b.2) - (b.2 - a.2) * (x.1 - b.1) := (by unfold turn; grind); omega)
    have e : turn b x y = (b.1 - y.1) * (x.2 - b.2) - (b.2 - y.2) * (x.1 - b.1) := by unfold turn; grind
    rw [e]
    refine h.2 (.inr ?_)
    have e : turn a b x = (b.1 - a.1) * (x.2 - b.2) - (b.2 - a.2) * (x.1 - b.1) := by unfold turn; grind
    omega
/-- On one line, and between in the order. -/
theorem on_lt {s : Bool} {a x y : Int × Int} (h1 : ltS s a y) (h2 : ltS s y x) (t : turn a x y = 0) : onB a x y = true := by
  have key : ∀ {a x : Int × Int}, ltP a y → ltP y x → turn a x y = 0 → onB a x y = true := by
    intro a x h1 h2 t
    refine onB_mk t ?_
    unfold ltP at h1 h2
    unfold turn at t
    unfold dot
    have e : (x.1 - a.1) * (y.2 - a.2) = (x.2 - a.2) * (y.1 - a.1) := by omega
    rcases Int.lt_or_le a.1 y.1 with c | c
    · have c2 : y.1 ≤ x.1 := by omega
      have c3 : 0 < x.1 - a.1 := by omega
      -- (a.2 - y.2) * (x.2 - y.2) has the sign of -(d2*d2)
      have b1 : ((a.2 - y.2) * (x.2 - y.2)) * ((x.1 - a.1) * (x.1 - a.1)) = -(((x.2 - a.2) * (x.2 - a.2)) * ((y.1 - a.1) * (x.1 - y.1))) := by
        have e2 : (x.1 - a.1) * (x.2 - y.2) = (x.2 - a.2) * (x.1 - y.1) := by grind
        have e3 : (x.1 - a.1) * (a.2 - y.2) = -((x.2 - a.2) * (y.1 - a.1)) := by grind
        have e4 : ((a.2 - y.2) * (x.2 - y.2)) * ((x.1 - a.1) * (x.1 - a.1)) = ((x.1 - a.1) * (a.2 - y.2)) * ((x.1 - a.1) * (x.2 - y.2)) := by grind
        rw [e4, e2, e3]; grind
      have b2 : 0 ≤ ((x.2 - a.2) * (x.2 - a.2)) * ((y.1 - a.1) * (x.1 - y.1)) := mpp0 (sq0 _) (mpp0 (by omega) (by omega))
      have b3 : (a.2 - y.2) * (x.2 - y.2) ≤ 0 := by
        rcases Int.lt_or_le 0 ((a.2 - y.2) * (x.2 - y.2)) with d | d
        · have := mpp d (mpp c3 c3); omega
        · exact d
      have b4 : (a.1 - y.1) * (x.1 - y.1) ≤ 0 := mnp0 (by omega) (by omega)
      omega
    · have c1 : a.1 = y.1 := by omega
      have h1 : a.2 < y.2 := by omega
      rw [← c1] at e ⊢
      have e0 : (x.1 - a.1) * (y.2 - a.2) = 0 := by rw [e]; simp
      have c2 : x.1 = a.1 := by rcases Int.mul_eq_zero.1 e0 with d | d <;> omega
      have c3 : y.2 < x.2 := by omega
      have b3 : (a.2 - y.2) * (x.2 - y.2) ≤ 0 := mnp0 (by omega) (by omega)
      simp; exact b3
  cases s
  · rw [← onB_swap]
    have t' : turn x a y = 0 := by rw [turn_swap, t]; rfl
    exact key (a := x) (x := a) h2 h1 t'
  · exact key h1 h2 t
/-- y lies left of the way from a to b, or on it. -/
def left (a b y : Int × Int) : Prop := 0 ≤ turn a b y ∧ (turn a b y = 0 → onB a b y = true)
/-- The sides of a stack of corners, the last one on top. -/
def Edges (s : Bool) (S : Int × Int → Prop) : List (Int × Int) → Prop
  | b :: a :: r => (ltS s a b ∧ ∀ y, S y → left a b y) ∧ Edges s S (a :: r)
  | _ => True
/-- Corners are taken off that x passes on their right. -/
def popF (x : Int × Int) : List (Int × Int) → List (Int × Int)
  | b :: a :: r => if turn a b x ≤ 0 then popF x (a :: r) else b :: a :: r
  | l => l
def chainR (l : List (Int × Int)) : List (Int × Int) := l.foldl (fun st x => x :: popF x st) []
/-- What pop leaves. -/
structure Popped (s : Bool) (S : Int × Int → Prop) (x : Int × Int) (b : Int × Int) (r : List (Int × Int)) (z : Int × Int) : Prop where
  edges : Edges s S (b :: r)
  mem : ∀ c ∈ b :: r, S c
  last : (b :: r).getLast (List.cons_ne_nil _ _) = z
  see : ∀ y, S y → left b x y
  top : ∀ a r', r = a :: r' → 0 < turn a b x
theorem pop_ok {s : Bool} {S : Int × Int → Prop} {x z : Int × Int} (hx : ∀ y, S y → ltS s y x) (hz : ∀ y, S y → y = z ∨ ltS s z y) : ∀ (r : List (Int × Int)) (b : Int × Int), Edges s S (b :: r) → (∀ c ∈ b :: r, S c) → (b :: r).getLast (List.cons_ne_nil _ _) = z → (∀ y, S y → ltS s b y → left b x y) →
    ∃ b' r', popF x (b :: r) = b' :: r' ∧ Popped s S x b' r' z := by
  intro r
  induction r with
  | nil =>
    intro b he hm hl hp
    refine ⟨b, [], rfl, ⟨he, hm, hl, fun y hy => ?_, fun a r' h => by cases h⟩⟩
    have hb : b = z := hl
    rcases hz y hy with e | e
    · subst e; subst hb
      exact ⟨by unfold turn; simp, fun _ => by unfold onB turn dot; simp⟩
    · exact hp y hy (hb ▸ e)
  | cons a r ih =>
    intro b he hm hl hp
    obtain ⟨⟨hab, hed⟩, he2⟩ := he
    by_cases ht : turn a b x ≤ 0
    · have e : popF x (b :: a :: r) = popF x (a :: r) := by rw [popF, if_pos ht]
      rw [e]
      refine ih a he2 (fun c hc => hm c (List.mem_cons_of_mem _ hc)) (by rw [← hl]; simp) (fun y hy hay => ?_)
      have h0 := half2 hab (hx a (hm a (by simp))) hay ht (hed y hy).1
      refine ⟨h0, fun hz0 => on_lt hay (hx y hy) hz0⟩
    · refine ⟨b, a :: r, by rw [popF, if_neg ht], ⟨⟨⟨hab, hed⟩, he2⟩, hm, hl, fun y hy => ?_, fun a' r' h => ?_⟩⟩
      · rcases ltS.tri s y b with h | h | h
        · have := half3 hab (hx b (hm b (by simp))) h (by omega) (hed y hy).1
          exact ⟨Int.le_of_lt this, fun e => by omega⟩
        · subst h
          exact ⟨by unfold turn; grind, fun _ => by unfold onB turn dot; simp⟩
        · exact hp y hy h
      · injection h with h1 h2
        subst h1
        omega
/-- A point that all others come before: what it leaves of the sides. -/
theorem edges_more {s : Bool} {S : Int × Int → Prop} {x : Int × Int} (hx : ∀ y, S y → ltS s y x) : ∀ (r : List (Int × Int)) (b : Int × Int), Edges s S (b :: r) → (∀ c ∈ b :: r, S c) → (∀ a r', r = a :: r' → 0 < turn a b x) → Edges s (fun y => S y ∨ y = x) (b :: r) := by
  intro r
  induction r with
  | nil => intro b _ _ _; trivial
  | cons a r ih =>
    intro b he hm ht
    obtain ⟨⟨hab, hed⟩, he2⟩ := he
    have htop := ht a r rfl
    refine ⟨⟨hab, fun y hy => ?_⟩, ih a he2 (fun c hc => hm c (List.mem_cons_of_mem _ hc)) (fun a' r' h => ?_)⟩
    · rcases hy with hy | hy
      · exact hed y hy
      · subst hy
        exact ⟨Int.le_of_lt htop, fun e => by omega⟩
    · subst h
      obtain ⟨⟨haa, hed2⟩, -⟩ := he2
      exact half1 haa hab (hx a (hm a (by simp))) (hed2 b (hm b (by simp))).1 htop
/-- A stack made of the points of S. -/
structure Chain (s : Bool) (S : Int × Int → Prop) (b : Int × Int) (r : List (Int × Int)) (z : Int × Int) : Prop where
  edges : Edges s S (b :: r)
  mem : ∀ c ∈ b :: r, S c
  last : (b :: r).getLast (List.cons_ne_nil _ _) = z
  top : ∀ y, S y → y = b ∨ ltS s y b
  bot : ∀ y, S y → y = z ∨ ltS s z y
theorem Chain.push {s : Bool} {S : Int × Int → Prop} {b z x : Int × Int} {r : List (Int × Int)} (h : Chain s S b r z) (hx : ltS s b x) : ∃ r', x :: popF x (b :: r) = x :: r' ∧ Chain s (fun y => S y ∨ y = x) x r' z := by
  have hlt : ∀ y, S y → ltS s y x := fun y hy => by
    rcases h.top y hy with e | e
    · exact e ▸ hx
    · exact e.trans hx
  obtain ⟨b', r', e, hp⟩ := pop_ok hlt h.bot r b h.edges h.mem h.last (fun y hy hby => by
    rcases h.top y hy with e | e
    · exact absurd (e ▸ hby : ltS s b b) (fun k => k.irr)
    · exact absurd (hby.trans e) (fun k => k.irr))
  refine ⟨b' :: r', by rw [e], ⟨⟨⟨hlt b' (hp.mem b' (by simp)), fun y hy => ?_⟩, edges_more hlt r' b' hp.edges hp.mem hp.top⟩, fun c hc => ?_, ?_, fun y hy => ?_, fun y hy => ?_⟩⟩
  · rcases hy with hy | hy
    · exact hp.see y hy
    · subst hy
      exact ⟨by unfold turn; grind, fun _ => by unfold onB turn dot; simp; grind⟩
  · rcases List.mem_cons.1 hc with e | e
    · exact .inr e
    · exact .inl (hp.mem c e)
  · rw [List.getLast_cons (List.cons_ne_nil _ _)]; exact hp.last
  · rcases hy with hy | hy
    · exact .inr (hlt y hy)
    · exact .inl hy
  · rcases hy with hy | hy
    · exact h.bot y hy
    · subst hy
      have : S z := by rw [← h.last]; exact h.mem _ (List.getLast_mem _)
      exact .inr (hlt z this)
/-- The stack of sorted points. -/
theorem chain_ok {s : Bool} : ∀ (l : List (Int × Int)) (z : Int × Int), (z :: l).Pairwise (ltS s) → ∃ b r, chainR (z :: l) = b :: r ∧ Chain s (fun y => y ∈ z :: l) b r z ∧ b = (z :: l).getLast (List.cons_ne_nil _ _) := by
  have key : ∀ (l : List (Int × Int)) (S : Int × Int → Prop) (b : Int × Int) (r : List (Int × Int)) (z : Int × Int), Chain s S b r z → (b :: l).Pairwise (ltS s) → ∃ b' r', l.foldl (fun st x => x :: popF x st) (b :: r) = b' :: r' ∧ Chain s (fun y => S y ∨ y ∈ l) b' r' z ∧ b' = (b :: l).getLast (List.cons_ne_nil _ _) := by
    intro l
    induction l with
    | nil =>
      intro S b r z h _
      refine ⟨b, r, rfl, ?_, rfl⟩
      have : (fun y => S y ∨ y ∈ ([] : List (Int × Int))) = S := by funext y; simp
      rw [this]; exact h
    | cons x l ih =>
      intro S b r z h hp
      rw [List.pairwise_cons] at hp
      obtain ⟨r1, e1, h1⟩ := h.push (hp.1 x (by simp))
      obtain ⟨b', r', e2, h2, e3⟩ := ih _ x r1 z h1 hp.2
      refine ⟨b', r', ?_, ?_, ?_⟩
      · rw [List.foldl_cons, e1]; exact e2
      · have : (fun y => (S y ∨ y = x) ∨ y ∈ l) = (fun y => S y ∨ y ∈ x :: l) := by
          funext y
          rw [List.mem_cons]
          exact propext ⟨fun h => h.elim (fun h => h.elim .inl (fun e => .inr (.inl e))) (fun e => .inr (.inr e)), fun h => h.elim (fun h => .inl (.inl h)) (fun h => h.elim (fun e => .inl (.inr e)) .inr)⟩
        rw [← this]; exact h2
      · rw [e3, List.getLast_cons (List.cons_ne_nil _ _)]
  intro l z hp
  have h0 : Chain s (fun y => y = z) z [] z := ⟨trivial, fun c hc => by simpa using hc, rfl, fun y hy => .inl hy, fun y hy => .inl hy⟩
  obtain ⟨b, r, e1, h1, e2⟩ := key l _ z [] z h0 hp
  refine ⟨b, r, e1, ?_, e2⟩
  have : (fun y => y = z ∨ y ∈ l) = (fun y => y ∈ z :: l) := by funext y; rw [List.mem_cons]
  rw [← this]; exact h1
end Go.Proofs.Ythiemglckmociaa
/- The convex plot around points, in plain: both sides together go round; each point lies left of each side or on it. No conditions. -/
namespace Go.Proofs.Ythiemglckmociaa
theorem last_some {l : List (Int × Int)} (h : l ≠ []) : l.getLast? = some (l.getLast h) := by
  cases l with
  | nil => exact absurd rfl h
  | cons a l => rfl
/-- What holds from each to the next one. -/
def Adj (R : Int × Int → Int × Int → Prop) : List (Int × Int) → Prop
  | a :: b :: r => R a b ∧ Adj R (b :: r)
  | _ => True
theorem Adj.app {R : Int × Int → Int × Int → Prop} : ∀ {l : List (Int × Int)} {a : Int × Int} {r : List (Int × Int)}, Adj R (l ++ [a]) → Adj R (a :: r) → Adj R (l ++ a :: r)
  | [], _, _, _, k => k
  | [_], _, _, h, k => ⟨h.1, k⟩
  | _ :: c :: l, _, _, h, k => ⟨h.1, Adj.app (l := c :: l) h.2 k⟩
theorem Adj.mono {R R' : Int × Int → Int × Int → Prop} (hR : ∀ a b, R a b → R' a b) : ∀ {l : List (Int × Int)}, Adj R l → Adj R' l
  | [], _ => trivial
  | [_], _ => trivial
  | _ :: _ :: _, h => ⟨hR _ _ h.1, Adj.mono hR h.2⟩
theorem Adj.get {R : Int × Int → Int × Int → Prop} {l : List (Int × Int)} (h : Adj R l) : ∀ {i : Nat} (hi : i + 1 < l.length), R (l[i]'(by omega)) l[i + 1] := by
  induction l with
  | nil => intro i hi; simp at hi
  | cons a l ih =>
    intro i hi
    cases l with
    | nil => simp at hi
    | cons b r =>
      cases i with
      | zero => exact h.1
      | succ i => exact ih h.2 (by simpa using hi)
theorem Edges.adj {s : Bool} {S : Int × Int → Prop} : ∀ {st : List (Int × Int)}, Edges s S st → Adj (fun a b => ltS s a b ∧ ∀ y, S y → left a b y) st.reverse
  | [], _ => trivial
  | [_], _ => trivial
  | b :: a :: r, h => by
    have h2 := Edges.adj h.2
    rw [List.reverse_cons, List.reverse_cons, List.append_assoc]
    rw [List.reverse_cons] at h2
    exact Adj.app h2 ⟨h.1, trivial⟩
/-- One side of the plot, without its last point. -/
def chainF (l : List (Int × Int)) : List (Int × Int) := (chainR l).tail.reverse
/-- The plot around sorted points. -/
def hullF (l : List (Int × Int)) : List (Int × Int) := chainF l ++ chainF l.reverse
/-- From a on to b: all points lie left. -/
def Way (S : Int × Int → Prop) (a b : Int × Int) : Prop := ∀ y, S y → left a b y
theorem pairwise_rev {l : List (Int × Int)} (h : l.Pairwise (ltS true)) : l.reverse.Pairwise (ltS false) := by
  rw [List.pairwise_reverse]
  exact h
/-- How the sorted points make the plot: up to the greatest, and back. -/
structure Round (l lo hi : List (Int × Int)) (z b : Int × Int) : Prop where
  eq : hullF l = lo ++ hi
  lo0 : lo.head? = some z
  hi0 : hi.head? = some b
  up : Adj (fun a c => ltS true a c ∧ Way (· ∈ l) a c) (lo ++ [b])
  down : Adj (fun a c => ltS false a c ∧ Way (· ∈ l) a c) (hi ++ [z])
  mem : ∀ c ∈ lo ++ hi, c ∈ l
  zb : ltP z b
  min : ∀ y ∈ l, y = z ∨ ltP z y
theorem round_of {z : Int × Int} {l : List (Int × Int)} (hp : (z :: l).Pairwise (ltS true)) (hl : l ≠ []) : ∃ lo hi b, Round (z :: l) lo hi z b := by
  obtain ⟨b, r, e1, h1, e2⟩ := chain_ok l z hp
  have hp2 := pairwise_rev hp
  obtain ⟨z2, l2, e3⟩ : ∃ z2 l2, (z :: l).reverse = z2 :: l2 := by
    cases h : (z :: l).reverse with
    | nil => simp at h
    | cons a m => exact ⟨a, m, rfl⟩
  rw [e3] at hp2
  obtain ⟨b2, r2, f1, k1, f2⟩ := chain_ok l2 z2 hp2
  have hz2 : z2 = b := by
    rw [e2]
    have : ((z :: l).reverse).head? = some z2 := by rw [e3]; rfl
    rw [List.head?_reverse] at this
    rw [last_some (List.cons_ne_nil _ _)] at this
    injection this with this
    exact this.symm
  subst hz2
  have hb2 : b2 = z := by
    rw [f2]
    have : (z2 :: l2).getLast? = some z := by rw [← e3, List.getLast?_reverse]; rfl
    rw [last_some (List.cons_ne_nil _ _)] at this
    injection this
  subst hb2
  have hmem : ∀ y, y ∈ z2 :: l2 ↔ y ∈ b2 :: l := fun y => by rw [← e3, List.mem_reverse]
  have hzb : ltP b2 z2 := by
    obtain ⟨c, l', rfl⟩ : ∃ c l', l = c :: l' := by
      cases l with
      | nil => exact absurd rfl hl
      | cons c l' => exact ⟨c, l', rfl⟩
    rw [List.pairwise_cons] at hp
    have : z2 ∈ c :: l' := by
      rw [e2, List.getLast_cons (List.cons_ne_nil _ _)]
      exact List.getLast_mem _
    exact hp.1 _ this
  have hr : r ≠ [] := by
    rintro rfl
    have : z2 = b2 := h1.last
    rw [this] at hzb
    exact hzb.irr
  have hr2 : r2 ≠ [] := by
    rintro rfl
    have : b2 = z2 := k1.last
    rw [this] at hzb
    exact hzb.irr
  refine ⟨r.reverse, r2.reverse, z2, ?_⟩
  refine { eq := ?_, lo0 := ?_, hi0 := ?_, up := ?_, down := ?_, mem := ?_, zb := hzb, min := fun y hy => h1.bot y hy }
  · show chainF (b2 :: l) ++ chainF (b2 :: l).reverse = _
    unfold chainF
    rw [e1, e3, f1]; rfl
  · rw [List.head?_reverse]
    have := h1.last
    rw [List.getLast_cons hr] at this
    rw [last_some hr, this]
  · rw [List.head?_reverse]
    have := k1.last
    rw [List.getLast_cons hr2] at this
    rw [last_some hr2, this]
  · have := h1.edges.adj
    rw [List.reverse_cons] at this
    exact this
  · have := k1.edges.adj
    rw [List.reverse_cons] at this
    exact this.mono fun a c h => ⟨h.1, fun y hy => h.2 y ((hmem y).2 hy)⟩
  · intro c hc
    rcases List.mem_append.1 hc with hc | hc
    · exact h1.mem c (List.mem_cons_of_mem _ (by simpa using hc))
    · exact (hmem c).1 (k1.mem c (List.mem_cons_of_mem _ (by simpa using hc)))
/-- Two points each of which lies between a and the other one are one. -/
theorem on_both {a b c : Int × Int} (h : onB a b c = true) (k : onB a c b = true) : b = c := by
  obtain ⟨h1, h2⟩ := onB_turn h
  obtain ⟨k1, k2⟩ := onB_turn k
  obtain ⟨x1, x2⟩ := (on_iff h1).1 h2
  obtain ⟨y1, y2⟩ := (on_iff k1).1 k2
  exact Prod.ext (by omega) (by omega)
/-- The next corner is one alone. -/
theorem Way.one {S : Int × Int → Prop} {v a b : Int × Int} (h : Way S v a) (k : Way S v b) (ha : S a) (hb : S b) : a = b := by
  have h1 := h b hb
  have h2 := k a ha
  have e : turn v b a = - turn v a b := by unfold turn; grind
  have z1 : turn v a b = 0 := by have := h1.1; have := h2.1; omega
  have z2 : turn v b a = 0 := by omega
  exact on_both (h1.2 z1) (h2.2 z2)
/-- A convex plot around points: p goes round after m corners. -/
structure HullQ (S : Int × Int → Prop) (p : Nat → Int × Int) (m : Nat) : Prop where
  three : 3 ≤ m
  per : ∀ i, p (i + m) = p i
  inj : ∀ i j, i < m → j < m → p i = p j → i = j
  mem : ∀ i, S (p i)
  ne : ∀ i, p i ≠ p (i + 1)
  way : ∀ i, Way S (p i) (p (i + 1))
/-- Corners met again and again. -/
def cyc (l : List (Int × Int)) (i : Nat) : Int × Int := (l[i % l.length]?).getD (0, 0)
theorem cyc_lt {l : List (Int × Int)} {i : Nat} (h : i < l.length) : cyc l i = l[i] := by
  unfold cyc
  rw [Nat.mod_eq_of_lt h, List.getElem?_eq_getElem h]; rfl
theorem cyc_per (l : List (Int × Int)) (i : Nat) : cyc l (i + l.length) = cyc l i := by unfold cyc; rw [Nat.add_mod_right]
theorem cyc_mod {l : List (Int × Int)} (i : Nat) : cyc l (i % l.length) = cyc l i := by unfold cyc; rw [Nat.mod_mod]
theorem Round.closed {l lo hi : List (Int × Int)} {z b : Int × Int} (h : Round l lo hi z b) : Adj (fun a c => (ltS true a c ∨ ltS false a c) ∧ Way (· ∈ l) a c) (lo ++ hi ++ [z]) := by
  obtain ⟨hi', e⟩ : ∃ hi', hi = b :: hi' := by
    have := h.hi0
    cases hi with
    | nil => cases this
    | cons c hi' => injection this with this; exact ⟨hi', by rw [this]⟩
  have hd := h.down.mono (R' := fun a c => (ltS true a c ∨ ltS false a c) ∧ Way (· ∈ l) a c) fun a c k => ⟨.inr k.1, k.2⟩
  have hu := h.up.mono (R' := fun a c => (ltS true a c ∨ ltS false a c) ∧ Way (· ∈ l) a c) fun a c k => ⟨.inl k.1, k.2⟩
  subst e
  rw [List.append_assoc]
  exact Adj.app hu hd
theorem adj_sorted {s : Bool} {S : Int × Int → Prop} : ∀ {l : List (Int × Int)}, Adj (fun a c => ltS s a c ∧ Way S a c) l → l.Pairwise (ltS s)
  | [], _ => List.Pairwise.nil
  | [_], _ => List.pairwise_singleton _ _
  | a :: b :: r, h => by
    have h2 := adj_sorted h.2
    refine List.pairwise_cons.2 ⟨fun c hc => ?_, h2⟩
    rcases List.mem_cons.1 hc with e | e
    · exact e ▸ h.1.1
    · exact h.1.1.trans ((List.pairwise_cons.1 h2).1 c e)
theorem Round.cyc_next {l lo hi : List (Int × Int)} {z b : Int × Int} (h : Round l lo hi z b) (i : Nat) : (ltS true (cyc (lo ++ hi) i) (cyc (lo ++ hi) (i + 1)) ∨ ltS false (cyc (lo ++ hi) i) (cyc (lo ++ hi) (i + 1))) ∧ Way (· ∈ l) (cyc (lo ++ hi) i) (cyc (lo ++ hi) (i + 1)) := by
  have hm : 0 < (lo ++ hi).length := by
    have := h.hi0
    cases hi with
    | nil => cases this
    | cons c r => simp only [List.length_append, List.length_cons]; omega
  have hc := h.closed
  obtain ⟨H, hH⟩ : ∃ H, lo ++ hi = H := ⟨_, rfl⟩
  have h0 : H[0]? = some z := by
    rw [← hH]
    cases lo with
    | nil => have := h.lo0; cases this
    | cons c r => have := h.lo0; injection this with this; subst this; rfl
  rw [hH] at hc hm ⊢
  rw [← cyc_mod i]
  have e : cyc H (i + 1) = cyc H (i % H.length + 1) := by
    rw [← cyc_mod (i + 1), ← cyc_mod (i % H.length + 1)]
    congr 1
    rw [Nat.mod_add_mod]
  rw [e]
  obtain ⟨j, hj⟩ : ∃ j, i % H.length = j := ⟨_, rfl⟩
  rw [hj]
  have hlt : j < H.length := by rw [← hj]; exact Nat.mod_lt _ hm
  have hg := hc.get (i := j) (by simp; omega)
  have e1 : (H ++ [z])[j]'(by simp; omega) = cyc H j := by rw [cyc_lt hlt, List.getElem_append_left hlt]
  have e2 : (H ++ [z])[j + 1]'(by simp; omega) = cyc H (j + 1) := by
    rcases Nat.lt_or_ge (j + 1) H.length with k | k
    · rw [cyc_lt k, List.getElem_append_left k]
    · have : j + 1 = H.length := by omega
      rw [List.getElem_append_right k]
      have e3 : cyc H (j + 1) = z := by
        rw [this]
        have := cyc_per H 0
        rw [Nat.zero_add] at this
        rw [this]
        unfold cyc
        rw [Nat.zero_mod, h0]; rfl
      rw [e3]
      simp [this]
  rw [e1, e2] at hg
  exact hg
theorem Round.inj {l lo hi : List (Int × Int)} {z b : Int × Int} (h : Round l lo hi z b) : (lo ++ hi).Nodup := by
  have hu := adj_sorted h.up
  have hd := adj_sorted h.down
  have nd : ∀ {s : Bool} {m : List (Int × Int)}, m.Pairwise (ltS s) → m.Nodup := fun {s} {m} hm => List.Pairwise.imp (fun {a c} (k : ltS s a c) => fun e => by rw [e] at k; exact k.irr) hm
  have h1 : lo.Nodup := (List.nodup_append.1 (nd hu)).1
  have h2 : hi.Nodup := (List.nodup_append.1 (nd hd)).1
  refine List.nodup_append.2 ⟨h1, h2, fun a ha c hc e => ?_⟩
  subst e
  -- the next of a, up and down
  obtain ⟨i, hi1, e1⟩ := List.mem_iff_getElem.1 ha
  obtain ⟨j, hj1, e2⟩ := List.mem_iff_getElem.1 hc
  have g1 := h.up.get (i := i) (by simp; omega)
  have g2 := h.down.get (i := j) (by simp; omega)
  rw [List.getElem_append_left hi1, e1] at g1
  rw [List.getElem_append_left hj1, e2] at g2
  have m1 : (lo ++ [b])[i + 1]'(by simp; omega) ∈ l := by
    have := List.getElem_mem (l := lo ++ [b]) (n := i + 1) (by simp; omega)
    rcases List.mem_append.1 this with k | k
    · exact h.mem _ (List.mem_append_left _ k)
    · rw [List.mem_singleton.1 k]
      refine h.mem b (List.mem_append_right _ ?_)
      have := h.hi0
      cases hi with
      | nil => cases this
      | cons c r => injection this with this; subst this; simp
  have m2 : (hi ++ [z])[j + 1]'(by simp; omega) ∈ l := by
    have := List.getElem_mem (l := hi ++ [z]) (n := j + 1) (by simp; omega)
    rcases List.mem_append.1 this with k | k
    · exact h.mem _ (List.mem_append_right _ k)
    · rw [List.mem_singleton.1 k]
      refine h.mem z (List.mem_append_left _ ?_)
      have := h.lo0
      cases lo with
      | nil => cases this
      | cons c r => injection this with this; subst this; simp
  have e := g1.2.one g2.2 m1 m2
  rw [← e] at g2
  exact ltP.asym (g1.1 : ltP a _) (g2.1 : ltP _ a)
theorem Round.hull {l lo hi : List (Int × Int)} {z b : Int × Int} (h : Round l lo hi z b) (h3 : 3 ≤ (lo ++ hi).length) : HullQ (· ∈ l) (cyc (lo ++ hi)) (lo ++ hi).length := by
  refine ⟨h3, cyc_per _, fun i j hi hj e => ?_, fun i => ?_, fun i e => ?_, fun i => (h.cyc_next i).2⟩
  · rw [cyc_lt hi, cyc_lt hj] at e
    exact (List.getElem_inj h.inj).1 e
  · rw [← cyc_mod, cyc_lt (Nat.mod_lt _ (by omega))]
    exact h.mem _ (List.getElem_mem _)
  · rcases (h.cyc_next i).1 with k | k
    · rw [← e] at k; exact k.irr
    · rw [← e] at k; exact k.irr
/-- A plot of two corners: all points are on one line. -/
theorem Round.flat {l lo hi : List (Int × Int)} {z b : Int × Int} (h : Round l lo hi z b) (h3 : (lo ++ hi).length < 3) : ∀ y ∈ l, turn z b y = 0 := by
  intro y hy
  have hl1 : lo = [z] := by
    have := h.lo0
    cases lo with
    | nil => cases this
    | cons c r =>
      injection this with this; subst this
      cases r with
      | nil => rfl
      | cons d r =>
        exfalso
        have := h.hi0
        cases hi with
        | nil => cases this
        | cons _ _ => simp at h3; omega
  have hl2 : hi = [b] := by
    have := h.hi0
    cases hi with
    | nil => cases this
    | cons c r =>
      injection this with this; subst this
      cases r with
      | nil => rfl
      | cons d r => exfalso; rw [hl1] at h3; simp at h3; omega
  have h1 := h.up
  have h2 := h.down
  rw [hl1] at h1
  rw [hl2] at h2
  have a1 := (h1.1.2 y hy).1
  have a2 := (h2.1.2 y hy).1
  have : turn b z y = - turn z b y := turn_swap _ _ _
  omega
end Go.Proofs.Ythiemglckmociaa
/- The convex plot around points, in plain: it is a plot, its corners turn left, and each point is in it. No conditions. -/
namespace Go.Proofs.Ythiemglckmociaa
theorem mod_ne {m i d : Nat} (h : d < m) (h0 : 0 < d) : i % m ≠ (i + d) % m := by
  intro e
  have := Nat.sub_mod_eq_zero_of_mod_eq e.symm
  rw [Nat.add_sub_cancel_left, Nat.mod_eq_of_lt h] at this
  omega
theorem HullQ.per_mul {S : Int × Int → Prop} {p : Nat → Int × Int} {m : Nat} (h : HullQ S p m) (i : Nat) : ∀ k, p (i + m * k) = p i
  | 0 => by simp
  | k + 1 => by rw [Nat.mul_succ, ← Nat.add_assoc, h.per, h.per_mul i k]
theorem HullQ.mod {S : Int × Int → Prop} {p : Nat → Int × Int} {m : Nat} (h : HullQ S p m) (i : Nat) : p (i % m) = p i := by
  have := h.per_mul (i % m) (i / m)
  rw [Nat.mod_add_div] at this
  exact this.symm
theorem HullQ.diff {S : Int × Int → Prop} {p : Nat → Int × Int} {m : Nat} (h : HullQ S p m) {i j : Nat} (hij : i % m ≠ j % m) : p i ≠ p j := fun e => by
  have h3 := h.three
  rw [← h.mod i, ← h.mod j] at e
  exact hij (h.inj _ _ (Nat.mod_lt _ (by omega)) (Nat.mod_lt _ (by omega)) e)
theorem HullQ.strict {S : Int × Int → Prop} {p : Nat → Int × Int} {m : Nat} (h : HullQ S p m) (i : Nat) : 0 < turn (p i) (p (i + 1)) (p (i + 2)) := by
  have h3 := h.three
  have h1 := h.way i _ (h.mem (i + 2))
  have h2 := h.way (i + 1) _ (h.mem i)
  rcases Int.lt_or_eq_of_le h1.1 with c | c
  · exact c
  · exfalso
    have o1 := h1.2 c.symm
    have o2 := h2.2 (by rw [turn_rot]; exact c.symm)
    rw [← onB_swap] at o1
    have := on_both o1 o2
    exact h.diff (i := i) (j := i + 2) (mod_ne (by omega) (by omega)) this
/-- A corner on a side that it does not bound. -/
theorem HullQ.off {S : Int × Int → Prop} {p : Nat → Int × Int} {m : Nat} (h : HullQ S p m) {i j : Nat} (h1 : i % m ≠ j % m) (h2 : i % m ≠ (j + 1) % m) : onB (p j) (p (j + 1)) (p i) = false := by
  cases ho : onB (p j) (p (j + 1)) (p i)
  · rfl
  · exfalso
    obtain ⟨k, t, hk, ht, hs, e1, e2⟩ := on_pt ho
    have n1 := h.diff h1
    have n2 := h.diff h2
    have w1 := h.way i _ (h.mem j)
    have w2 := h.way i _ (h.mem (j + 1))
    obtain ⟨x, hx⟩ : ∃ x, p i = x := ⟨_, rfl⟩
    obtain ⟨x', hx'⟩ : ∃ x', p (i + 1) = x' := ⟨_, rfl⟩
    obtain ⟨a, ha⟩ : ∃ a, p j = a := ⟨_, rfl⟩
    obtain ⟨c, hc⟩ : ∃ c, p (j + 1) = c := ⟨_, rfl⟩
    rw [hx, ha] at n1
    rw [hx, hc] at n2
    rw [hx, hx', ha] at w1
    rw [hx, hx', hc] at w2
    rw [hx, ha, hc] at e1 e2
    have hk0 : 0 < k := by
      rcases Int.lt_or_eq_of_le hk with q | q
      · exact q
      · exfalso
        subst q
        have e1 : t * x.1 = t * c.1 := by simpa using e1
        have e2 : t * x.2 = t * c.2 := by simpa using e2
        exact n2 (Prod.ext (Int.eq_of_mul_eq_mul_left (by omega) e1) (Int.eq_of_mul_eq_mul_left (by omega) e2))
    have ht0 : 0 < t := by
      rcases Int.lt_or_eq_of_le ht with q | q
      · exact q
      · exfalso
        subst q
        have e1 : k * x.1 = k * a.1 := by simpa using e1
        have e2 : k * x.2 = k * a.2 := by simpa using e2
        exact n1 (Prod.ext (Int.eq_of_mul_eq_mul_left (by omega) e1) (Int.eq_of_mul_eq_mul_left (by omega) e2))
    have f0 : k * turn x x' a + t * turn x x' c = 0 := by
      have : k * turn x x' a + t * turn x x' c = (x'.1 - x.1) * ((k * a.2 + t * c.2) - (k + t) * x.2) - (x'.2 - x.2) * ((k * a.1 + t * c.1) - (k + t) * x.1) := by unfold turn; grind
      rw [this, e1, e2]; simp
    have g1 := mpp0 hk w1.1
    have g2 := mpp0 ht w2.1
    have z1 : turn x x' a = 0 := by
      have : k * turn x x' a = 0 := by omega
      rcases Int.mul_eq_zero.1 this with q | q
      · omega
      · exact q
    have z2 : turn x x' c = 0 := by
      have : t * turn x x' c = 0 := by omega
      rcases Int.mul_eq_zero.1 this with q | q
      · omega
      · exact q
    have d1 := on_ahead (w1.2 z1) (fun e => n1 e.symm)
    have d2 := on_ahead (w2.2 z2) (fun e => n2 e.symm)
    have f1 : k * dot x x' a + t * dot x x' c = 0 := by
      have : k * dot x x' a + t * dot x x' c = (x'.1 - x.1) * ((k * a.1 + t * c.1) - (k + t) * x.1) + (x'.2 - x.2) * ((k * a.2 + t * c.2) - (k + t) * x.2) := by unfold dot; grind
      rw [this, e1, e2]; simp
    have := mpp hk0 d1
    have := mpp ht0 d2
    omega
theorem HullQ.simple {S : Int × Int → Prop} {p : Nat → Int × Int} {m : Nat} (h : HullQ S p m) : Simple p m := by
  refine ⟨h.three, h.per, h.inj, fun i => fun k => by have := h.strict i; omega, fun i j hi hj h1 h2 h3 => ?_⟩
  have h3' := h.three
  have ei : i % m = i := Nat.mod_eq_of_lt hi
  have ej : j % m = j := Nat.mod_eq_of_lt hj
  have hne : (i + 1) % m ≠ (j + 1) % m := fun e => by
    rcases Nat.lt_or_ge (i + 1) m with a | a
    · rw [Nat.mod_eq_of_lt a] at e
      rcases Nat.lt_or_ge (j + 1) m with b | b
      · rw [Nat.mod_eq_of_lt b] at e; omega
      · have : j + 1 = m := by omega
        rw [this, Nat.mod_self] at e; omega
    · have : i + 1 = m := by omega
      rw [this, Nat.mod_self] at e
      rcases Nat.lt_or_ge (j + 1) m with b | b
      · rw [Nat.mod_eq_of_lt b] at e; omega
      · omega
  refine ⟨h.off (by omega) (by rw [ei]; exact fun e => h2 e.symm), h.off (by rw [ej]; exact h3) hne, h.off (by omega) (by rw [ej]; exact fun e => h3 e.symm), h.off (by rw [ei]; exact h2) (fun e => hne e.symm), fun k => ?_⟩
  have w1 := (h.way i _ (h.mem j)).1
  have w2 := (h.way i _ (h.mem (j + 1))).1
  have := mpp0 w1 w2
  omega
/-- The area as a fan. -/
theorem area_fan {p : Nat → Int × Int} {n : Nat} (hper : p n = p 0) : area p n = sumN (fun i => turn (p 0) (p i) (p (i + 1))) n := by
  have e : sumN (fun i => turn (p 0) (p i) (p (i + 1))) n = sumN (fun i => ((p i).1 * (p (i + 1)).2 - (p (i + 1)).1 * (p i).2) - (((p 0).1 * (p (i + 1)).2 - (p 0).2 * (p (i + 1)).1) - ((p 0).1 * (p i).2 - (p 0).2 * (p i).1))) n :=
    sumN_congr fun i _ => by unfold turn; grind
  rw [e, sumN_sub, sumN_tele (fun i => (p 0).1 * (p i).2 - (p 0).2 * (p i).1), hper]
  unfold area; omega
theorem HullQ.per0 {S : Int × Int → Prop} {p : Nat → Int × Int} {m : Nat} (h : HullQ S p m) : p m = p 0 := by have := h.per 0; rwa [Nat.zero_add] at this
theorem HullQ.area {S : Int × Int → Prop} {p : Nat → Int × Int} {m : Nat} (h : HullQ S p m) : 0 < Go.Proofs.Ythiemglckmociaa.area p m := by
  have h3 := h.three
  rw [area_fan h.per0]
  have h1 : ∀ i, i < m → 0 ≤ turn (p 0) (p i) (p (i + 1)) := fun i _ => by
    rw [← turn_rot]
    exact (h.way i _ (h.mem 0)).1
  have h2 := sumN_ge (i := 1) (by omega) h1
  have h4 := h.strict 0
  simp only [Nat.zero_add] at h4
  have : turn (p 0) (p 1) (p (1 + 1)) = turn (p 0) (p 1) (p 2) := rfl
  omega
theorem HullQ.lam {S : Int × Int → Prop} {p : Nat → Int × Int} {m : Nat} (h : HullQ S p m) : Go.Proofs.Ythiemglckmociaa.lam p m 0 = 1 := by
  have h1 := h.simple.area_pos
  have h2 := h.area
  rcases h.simple.lam01 with c | c
  · rw [c] at h1; omega
  · exact c
/-- Ways that keep turning left above a line do not come back. -/
theorem no_round {u : Nat → Int × Int} {n : Nat} (h0 : 0 < n) (hper : u n = u 0) (s : Int) (hs : s = 1 ∨ s = -1) (hp : ∀ i, i ≤ n → 0 < s * (u i).2) (ht : ∀ i, i < n → 0 < (u i).1 * (u (i + 1)).2 - (u i).2 * (u (i + 1)).1) : False := by
  have key : ∀ {a b c : Int × Int}, 0 < s * a.2 → 0 < s * b.2 → 0 < s * c.2 → 0 < a.1 * b.2 - a.2 * b.1 → 0 < b.1 * c.2 - b.2 * c.1 → 0 < a.1 * c.2 - a.2 * c.1 := by
    intro a b c ha hb hc h1 h2
    have e : (a.1 * c.2 - a.2 * c.1) * b.2 = (a.1 * b.2 - a.2 * b.1) * c.2 + (b.1 * c.2 - b.2 * c.1) * a.2 := by grind
    rcases hs with hs | hs
    · subst hs
      rw [Int.one_mul] at ha hb hc
      have g1 := mpp h1 hc
      have g2 := mpp h2 ha
      exact fpos (by omega : 0 < (a.1 * c.2 - a.2 * c.1) * b.2) hb
    · subst hs
      have g1 := mpn h1 (b := c.2) (by omega)
      have g2 := mpn h2 (b := a.2) (by omega)
      have : (a.1 * c.2 - a.2 * c.1) * b.2 < 0 := by omega
      rcases Int.lt_or_le 0 (a.1 * c.2 - a.2 * c.1) with q | q
      · exact q
      · have := mnn0 q (b := b.2) (by omega); omega
  have all : ∀ k, k < n → 0 < (u 0).1 * (u (k + 1)).2 - (u 0).2 * (u (k + 1)).1 := by
    intro k
    induction k with
    | zero => intro _; exact ht 0 h0
    | succ k ih => intro hk; exact key (hp 0 (by omega)) (hp (k + 1) (by omega)) (hp (k + 1 + 1) (by omega)) (ih (by omega)) (ht (k + 1) hk)
  have := all (n - 1) (by omega)
  rw [show n - 1 + 1 = n by omega, hper] at this
  have e : (u 0).1 * (u 0).2 - (u 0).2 * (u 0).1 = 0 := by grind
  omega
/-- All sides see y on their left: the plot goes round it. -/
theorem inside_pos {p : Nat → Int × Int} {n : Nat} (h0 : 0 < n) (hper : ∀ i, p (i + n) = p i) {y : Int × Int} (ht : ∀ i, i < n → 0 < turn (p i) (p (i + 1)) y) : 1 ≤ wsum p n y := by
  have hn : p n = p 0 := by have := hper 0; rwa [Nat.zero_add] at this
  have hc : ∀ i, i < n → 0 ≤ cr y (p i) (p (i + 1)) := fun i hi => by
    rw [cr_pos (ht i hi)]
    split <;> omega
  have hmod : ∀ i, p (i % n) = p i := fun i => by
    have key : ∀ k i, p (i + n * k) = p i := by
      intro k
      induction k with
      | zero => intro i; simp
      | succ k ih => intro i; rw [Nat.mul_succ, ← Nat.add_assoc, hper, ih i]
    have := key (i / n) (i % n)
    rw [Nat.mod_add_div] at this
    exact this.symm
  by_cases hup : ∃ i, i < n ∧ (p i).2 ≤ y.2 ∧ y.2 < (p (i + 1)).2
  · obtain ⟨i, hi, h1, h2⟩ := hup
    have := sumN_ge hi hc
    rw [cr_pos (ht i hi), if_pos ⟨h1, h2⟩] at this
    exact this
  · exfalso
    -- no side goes up past y: all corners are below, or all above
    have hall : ∀ i, (p i).2 ≤ y.2 → (p (i + 1)).2 ≤ y.2 := fun i hi => by
      rcases Int.lt_or_le y.2 (p (i + 1)).2 with c | c
      · exfalso
        refine hup ⟨i % n, Nat.mod_lt _ h0, by rw [hmod]; exact hi, ?_⟩
        have : p (i % n + 1) = p (i + 1) := by
          rw [← hmod (i % n + 1), ← hmod (i + 1), Nat.mod_add_mod]
        rw [this]; exact c
      · exact c
    have tt : ∀ i, turn (p i) (p (i + 1)) y = ((p i).1 - y.1) * ((p (i + 1)).2 - y.2) - ((p i).2 - y.2) * ((p (i + 1)).1 - y.1) := fun i => by unfold turn; grind
    have ht' : ∀ i, 0 < turn (p i) (p (i + 1)) y := fun i => by
      have := ht (i % n) (Nat.mod_lt _ h0)
      have e : p (i % n + 1) = p (i + 1) := by
        rw [← hmod (i % n + 1), ← hmod (i + 1), Nat.mod_add_mod]
      rw [hmod, e] at this
      exact this
    by_cases hex : ∃ i, (p i).2 ≤ y.2
    · obtain ⟨i, hi⟩ := hex
      have hle : ∀ k, (p (i + k)).2 ≤ y.2 := by
        intro k
        induction k with
        | zero => exact hi
        | succ k ih => exact hall (i + k) ih
      have hle2 : ∀ j, (p j).2 ≤ y.2 := fun j => by
        have := hle ((j + n * (i + 1)) - i)
        have hij : i ≤ j + n * (i + 1) := by
          have : i + 1 ≤ n * (i + 1) := Nat.le_mul_of_pos_left _ h0
          omega
        rw [Nat.add_sub_cancel' hij, ← hmod, Nat.add_mul_mod_self_left, hmod] at this
        exact this
      -- none is level with y
      have hlt : ∀ j, (p j).2 < y.2 := fun j => by
        rcases Int.lt_or_eq_of_le (hle2 j) with c | c
        · exact c
        · exfalso
          have a1 := ht' j
          rw [tt, c] at a1
          have a2 := ht' (j + (n - 1))
          have e : p (j + (n - 1) + 1) = p j := by rw [show j + (n - 1) + 1 = j + n by omega, hper]
          rw [tt, e, c] at a2
          have b1 : 0 < ((p j).1 - y.1) * ((p (j + 1)).2 - y.2) := by simpa using a1
          have b2 : ((p (j + (n - 1))).2 - y.2) * ((p j).1 - y.1) < 0 := by have : ((p (j + (n - 1))).1 - y.1) * (y.2 - y.2) = 0 := by simp
                                                                            omega
          have c1 := hle2 (j + 1)
          have c2 := hle2 (j + (n - 1))
          rcases Int.lt_or_le 0 ((p j).1 - y.1) with q | q
          · have := mpn0 (Int.le_of_lt q) (b := (p (j + 1)).2 - y.2) (by omega); omega
          · have := mnn0 (a := (p (j + (n - 1))).2 - y.2) (by omega) q; omega
      refine no_round (u := fun i => ((p i).1 - y.1, (p i).2 - y.2)) h0 (by show _ = _; rw [hn]) (-1) (.inr rfl) (fun i _ => ?_) (fun i _ => ?_)
      · have := hlt i; show 0 < -1 * ((p i).2 - y.2); omega
      · have := ht' i; rw [tt] at this; exact this
    · refine no_round (u := fun i => ((p i).1 - y.1, (p i).2 - y.2)) h0 (by show _ = _; rw [hn]) 1 (.inl rfl) (fun i _ => ?_) (fun i _ => ?_)
      · have : ¬ (p i).2 ≤ y.2 := fun k => hex ⟨i, k⟩
        show 0 < 1 * ((p i).2 - y.2); omega
      · have := ht' i; rw [tt] at this; exact this
/-- Each point is on the border or inside. -/
theorem HullQ.within {S : Int × Int → Prop} {p : Nat → Int × Int} {m : Nat} (h : HullQ S p m) {y : Int × Int} (hy : S y) : (∃ i, i < m ∧ onB (p i) (p (i + 1)) y = true) ∨ wsum p m y = 1 := by
  have h3 := h.three
  by_cases hb : ∃ i, i < m ∧ turn (p i) (p (i + 1)) y = 0
  · obtain ⟨i, hi, e⟩ := hb
    exact .inl ⟨i, hi, (h.way i y hy).2 e⟩
  · have := inside_pos (by omega) h.per (y := y) fun i hi => by
      have h1 := (h.way i y hy).1
      rcases Int.lt_or_eq_of_le h1 with c | c
      · exact c
      · exact absurd ⟨i, hi, c.symm⟩ hb
    have h2 := h.simple.around_any y
    rw [h.lam] at h2
    exact .inr (by omega)
/-- Points that the first one sees on one line are on one line. -/
theorem flat_three {o a b c : Int × Int} (h1 : turn o a b = 0) (h2 : turn o b c = 0) (h3 : turn o a c = 0) : turn a b c = 0 := by
  have : turn a b c = turn o a b + turn o b c - turn o a c := by unfold turn; grind
  omega
end Go.Proofs.Ythiemglckmociaa
/- A plot and the convex plot around it, in plain: their areas. No conditions. -/
namespace Go.Proofs.Ythiemglckmociaa
/-- A point near x that is on no line of two corners: to the right and a little above. -/
def aside (k D : Int) (x : Int × Int) : Int × Int := (k * x.1 + D, k * x.2 + 1)
theorem turn_aside (k D : Int) (a b x : Int × Int) : turn (sc k a) (sc k b) (aside k D x) = k * (k * turn a b x + ((b.1 - a.1) - (b.2 - a.2) * D)) := by unfold turn sc aside; grind
/-- What a point aside tells: it counts as x does, and is on no line. -/
theorem aside_ok (ps : List ((Int × Int) × (Int × Int))) (hne : ∀ s ∈ ps, s.1 ≠ s.2) (x : Int × Int) : ∃ k D : Int, 0 < k ∧ ∀ s ∈ ps, cr (aside k D x) (sc k s.1) (sc k s.2) = cr x s.1 s.2 ∧ turn (sc k s.1) (sc k s.2) (aside k D x) ≠ 0 ∧
    (0 ≤ turn s.1 s.2 x → turn s.1 s.2 x ≠ 0 → 0 < turn (sc k s.1) (sc k s.2) (aside k D x)) := by
  -- one D that is larger than all sides are wide
  obtain ⟨D, hD⟩ : ∃ D : Int, ∀ s ∈ ps, (s.2.1 - s.1.1).natAbs < D := by
    clear hne
    induction ps with
    | nil => exact ⟨0, fun s hs => by cases hs⟩
    | cons a l ih =>
      obtain ⟨D, hD⟩ := ih
      refine ⟨max D ((a.2.1 - a.1.1).natAbs + 1), fun s hs => ?_⟩
      rcases List.mem_cons.1 hs with e | e
      · subst e; omega
      · have := hD s e; omega
  have hc : ∀ s ∈ ps, (s.2.1 - s.1.1) - (s.2.2 - s.1.2) * D ≠ 0 := fun s hs e => by
    have h1 := hD s hs
    have h2 := hne s hs
    by_cases h0 : s.2.2 - s.1.2 = 0
    · rw [h0] at e
      simp only [Int.zero_mul] at e
      exact h2 (Prod.ext (by omega) (by omega))
    · rcases Int.lt_or_lt_of_ne h0 with c | c
      · have : (s.2.2 - s.1.2) * D ≤ (-1) * D := Int.mul_le_mul_of_nonneg_right (by omega) (by omega)
        omega
      · have : 1 * D ≤ (s.2.2 - s.1.2) * D := Int.mul_le_mul_of_nonneg_right (by omega) (by omega)
        omega
  -- one k that is large enough
  have key : ∃ k0 : Int, ∀ k, k0 ≤ k → 0 < k → ∀ s ∈ ps, cr (aside k D x) (sc k s.1) (sc k s.2) = cr x s.1 s.2 ∧ (0 ≤ turn s.1 s.2 x → turn s.1 s.2 x ≠ 0 → 0 < turn (sc k s.1) (sc k s.2) (aside k D x)) ∧ (turn s.1 s.2 x < 0 → turn (sc k s.1) (sc k s.2) (aside k D x) < 0) := by
    induction ps with
    | nil => exact ⟨0, fun k _ _ s hs => by cases hs⟩
    | cons a l ih =>
      obtain ⟨k1, hk1⟩ := ih (fun s hs => hne s (List.mem_cons_of_mem _ hs)) (fun s hs => hD s (List.mem_cons_of_mem _ hs)) (fun s hs => hc s (List.mem_cons_of_mem _ hs))
      obtain ⟨k2, hk2⟩ := cr_near a.1 a.2 x (hne a (by simp)) D (hD a (by simp))
      obtain ⟨C, hC⟩ : ∃ C, (a.2.1 - a.1.1) - (a.2.2 - a.1.2) * D = C := ⟨_, rfl⟩
      refine ⟨max (max k1 k2) (C.natAbs + 2), fun k hk h0 s hs => ?_⟩
      rcases List.mem_cons.1 hs with e | e
      · subst e
        refine ⟨(hk2 k (by omega) h0).1, fun h1 h2 => ?_, fun h1 => ?_⟩
        · rw [turn_aside, hC]
          have : k * 1 ≤ k * turn s.1 s.2 x := Int.mul_le_mul_of_nonneg_left (by omega) (by omega)
          exact mpp h0 (by omega)
        · rw [turn_aside, hC]
          have : k * turn s.1 s.2 x ≤ k * (-1) := Int.mul_le_mul_of_nonneg_left (by omega) (by omega)
          exact mpn h0 (by omega)
      · exact hk1 k (by omega) h0 s e
  obtain ⟨k0, hk0⟩ := key
  refine ⟨max k0 1, D, by omega, fun s hs => ?_⟩
  obtain ⟨h1, h2, h3⟩ := hk0 (max k0 1) (by omega) (by omega) s hs
  refine ⟨h1, ?_, h2⟩
  rcases Int.lt_trichotomy (turn s.1 s.2 x) 0 with c | c | c
  · have := h3 c; omega
  · rw [turn_aside, c]
    have := hc s hs
    intro e
    rcases Int.mul_eq_zero.1 e with q | q
    · omega
    · simp at q; omega
  · have := h2 (by omega) (by omega); omega
/-- The sides of a plot. -/
def sidesL (p : Nat → Int × Int) (n : Nat) : List ((Int × Int) × (Int × Int)) := (List.range n).map fun i => (p i, p (i + 1))
theorem mem_sides {p : Nat → Int × Int} {n i : Nat} (h : i < n) : (p i, p (i + 1)) ∈ sidesL p n := List.mem_map.2 ⟨i, List.mem_range.2 h, rfl⟩
theorem wsum_aside {p : Nat → Int × Int} {n : Nat} {k D : Int} {x : Int × Int} (h : ∀ s ∈ sidesL p n, cr (aside k D x) (sc k s.1) (sc k s.2) = cr x s.1 s.2) : wsum (fun i => sc k (p i)) n (aside k D x) = wsum p n x :=
  sumN_congr fun _ hi => h _ (mem_sides hi)
/-- Corners of p, all among the points of the convex plot q: a point that q does not go round, p does not go round. -/
theorem HullQ.covers {S : Int × Int → Prop} {q : Nat → Int × Int} {m : Nat} (h : HullQ S q m) {p : Nat → Int × Int} {n : Nat} (hper : p n = p 0) (hne : ∀ i, i < n → p i ≠ p (i + 1)) (hS : ∀ i, S (p i)) (x : Int × Int) : wsum p n x = 0 ∨ wsum q m x = 1 := by
  have h3 := h.three
  obtain ⟨k, D, hk, ha⟩ := aside_ok (sidesL q m ++ sidesL p n) (fun s hs => by
    rcases List.mem_append.1 hs with e | e
    · obtain ⟨i, hi, rfl⟩ := List.mem_map.1 e
      exact h.ne i
    · obtain ⟨i, hi, rfl⟩ := List.mem_map.1 e
      exact hne i (List.mem_range.1 hi)) x
  have e1 : wsum (fun i => sc k (q i)) m (aside k D x) = wsum q m x := wsum_aside fun s hs => (ha s (List.mem_append_left _ hs)).1
  have e2 : wsum (fun i => sc k (p i)) n (aside k D x) = wsum p n x := wsum_aside fun s hs => (ha s (List.mem_append_right _ hs)).1
  by_cases hall : ∀ j, j < m → 0 < turn (sc k (q j)) (sc k (q (j + 1))) (aside k D x)
  · right
    have h1 := inside_pos (p := fun i => sc k (q i)) (n := m) (y := aside k D x) (by omega) (fun i => by show sc k (q (i + m)) = sc k (q i); rw [h.per]) hall
    rw [e1] at h1
    have h2 := h.simple.around_any x
    rw [h.lam] at h2
    omega
  · left
    obtain ⟨j, hj⟩ := Classical.not_forall.1 hall
    obtain ⟨hj, hj2⟩ := Classical.not_imp.1 hj
    have hn := (ha _ (List.mem_append_left _ (mem_sides hj))).2.1
    have hlt : turn (sc k (q j)) (sc k (q (j + 1))) (aside k D x) < 0 := by
      have : turn (sc k (q j)) (sc k (q (j + 1))) (aside k D x) ≠ 0 := hn
      omega
    rw [← e2]
    obtain ⟨a, hae⟩ : ∃ a, sc k (q j) = a := ⟨_, rfl⟩
    obtain ⟨b, hbe⟩ : ∃ b, sc k (q (j + 1)) = b := ⟨_, rfl⟩
    have lin : ∀ y : Int × Int, turn a b y = -(b.2 - a.2) * y.1 + (b.1 - a.1) * y.2 + ((b.2 - a.2) * a.1 - (b.1 - a.1) * a.2) := fun y => by unfold turn; grind
    refine wsum_sep (p := fun i => sc k (p i)) (u := -(b.2 - a.2)) (v := b.1 - a.1) (g := (b.2 - a.2) * a.1 - (b.1 - a.1) * a.2) (by show sc k (p n) = sc k (p 0); rw [hper]) ?_ (fun i _ => ?_)
    · rw [← lin, ← hae, ← hbe]; exact hlt
    · show 0 ≤ -(b.2 - a.2) * (sc k (p i)).1 + (b.1 - a.1) * (sc k (p i)).2 + ((b.2 - a.2) * a.1 - (b.1 - a.1) * a.2)
      rw [← lin, ← hae, ← hbe, turn_sc]
      have := (h.way j (p i) (hS i)).1
      exact mpp0 (mpp0 (by omega) (by omega)) this
end Go.Proofs.Ythiemglckmociaa
/- A plot and the convex plot around it, in plain: its area is no larger; it is as large just if all corners lie left of each side. No conditions. -/
namespace Go.Proofs.Ythiemglckmociaa
theorem neg_two (a : Int × Int) : neg (neg a) = a := by unfold neg; simp
theorem left_neg {a b y : Int × Int} (h : left a b (neg y)) : left (neg a) (neg b) y := by
  have e1 : turn (neg a) (neg b) y = turn a b (neg y) := by rw [← turn_neg a b (neg y), neg_two]
  have e2 : onB (neg a) (neg b) y = onB a b (neg y) := by rw [← onB_neg a b (neg y), neg_two]
  unfold left
  rw [e1, e2]
  exact h
theorem HullQ.neg {S : Int × Int → Prop} {q : Nat → Int × Int} {m : Nat} (h : HullQ S q m) : HullQ (fun y => S (Go.Proofs.Ythiemglckmociaa.neg y)) (fun i => Go.Proofs.Ythiemglckmociaa.neg (q i)) m :=
  ⟨h.three, fun i => by rw [h.per], fun i j hi hj e => h.inj i j hi hj (neg_inj e), fun i => by show S (Go.Proofs.Ythiemglckmociaa.neg (Go.Proofs.Ythiemglckmociaa.neg (q i))); rw [neg_two]; exact h.mem i, fun i e => h.ne i (neg_inj e), fun i y hy => left_neg (h.way i _ hy)⟩
theorem left_sc {k : Int} (hk : 0 < k) {a b y : Int × Int} (h : left a b y) : left (sc k a) (sc k b) (sc k y) := by
  unfold left
  rw [turn_sc, onB_sc hk]
  refine ⟨mpp0 (mpp0 (by omega) (by omega)) h.1, fun e => h.2 ?_⟩
  rcases Int.mul_eq_zero.1 e with q | q
  · have := mpp hk hk; omega
  · exact q
theorem HullQ.scale {S : Int × Int → Prop} {q : Nat → Int × Int} {m : Nat} (h : HullQ S q m) {k : Int} (hk : 0 < k) : HullQ (fun y => ∃ z, S z ∧ y = sc k z) (fun i => sc k (q i)) m :=
  ⟨h.three, fun i => by rw [h.per], fun i j hi hj e => h.inj i j hi hj (sc_inj hk e), fun i => ⟨q i, h.mem i, rfl⟩, fun i e => h.ne i (sc_inj hk e), fun i y hy => by obtain ⟨z, hz, rfl⟩ := hy; exact left_sc hk (h.way i z hz)⟩
theorem lam_one {p : Nat → Int × Int} {n : Nat} (hp : Simple p n) (hl : lam p n 0 = 1) (x : Int × Int) : wsum p n x = 1 ∨ wsum p n x = 0 := by
  have := hp.around_any x
  rw [hl] at this
  omega
/-- What p goes round, q goes round, both ways. -/
theorem HullQ.over {S : Int × Int → Prop} {q : Nat → Int × Int} {m : Nat} (h : HullQ S q m) {p : Nat → Int × Int} {n : Nat} (hp : Simple p n) (hl : Go.Proofs.Ythiemglckmociaa.lam p n 0 = 1) (hS : ∀ i, S (p i)) (x : Int × Int) :
    wsum p n x ≤ wsum q m x ∧ wsum (fun i => Go.Proofs.Ythiemglckmociaa.neg (p i)) n (Go.Proofs.Ythiemglckmociaa.neg x) ≤ wsum (fun i => Go.Proofs.Ythiemglckmociaa.neg (q i)) m (Go.Proofs.Ythiemglckmociaa.neg x) := by
  have h1 := h.covers hp.per1 (fun i _ => hp.ne_next i) hS x
  have h2 := h.neg.covers (p := fun i => Go.Proofs.Ythiemglckmociaa.neg (p i)) (n := n) (by show Go.Proofs.Ythiemglckmociaa.neg (p n) = Go.Proofs.Ythiemglckmociaa.neg (p 0); rw [hp.per1]) (fun i _ e => hp.ne_next i (neg_inj e)) (fun i => by show S (Go.Proofs.Ythiemglckmociaa.neg (Go.Proofs.Ythiemglckmociaa.neg (p i))); rw [neg_two]; exact hS i) (Go.Proofs.Ythiemglckmociaa.neg x)
  have p1 := lam_one hp hl x
  have p2 := lam_one hp.neg (by rw [hp.lam_neg]; exact hl) (Go.Proofs.Ythiemglckmociaa.neg x)
  have q1 := lam_one h.simple h.lam x
  have q2 := lam_one h.neg.simple h.neg.lam (Go.Proofs.Ythiemglckmociaa.neg x)
  omega
theorem sumB_nonneg {B : Nat} {f : Int → Int} (h : ∀ x : Int, -B ≤ x → x ≤ B → 0 ≤ f x) : 0 ≤ sumB B f := sumN_nonneg fun i hi => h _ (by omega) (by omega)
theorem sum2_nonneg {B : Nat} {f : Int × Int → Int} (h : ∀ x, 0 ≤ f x) : 0 ≤ sum2 B f := sumB_nonneg fun _ _ _ => sumB_nonneg fun _ _ _ => h _
theorem sumB_one {B : Nat} {f : Int → Int} (h : ∀ x : Int, 0 ≤ f x) {x : Int} (h1 : -B ≤ x) (h2 : x ≤ B) : f x ≤ sumB B f := by
  have := sumN_ge (f := fun i : Nat => f ((i : Int) - B)) (i := (x + B).toNat) (n := 2 * B + 1) (by omega) (fun j _ => h _)
  rw [show (((x + B).toNat : Nat) : Int) - B = x by omega] at this
  exact this
theorem sum2_one {B : Nat} {f : Int × Int → Int} (h : ∀ x, 0 ≤ f x) {x : Int × Int} (h1 : (-B ≤ x.1 ∧ x.1 ≤ B) ∧ -B ≤ x.2 ∧ x.2 ≤ B) : f x ≤ sum2 B f := by
  have a1 := sumB_one (B := B) (f := fun u => f (u, x.2)) (fun u => h _) h1.1.1 h1.1.2
  have a2 := sumB_one (B := B) (f := fun v => sumB B fun u => f (u, v)) (fun v => sumB_nonneg fun _ _ _ => h _) h1.2.1 h1.2.2
  exact Int.le_trans a1 a2
/-- A box that holds both. -/
theorem both_bounded {p q : Nat → Int × Int} {n m : Nat} (hp : Simple p n) (hq : Simple q m) : ∃ B : Nat, (∀ i, (-B ≤ (p i).1 ∧ (p i).1 ≤ B) ∧ -B ≤ (p i).2 ∧ (p i).2 ≤ B) ∧ ∀ i, (-B ≤ (q i).1 ∧ (q i).1 ≤ B) ∧ -B ≤ (q i).2 ∧ (q i).2 ≤ B := by
  obtain ⟨B, hB⟩ := hp.bounded
  obtain ⟨C, hC⟩ := hq.bounded
  refine ⟨max B C, fun i => ?_, fun i => ?_⟩
  · have := hB i; omega
  · have := hC i; omega
theorem area_gap {p q : Nat → Int × Int} {n m : Nat} (hp : Simple p n) (hq : Simple q m) {B : Nat} (h1 : ∀ i, (-B ≤ (p i).1 ∧ (p i).1 ≤ B) ∧ -B ≤ (p i).2 ∧ (p i).2 ≤ B) (h2 : ∀ i, (-B ≤ (q i).1 ∧ (q i).1 ≤ B) ∧ -B ≤ (q i).2 ∧ (q i).2 ≤ B) :
    sum2 B (fun x => cc q m x + (-1) * cc p n x) = area q m - area p n := by
  rw [sum2_add, sum2_mul, ← area_points hp.per1 h1, ← area_points hq.per1 h2]
  unfold cc
  omega
theorem HullQ.area_le {S : Int × Int → Prop} {q : Nat → Int × Int} {m : Nat} (h : HullQ S q m) {p : Nat → Int × Int} {n : Nat} (hp : Simple p n) (hl : Go.Proofs.Ythiemglckmociaa.lam p n 0 = 1) (hS : ∀ i, S (p i)) : Go.Proofs.Ythiemglckmociaa.area p n ≤ Go.Proofs.Ythiemglckmociaa.area q m := by
  obtain ⟨B, h1, h2⟩ := both_bounded hp h.simple
  have e := area_gap hp h.simple h1 h2
  have : 0 ≤ sum2 B (fun x => cc q m x + (-1) * cc p n x) := sum2_nonneg fun x => by
    have := h.over hp hl hS x
    unfold cc
    omega
  omega
/-- As large: each point counts alike. -/
theorem HullQ.same {S : Int × Int → Prop} {q : Nat → Int × Int} {m : Nat} (h : HullQ S q m) {p : Nat → Int × Int} {n : Nat} (hp : Simple p n) (hl : Go.Proofs.Ythiemglckmociaa.lam p n 0 = 1) (hS : ∀ i, S (p i)) (ha : Go.Proofs.Ythiemglckmociaa.area p n = Go.Proofs.Ythiemglckmociaa.area q m) {x : Int × Int} {B : Nat}
    (h1 : ∀ i, (-B ≤ (p i).1 ∧ (p i).1 ≤ B) ∧ -B ≤ (p i).2 ∧ (p i).2 ≤ B) (h2 : ∀ i, (-B ≤ (q i).1 ∧ (q i).1 ≤ B) ∧ -B ≤ (q i).2 ∧ (q i).2 ≤ B) (hx : (-B ≤ x.1 ∧ x.1 ≤ B) ∧ -B ≤ x.2 ∧ x.2 ≤ B) : wsum p n x = wsum q m x := by
  have e := area_gap hp h.simple h1 h2
  have hn : ∀ x, 0 ≤ cc q m x + (-1) * cc p n x := fun x => by
    have := h.over hp hl hS x
    unfold cc
    omega
  have := sum2_one hn hx
  have h3 := h.over hp hl hS x
  unfold cc at this e
  omega
theorem same_core {u1 u2 v1 v2 : Int} (n1 : ¬ (u1 = 0 ∧ u2 = 0)) (n2 : ¬ (v1 = 0 ∧ v2 = 0)) (hz : u1 * v2 = u2 * v1) (hup : (0 < u2 ∨ (u2 = 0 ∧ u1 < 0)) ↔ (0 < v2 ∨ (v2 = 0 ∧ v1 < 0))) : 0 < u1 * v1 + u2 * v2 := by
  have key : ∀ {u1 u2 v1 v2 : Int}, u1 * v2 = u2 * v1 → 0 < u2 → 0 < v2 → 0 < u1 * v1 + u2 * v2 := by
    intro u1 u2 v1 v2 hz h1 h2
    have e : (u1 * v1) * (u2 * v2) = (u1 * v2) * (u1 * v2) := by rw [show (u1 * v1) * (u2 * v2) = (u1 * v2) * (u2 * v1) by grind, ← hz]
    have h3 := sq0 (u1 * v2)
    have h4 := mpp h1 h2
    have h5 : 0 ≤ u1 * v1 := by
      rcases Int.lt_or_le (u1 * v1) 0 with c | c
      · have := mnp c h4; omega
      · exact c
    omega
  rcases Int.lt_trichotomy u2 0 with c | c | c
  · rcases Int.lt_trichotomy v2 0 with d | d | d
    · have := key (u1 := -u1) (u2 := -u2) (v1 := -v1) (v2 := -v2) (by simp only [Int.neg_mul_neg]; exact hz) (by omega) (by omega)
      simp only [Int.neg_mul_neg] at this
      exact this
    · subst d
      have : u2 * v1 = 0 := by rw [← hz]; simp
      have : v1 = 0 := by rcases Int.mul_eq_zero.1 this with q | q <;> omega
      omega
    · omega
  · subst c
    have : u1 * v2 = 0 := by rw [hz]; simp
    have : v2 = 0 := by rcases Int.mul_eq_zero.1 this with q | q <;> omega
    subst this
    simp only [Int.mul_zero, Int.add_zero]
    rcases Int.lt_trichotomy u1 0 with q | q | q
    · exact mnn q (by omega)
    · omega
    · exact mpp q (by omega)
  · rcases Int.lt_trichotomy v2 0 with d | d | d
    · omega
    · subst d
      have : u2 * v1 = 0 := by rw [← hz]; simp
      have : v1 = 0 := by rcases Int.mul_eq_zero.1 this with q | q <;> omega
      omega
    · exact key hz c d
/-- Two ways on one line that both go up, or both not, lead the same way. -/
theorem same_up {a b c d : Int × Int} (hab : a ≠ b) (hcd : c ≠ d) (hz : (b.1 - a.1) * (d.2 - c.2) - (b.2 - a.2) * (d.1 - c.1) = 0) (hu : up a b = up c d) : 0 < (b.1 - a.1) * (d.1 - c.1) + (b.2 - a.2) * (d.2 - c.2) := by
  refine same_core (fun h => hab (Prod.ext (by omega) (by omega))) (fun h => hcd (Prod.ext (by omega) (by omega))) (by omega) ?_
  unfold up at hu
  by_cases c1 : a.2 < b.2 ∨ (a.2 = b.2 ∧ b.1 < a.1)
  · rw [if_pos c1] at hu
    by_cases c2 : c.2 < d.2 ∨ (c.2 = d.2 ∧ d.1 < c.1)
    · constructor <;> intro <;> omega
    · rw [if_neg c2] at hu; omega
  · rw [if_neg c1] at hu
    by_cases c2 : c.2 < d.2 ∨ (c.2 = d.2 ∧ d.1 < c.1)
    · rw [if_pos c2] at hu; omega
    · constructor <;> intro <;> omega
/-- As large as the convex plot: all points lie left of each side. -/
theorem HullQ.tight {S : Int × Int → Prop} {q : Nat → Int × Int} {m : Nat} (h : HullQ S q m) {p : Nat → Int × Int} {n : Nat} (hp : Simple p n) (hl : Go.Proofs.Ythiemglckmociaa.lam p n 0 = 1) (hS : ∀ i, S (p i)) (ha : Go.Proofs.Ythiemglckmociaa.area p n = Go.Proofs.Ythiemglckmociaa.area q m) (i : Nat) :
    ∀ y, S y → 0 ≤ turn (p i) (p (i + 1)) y := by
  intro y hy
  have h3 := h.three
  have hp2 := hp.scale (show (0 : Int) < 2 by decide)
  have hq2 := h.scale (show (0 : Int) < 2 by decide)
  have hl2 : Go.Proofs.Ythiemglckmociaa.lam (fun i => sc 2 (p i)) n 0 = 1 := by rw [lam_scale hp (by decide)]; exact hl
  obtain ⟨x, hx⟩ : ∃ x, near 2 (p (i + 1)) (p i) = x := ⟨_, rfl⟩
  have hmi := mid_inn (hp.ne_next i)
  rw [hx] at hmi
  have hx1 : x = (((p i).1 + (p (i + 1)).1, (p i).2 + (p (i + 1)).2) : Int × Int) := by rw [← hx, ← mid2_near]; rfl
  obtain ⟨B, b1, b2⟩ := both_bounded hp2 hq2.simple
  have hxB : (-B ≤ x.1 ∧ x.1 ≤ B) ∧ -B ≤ x.2 ∧ x.2 ≤ B := by
    have a1 := b1 i
    have a2 := b1 (i + 1)
    unfold sc at a1 a2
    simp only at a1 a2
    rw [hx1]
    simp only
    omega
  have hsame := hq2.same hp2 hl2 (fun j => ⟨p j, hS j, rfl⟩) (by rw [area_sc, area_sc, ha]) b1 b2 hxB
  have e1 := hp.lam_eq i (show (0 : Int) < 2 by decide) hmi
  rw [hp.lam_all i, hl] at e1
  -- x is not strictly inside the convex plot
  have htx : ∀ j, turn (sc 2 (q j)) (sc 2 (q (j + 1))) x = 2 * (turn (q j) (q (j + 1)) (p i) + turn (q j) (q (j + 1)) (p (i + 1))) := fun j => by
    rw [hx1]; unfold turn sc; grind
  have hex : ∃ j, j < m ∧ turn (sc 2 (q j)) (sc 2 (q (j + 1))) x ≤ 0 := by
    apply Classical.byContradiction
    intro hno
    have hall : ∀ j, j < m → 0 < turn (sc 2 (q j)) (sc 2 (q (j + 1))) x := fun j hj => by
      rcases Int.lt_or_le 0 (turn (sc 2 (q j)) (sc 2 (q (j + 1))) x) with c | c
      · exact c
      · exact absurd ⟨j, hj, c⟩ hno
    have g1 := inside_pos (p := fun j => sc 2 (q j)) (n := m) (y := x) (by omega) (fun j => by show sc 2 (q (j + m)) = sc 2 (q j); rw [h.per]) hall
    have g2 := inside_pos (p := fun j => Go.Proofs.Ythiemglckmociaa.neg (sc 2 (q j))) (n := m) (y := Go.Proofs.Ythiemglckmociaa.neg x) (by omega) (fun j => by show Go.Proofs.Ythiemglckmociaa.neg (sc 2 (q (j + m))) = Go.Proofs.Ythiemglckmociaa.neg (sc 2 (q j)); rw [h.per]) (fun j hj => by
      show 0 < turn (Go.Proofs.Ythiemglckmociaa.neg _) (Go.Proofs.Ythiemglckmociaa.neg _) (Go.Proofs.Ythiemglckmociaa.neg _)
      rw [turn_neg]; exact hall j hj)
    -- on a side of p both ways together count one
    have i3 : i % n < n := Nat.mod_lt _ (by have := hp.three; omega)
    have hmi' : inn ((fun i => sc 2 (p i)) (i % n)) ((fun i => sc 2 (p i)) (i % n + 1)) x := by
      have e2 : p (i % n) = p i := hp.mod i
      have e3 : p (i % n + 1) = p (i + 1) := by rw [← hp.mod (i % n + 1), ← hp.mod (i + 1), Nat.mod_add_mod]
      show inn (sc 2 (p (i % n))) (sc 2 (p (i % n + 1))) x
      rw [e2, e3]; exact hmi
    have g3 := hp2.cc_side i3 hmi'
    rw [hl2] at g3
    have g4 := hq2.over hp2 hl2 (fun j => ⟨p j, hS j, rfl⟩) x
    have g5 : cc (fun j => sc 2 (q j)) m x ≤ cc (fun j => sc 2 (p j)) n x := by
      have e := area_gap hp2 hq2.simple b1 b2
      rw [area_sc, area_sc, ha] at e
      have hn : ∀ x, 0 ≤ cc (fun j => sc 2 (q j)) m x + (-1) * cc (fun j => sc 2 (p j)) n x := fun x => by
        have := hq2.over hp2 hl2 (fun j => ⟨p j, hS j, rfl⟩) x
        unfold cc
        dsimp only at this ⊢
        omega
      have := sum2_one hn hxB
      omega
    unfold cc at g3 g5
    dsimp only at g1 g2 g3 g4 g5
    omega
  obtain ⟨j, hj, hle⟩ := hex
  rw [htx] at hle
  have w1 := h.way j _ (hS i)
  have w2 := h.way j _ (hS (i + 1))
  have z1 : turn (q j) (q (j + 1)) (p i) = 0 := by have := w1.1; have := w2.1; omega
  have z2 : turn (q j) (q (j + 1)) (p (i + 1)) = 0 := by have := w1.1; have := w2.1; omega
  have o1 := w1.2 z1
  have o2 := w2.2 z2
  have hne := hp.ne_next i
  -- x lies inside side j
  have hin : inn (sc 2 (q j)) (sc 2 (q (j + 1))) x := by
    obtain ⟨t1, d1⟩ := onB_turn o1
    obtain ⟨t2, d2⟩ := onB_turn o2
    obtain ⟨x1, x2⟩ := (on_iff t1).1 d1
    obtain ⟨y1, y2⟩ := (on_iff t2).1 d2
    have hzx : turn (sc 2 (q j)) (sc 2 (q (j + 1))) x = 0 := by rw [htx, z1, z2]; rfl
    refine ⟨onB_mk hzx ((on_iff hzx).2 ?_), fun e => ?_, fun e => ?_⟩
    · rw [hx1]; unfold sc; simp only; omega
    · rw [hx1] at e
      unfold sc at e
      rw [Prod.mk.injEq] at e
      exact hne (Prod.ext (by omega) (by omega))
    · rw [hx1] at e
      unfold sc at e
      rw [Prod.mk.injEq] at e
      exact hne (Prod.ext (by omega) (by omega))
  have e2 := h.simple.lam_eq j (show (0 : Int) < 2 by decide) hin
  rw [h.simple.lam_all j, h.lam] at e2
  have hup : up (p i) (p (i + 1)) = up (q j) (q (j + 1)) := by omega
  have hz : ((p (i + 1)).1 - (p i).1) * ((q (j + 1)).2 - (q j).2) - ((p (i + 1)).2 - (p i).2) * ((q (j + 1)).1 - (q j).1) = 0 := by
    have : ((p (i + 1)).1 - (p i).1) * ((q (j + 1)).2 - (q j).2) - ((p (i + 1)).2 - (p i).2) * ((q (j + 1)).1 - (q j).1) = turn (q j) (q (j + 1)) (p i) - turn (q j) (q (j + 1)) (p (i + 1)) := by unfold turn; grind
    rw [this, z1, z2]; rfl
  have hd := same_up hne (h.ne j) hz hup
  have hw := (h.way j y hy).1
  have hn := norm_pos (h.ne j)
  have e3 : turn (p i) (p (i + 1)) y * (((q (j + 1)).1 - (q j).1) * ((q (j + 1)).1 - (q j).1) + ((q (j + 1)).2 - (q j).2) * ((q (j + 1)).2 - (q j).2)) =
      (((p (i + 1)).1 - (p i).1) * ((q (j + 1)).1 - (q j).1) + ((p (i + 1)).2 - (p i).2) * ((q (j + 1)).2 - (q j).2)) * (turn (q j) (q (j + 1)) y - turn (q j) (q (j + 1)) (p i)) +
      (((p (i + 1)).1 - (p i).1) * ((q (j + 1)).2 - (q j).2) - ((p (i + 1)).2 - (p i).2) * ((q (j + 1)).1 - (q j).1)) * (((q (j + 1)).1 - (q j).1) * (y.1 - (p i).1) + ((q (j + 1)).2 - (q j).2) * (y.2 - (p i).2)) := by unfold turn; grind
  rw [z1, hz, Int.zero_mul, Int.add_zero, Int.sub_zero] at e3
  have := mpp0 (Int.le_of_lt hd) hw
  rcases Int.lt_or_le (turn (p i) (p (i + 1)) y) 0 with c | c
  · have := mnp c hn; omega
  · exact c
/-- All points lie left of each side: as large. -/
theorem HullQ.full {S : Int × Int → Prop} {q : Nat → Int × Int} {m : Nat} (h : HullQ S q m) {p : Nat → Int × Int} {n : Nat} (hp : Simple p n) (hl : Go.Proofs.Ythiemglckmociaa.lam p n 0 = 1) (hS : ∀ i, S (p i)) (hg : ∀ i y, S y → 0 ≤ turn (p i) (p (i + 1)) y) : Go.Proofs.Ythiemglckmociaa.area p n = Go.Proofs.Ythiemglckmociaa.area q m := by
  have hn3 := hp.three
  -- what q goes round, p goes round
  have key : ∀ {S : Int × Int → Prop} {q : Nat → Int × Int} {m : Nat} (_ : HullQ S q m) {p : Nat → Int × Int} {n : Nat} (_ : Simple p n) (_ : Go.Proofs.Ythiemglckmociaa.lam p n 0 = 1) (_ : ∀ i y, S y → 0 ≤ turn (p i) (p (i + 1)) y) (x : Int × Int), wsum q m x ≤ wsum p n x := by
    intro S q m h p n hp hl hg x
    have hn3 := hp.three
    have h3 := h.three
    rcases lam_one h.simple h.lam x with hq | hq
    · obtain ⟨k, D, hk, ha⟩ := aside_ok (sidesL q m ++ sidesL p n) (fun s hs => by
        rcases List.mem_append.1 hs with e | e
        · obtain ⟨i, hi, rfl⟩ := List.mem_map.1 e
          exact h.ne i
        · obtain ⟨i, hi, rfl⟩ := List.mem_map.1 e
          exact hp.ne_next i) x
      have e1 : wsum (fun i => sc k (q i)) m (aside k D x) = wsum q m x := wsum_aside fun s hs => (ha s (List.mem_append_left _ hs)).1
      have e2 : wsum (fun i => sc k (p i)) n (aside k D x) = wsum p n x := wsum_aside fun s hs => (ha s (List.mem_append_right _ hs)).1
      have hall : ∀ i, i < n → 0 < turn (sc k (p i)) (sc k (p (i + 1))) (aside k D x) := fun i hi => by
        have hn := (ha _ (List.mem_append_right _ (mem_sides hi))).2.1
        rcases Int.lt_or_le 0 (turn (sc k (p i)) (sc k (p (i + 1))) (aside k D x)) with c | c
        · exact c
        · exfalso
          have hlt : turn (sc k (p i)) (sc k (p (i + 1))) (aside k D x) < 0 := by
            have : turn (sc k (p i)) (sc k (p (i + 1))) (aside k D x) ≠ 0 := hn
            omega
          obtain ⟨a, hae⟩ : ∃ a, sc k (p i) = a := ⟨_, rfl⟩
          obtain ⟨b, hbe⟩ : ∃ b, sc k (p (i + 1)) = b := ⟨_, rfl⟩
          have lin : ∀ y : Int × Int, turn a b y = -(b.2 - a.2) * y.1 + (b.1 - a.1) * y.2 + ((b.2 - a.2) * a.1 - (b.1 - a.1) * a.2) := fun y => by unfold turn; grind
          have z := wsum_sep (p := fun i => sc k (q i)) (n := m) (x := aside k D x) (u := -(b.2 - a.2)) (v := b.1 - a.1) (g := (b.2 - a.2) * a.1 - (b.1 - a.1) * a.2) (by show sc k (q m) = sc k (q 0); rw [h.per0]) (by rw [← lin, ← hae, ← hbe]; exact hlt) (fun j _ => by
            show 0 ≤ -(b.2 - a.2) * (sc k (q j)).1 + (b.1 - a.1) * (sc k (q j)).2 + ((b.2 - a.2) * a.1 - (b.1 - a.1) * a.2)
            rw [← lin, ← hae, ← hbe, turn_sc]
            exact mpp0 (mpp0 (by omega) (by omega)) (hg i _ (h.mem j)))
          rw [e1, hq] at z
          omega
      have := inside_pos (p := fun i => sc k (p i)) (n := n) (y := aside k D x) (by omega) (fun i => by show sc k (p (i + n)) = sc k (p i); rw [hp.per]) hall
      rw [e2] at this
      omega
    · rcases lam_one hp hl x with c | c <;> omega
  have hle := h.area_le hp hl hS
  obtain ⟨B, h1, h2⟩ := both_bounded h.simple hp
  have e := area_gap h.simple hp h1 h2
  have : 0 ≤ sum2 B (fun x => cc p n x + (-1) * cc q m x) := sum2_nonneg fun x => by
    have a1 := key h hp hl hg x
    have a2 := key h.neg hp.neg (by rw [hp.lam_neg]; exact hl) (fun i y hy => by
      have := hg i _ hy
      have e1 : turn (Go.Proofs.Ythiemglckmociaa.neg (p i)) (Go.Proofs.Ythiemglckmociaa.neg (p (i + 1))) y = turn (p i) (p (i + 1)) (Go.Proofs.Ythiemglckmociaa.neg y) := by rw [← turn_neg (p i) (p (i + 1)) (Go.Proofs.Ythiemglckmociaa.neg y), neg_two]
      rw [e1]; exact this) (Go.Proofs.Ythiemglckmociaa.neg x)
    unfold cc
    omega
  omega
end Go.Proofs.Ythiemglckmociaa
/- A plot whose corners all turn left, in plain: all its corners lie left of each side. No conditions. -/
namespace Go.Proofs.Ythiemglckmociaa
/-- How a plot counts its own corner: the next one is above it. -/
theorem Simple.corner_up {p : Nat → Int × Int} {n : Nat} (h : Simple p n) (hu : up (p 1) (p 2) = 1) (ht : 0 ≤ turn (p 0) (p 1) (p 2)) : wsum p n (p 1) = lam p n 0 - 1 := by
  have h3 := h.three
  have e12 : p 1 ≠ p 2 := h.ne_next 1
  have lw : (p 1).2 < (p 2).2 ∨ ((p 1).2 = (p 2).2 ∧ (p 2).1 < (p 1).1) := by
    unfold up at hu
    split at hu
    · rename_i c; exact c
    · cases hu
  obtain ⟨k1, hk1⟩ := bound_all (P := fun j k => 1 < j → apart (k * (p 1).1 + 0, k * (p 1).2 + 0) (near k (p 1) (p 2)) (sc k (p j)) (sc k (p (j + 1)))) n (fun j hj => by
    by_cases c : 1 < j
    · obtain ⟨k0, hk0⟩ := near_apart (h.corner_off c hj) (0, 0) ((p 2).1 - (p 1).1, (p 2).2 - (p 1).2)
      exact ⟨k0, fun k a b _ => hk0 k a b⟩
    · exact ⟨0, fun k _ _ c' => absurd c' c⟩)
  obtain ⟨k, hkd⟩ : ∃ k : Int, k = max k1 (((p 2).2 - (p 1).2).natAbs + ((p 0).2 - (p 1).2).natAbs + 2) := ⟨_, rfl⟩
  have hk0 : 1 < k := by omega
  have hx : ((k * (p 1).1 + 0, k * (p 1).2 + 0) : Int × Int) = sc k (p 1) := by unfold sc; simp
  have hap := hk1 k (by omega) (by omega)
  rw [hx] at hap
  have hle : (sc k (p 1)).2 ≤ (near k (p 1) (p 2)).2 := by unfold sc near; simp only; omega
  have g := wsum_but2 (p := fun i => sc k (p i)) (n := n) (by omega) (by show sc k (p n) = sc k (p 0); rw [h.per1]) hle (fun j h1 hj => hap j hj h1)
  have z1 : cr (sc k (p 1)) (sc k (p 0)) (sc k (p 1)) = 0 := cr_on (by unfold turn; grind)
  have z2 : cr (sc k (p 1)) (sc k (p 1)) (sc k (p 2)) = 0 := cr_on (by unfold turn; grind)
  have z3 : cr (near k (p 1) (p 2)) (sc k (p 1)) (sc k (p 2)) = 0 := cr_on (by unfold turn near sc; grind)
  have z4 : reg (sc k (p 1)) (near k (p 1) (p 2)) (sc k (p 1)) = 0 := by unfold reg; rw [if_neg (by omega)]
  have tk : turn (sc k (p 1)) (near k (p 1) (p 2)) (sc k (p 2)) = 0 := by unfold turn near sc; grind
  have z5 : reg (sc k (p 1)) (near k (p 1) (p 2)) (sc k (p 2)) = 0 := by unfold reg; rw [tk, if_neg (by omega)]
  have hup : (p 1).2 < (p 0).2 → (near k (p 1) (p 2)).2 < (sc k (p 0)).2 := fun c => by
    unfold near sc
    simp only
    have := Int.mul_le_mul_of_nonneg_left (show 1 ≤ (p 0).2 - (p 1).2 by omega) (show 0 ≤ k by omega)
    rw [Int.mul_sub] at this
    omega
  have hlo : (p 0).2 ≤ (p 1).2 → (sc k (p 0)).2 ≤ (sc k (p 1)).2 := fun c => Int.mul_le_mul_of_nonneg_left c (by omega)
  have z6 : reg (sc k (p 1)) (near k (p 1) (p 2)) (sc k (p 0)) = 0 := by
    unfold reg
    rw [if_neg]
    rintro ⟨c1, c2, _⟩
    rcases Int.lt_or_le (p 1).2 (p 0).2 with c | c
    · have := hup c; omega
    · have := hlo c; omega
  have tt : turn (sc k (p 0)) (sc k (p 1)) (near k (p 1) (p 2)) = k * turn (p 0) (p 1) (p 2) := by unfold turn near sc; grind
  have z7 : cr (near k (p 1) (p 2)) (sc k (p 0)) (sc k (p 1)) = 0 := by
    have : 0 ≤ k * turn (p 0) (p 1) (p 2) := mpp0 (by omega) ht
    unfold cr
    rw [if_neg (by omega), if_neg (by rw [tt]; omega)]
  have hle2 := h.lam_eq 1 (k := k) (by omega) (near_inn' hk0 e12)
  rw [h.lam_all 1] at hle2
  simp only [Nat.reduceAdd] at hle2
  rw [hu] at hle2
  have hw0 : wsum (fun i => sc k (p i)) n (sc k (p 1)) = wsum p n (p 1) := wsum_sc (by omega) p n (p 1)
  rw [z1, z2, z3, z4, z5, z6, z7, hw0] at g
  omega
/-- The next one is below it. -/
theorem Simple.corner_down {p : Nat → Int × Int} {n : Nat} (h : Simple p n) (hu : up (p 1) (p 2) = 0) : wsum p n (p 1) = lam p n 0 - (if (p 0).2 ≤ (p 1).2 ∧ (p 2).2 < (p 1).2 ∧ 0 < turn (p 0) (p 1) (p 2) then 1 else 0) := by
  have h3 := h.three
  have e12 : p 1 ≠ p 2 := h.ne_next 1
  have lw : (p 2).2 < (p 1).2 ∨ ((p 1).2 = (p 2).2 ∧ (p 1).1 < (p 2).1) := by
    unfold up at hu
    split at hu
    · cases hu
    · have : ¬ ((p 1).1 = (p 2).1 ∧ (p 1).2 = (p 2).2) := fun e => e12 (Prod.ext e.1 e.2)
      omega
  obtain ⟨k1, hk1⟩ := bound_all (P := fun j k => 1 < j → apart (near k (p 1) (p 2)) (k * (p 1).1 + 0, k * (p 1).2 + 0) (sc k (p j)) (sc k (p (j + 1)))) n (fun j hj => by
    by_cases c : 1 < j
    · obtain ⟨k0, hk0⟩ := near_apart (h.corner_off c hj) ((p 2).1 - (p 1).1, (p 2).2 - (p 1).2) (0, 0)
      exact ⟨k0, fun k a b _ => hk0 k a b⟩
    · exact ⟨0, fun k _ _ c' => absurd c' c⟩)
  obtain ⟨k, hkd⟩ : ∃ k : Int, k = max k1 (((p 2).2 - (p 1).2).natAbs + ((p 0).2 - (p 1).2).natAbs + 2) := ⟨_, rfl⟩
  have hk0 : 1 < k := by omega
  have hx : ((k * (p 1).1 + 0, k * (p 1).2 + 0) : Int × Int) = sc k (p 1) := by unfold sc; simp
  have hap := hk1 k (by omega) (by omega)
  rw [hx] at hap
  have hle : (near k (p 1) (p 2)).2 ≤ (sc k (p 1)).2 := by unfold sc near; simp only; omega
  have g := wsum_but2 (p := fun i => sc k (p i)) (n := n) (by omega) (by show sc k (p n) = sc k (p 0); rw [h.per1]) hle (fun j h1 hj => hap j hj h1)
  have z1 : cr (sc k (p 1)) (sc k (p 0)) (sc k (p 1)) = 0 := cr_on (by unfold turn; grind)
  have z2 : cr (sc k (p 1)) (sc k (p 1)) (sc k (p 2)) = 0 := cr_on (by unfold turn; grind)
  have z3 : cr (near k (p 1) (p 2)) (sc k (p 1)) (sc k (p 2)) = 0 := cr_on (by unfold turn near sc; grind)
  have z4 : reg (near k (p 1) (p 2)) (sc k (p 1)) (sc k (p 1)) = 0 := by unfold reg; rw [if_neg]; rintro ⟨_, _, c⟩; have : turn (near k (p 1) (p 2)) (sc k (p 1)) (sc k (p 1)) = 0 := (by unfold turn; grind); omega
  have z5 : reg (near k (p 1) (p 2)) (sc k (p 1)) (sc k (p 2)) = 0 := by unfold reg; rw [if_neg]; rintro ⟨_, _, c⟩; have : turn (near k (p 1) (p 2)) (sc k (p 1)) (sc k (p 2)) = 0 := (by unfold turn near sc; grind); omega
  have tt : turn (sc k (p 0)) (sc k (p 1)) (near k (p 1) (p 2)) = k * turn (p 0) (p 1) (p 2) := by unfold turn near sc; grind
  have tr : turn (near k (p 1) (p 2)) (sc k (p 1)) (sc k (p 0)) = -(k * turn (p 0) (p 1) (p 2)) := by unfold turn near sc; grind
  have hs := sign_mul (k := k) (t := turn (p 0) (p 1) (p 2)) (by omega)
  -- heights
  have y1 : (near k (p 1) (p 2)).2 = k * (p 1).2 + ((p 2).2 - (p 1).2) := rfl
  have y2 : (sc k (p 1)).2 = k * (p 1).2 := rfl
  have y3 : (sc k (p 0)).2 = k * (p 0).2 := rfl
  have hlt : (p 0).2 < (p 1).2 → k * (p 0).2 ≤ k * (p 1).2 + ((p 2).2 - (p 1).2) := fun c => by
    have := Int.mul_le_mul_of_nonneg_left (show 1 ≤ (p 1).2 - (p 0).2 by omega) (show 0 ≤ k by omega)
    rw [Int.mul_sub] at this
    omega
  have hgt : (p 1).2 < (p 0).2 → k * (p 1).2 < k * (p 0).2 := fun c => Int.mul_lt_mul_of_pos_left c (by omega)
  have heq : (p 0).2 = (p 1).2 → k * (p 0).2 = k * (p 1).2 := fun c => by rw [c]
  have z7 : cr (near k (p 1) (p 2)) (sc k (p 0)) (sc k (p 1)) + reg (near k (p 1) (p 2)) (sc k (p 1)) (sc k (p 0)) = if (p 0).2 ≤ (p 1).2 ∧ (p 2).2 < (p 1).2 ∧ 0 < turn (p 0) (p 1) (p 2) then 1 else 0 := by
    unfold cr reg
    rw [tt, tr, y1, y2, y3]
    obtain ⟨X, hX⟩ : ∃ X, k * turn (p 0) (p 1) (p 2) = X := ⟨_, rfl⟩
    rw [hX] at hs ⊢
    obtain ⟨u, hu0⟩ : ∃ u, k * (p 0).2 = u := ⟨_, rfl⟩
    obtain ⟨v, hv0⟩ : ∃ v, k * (p 1).2 = v := ⟨_, rfl⟩
    rw [hu0, hv0] at hlt hgt heq ⊢
    obtain ⟨T, hT⟩ : ∃ T, turn (p 0) (p 1) (p 2) = T := ⟨_, rfl⟩
    rw [hT] at hs ⊢
    -- a level way on: the corner before is not on the wrong side
    have hflat : (p 1).2 = (p 2).2 → (p 1).2 < (p 0).2 → 0 < T := fun c1 c2 => by
      have e : T = ((p 0).2 - (p 1).2) * ((p 2).1 - (p 1).1) := by rw [← hT]; unfold turn; rw [← c1]; grind
      rw [e]
      exact mpp (by omega) (by omega)
    rcases Int.lt_trichotomy (p 0).2 (p 1).2 with c | c | c
    · have := hlt c
      by_cases c2 : (p 2).2 < (p 1).2
      · by_cases c3 : 0 < T
        · rw [if_pos (by omega), if_neg (by omega), if_pos ⟨by omega, c2, c3⟩]; rfl
        · rw [if_neg (by omega), if_neg (by omega), if_neg (by omega), if_neg (by omega)]; rfl
      · rw [if_neg (by omega), if_neg (by omega), if_neg (by omega), if_neg (by omega)]; rfl
    · have := heq c
      by_cases c2 : (p 2).2 < (p 1).2
      · by_cases c3 : 0 < T
        · rw [if_neg (by omega), if_neg (by omega), if_pos (by omega), if_pos ⟨by omega, c2, c3⟩]; rfl
        · rw [if_neg (by omega), if_neg (by omega), if_neg (by omega), if_neg (by omega)]; rfl
      · rw [if_neg (by omega), if_neg (by omega), if_neg (by omega), if_neg (by omega)]; rfl
    · have := hgt c
      by_cases c2 : (p 2).2 < (p 1).2
      · rw [if_neg (by omega), if_neg (by omega), if_neg (by omega), if_neg (by omega)]; rfl
      · have := hflat (by omega) c
        rw [if_neg (by omega), if_neg (by omega), if_neg (by omega), if_neg (by omega)]; rfl
  have hle2 := h.lam_eq 1 (k := k) (by omega) (near_inn' hk0 e12)
  rw [h.lam_all 1] at hle2
  simp only [Nat.reduceAdd] at hle2
  rw [hu] at hle2
  have hw0 : wsum (fun i => sc k (p i)) n (sc k (p 1)) = wsum p n (p 1) := wsum_sc (by omega) p n (p 1)
  rw [← z7]
  rw [z1, z2, z3, z4, z5, hw0] at g
  omega
theorem up_01 (a b : Int × Int) : up a b = 0 ∨ up a b = 1 := by unfold up; split <;> simp
/-- A corner that turns left, or not at all: how both ways count it. -/
theorem Simple.corner_cc {p : Nat → Int × Int} {n : Nat} (h : Simple p n) (hl : lam p n 0 = 1) (ht : 0 ≤ turn (p 0) (p 1) (p 2)) : 1 - cc p n (p 1) = if up (p 0) (p 1) = up (p 1) (p 2) then 0 else 1 := by
  have e12 : p 1 ≠ p 2 := h.ne_next 1
  have e01 : p 0 ≠ p 1 := h.ne_next 0
  have hln : lam (fun i => Go.Proofs.Ythiemglckmociaa.neg (p i)) n 0 = 1 := by rw [h.lam_neg]; exact hl
  have htn : turn (Go.Proofs.Ythiemglckmociaa.neg (p 0)) (Go.Proofs.Ythiemglckmociaa.neg (p 1)) (Go.Proofs.Ythiemglckmociaa.neg (p 2)) = turn (p 0) (p 1) (p 2) := turn_neg _ _ _
  have n12 : ¬ ((p 1).1 = (p 2).1 ∧ (p 1).2 = (p 2).2) := fun e => e12 (Prod.ext e.1 e.2)
  have n01 : ¬ ((p 0).1 = (p 1).1 ∧ (p 0).2 = (p 1).2) := fun e => e01 (Prod.ext e.1 e.2)
  have hsp := h.spike 0
  simp only [Nat.zero_add] at hsp
  -- no turn: straight on
  have hstr : turn (p 0) (p 1) (p 2) = 0 → up (p 0) (p 1) = up (p 1) (p 2) := fun h0 => by
    have hd := spike_op hsp e01 e12 h0
    rcases up_01 (p 0) (p 1) with a | a <;> rcases up_01 (p 1) (p 2) with b | b
    · rw [a, b]
    · exfalso
      -- opposite: the ways lead to the same side
      have hr := up_rev e01
      have := same_up (a := p 1) (b := p 0) (c := p 1) (d := p 2) (fun e => e01 e.symm) e12 (by unfold turn at h0; grind) (by omega)
      unfold dot at hd
      have e : ((p 0).1 - (p 1).1) * ((p 2).1 - (p 1).1) + ((p 0).2 - (p 1).2) * ((p 2).2 - (p 1).2) < 0 := hd
      omega
    · exfalso
      have hr := up_rev e01
      have := same_up (a := p 1) (b := p 0) (c := p 1) (d := p 2) (fun e => e01 e.symm) e12 (by unfold turn at h0; grind) (by omega)
      unfold dot at hd
      have e : ((p 0).1 - (p 1).1) * ((p 2).1 - (p 1).1) + ((p 0).2 - (p 1).2) * ((p 2).2 - (p 1).2) < 0 := hd
      omega
    · rw [a, b]
  have T1 : ∀ {p : Nat → Int × Int}, turn (p 0) (p 1) (p 2) = ((p 1).1 - (p 0).1) * ((p 2).2 - (p 1).2) - ((p 1).2 - (p 0).2) * ((p 2).1 - (p 1).1) := fun {p} => by unfold turn; grind
  rcases up_01 (p 1) (p 2) with b | b
  · -- the next one below
    have w1 := h.corner_down b
    have bn : up (Go.Proofs.Ythiemglckmociaa.neg (p 1)) (Go.Proofs.Ythiemglckmociaa.neg (p 2)) = 1 := by rw [up_neg e12, b]; rfl
    have w2 := h.neg.corner_up bn (by rw [htn]; exact ht)
    have w2 : wsum (fun i => Go.Proofs.Ythiemglckmociaa.neg (p i)) n (Go.Proofs.Ythiemglckmociaa.neg (p 1)) = lam (fun i => Go.Proofs.Ythiemglckmociaa.neg (p i)) n 0 - 1 := w2
    rw [hl] at w1
    rw [hln] at w2
    unfold cc
    rw [w1, w2, b]
    rcases up_01 (p 0) (p 1) with a | a
    · rw [if_pos a, if_neg]
      · rfl
      · rintro ⟨c1, c2, c3⟩
        unfold up at a
        split at a
        · cases a
        · -- before is not below: level, and on the left
          have h1 : (p 0).2 = (p 1).2 ∧ (p 0).1 < (p 1).1 := by omega
          have e := T1 (p := p)
          rw [h1.1] at e
          simp only [Int.sub_self, Int.zero_mul, Int.sub_zero] at e
          have := mpn (a := (p 1).1 - (p 0).1) (b := (p 2).2 - (p 1).2) (by omega) (by omega)
          omega
    · rw [if_neg (show ¬ up (p 0) (p 1) = 0 by omega)]
      have hne : turn (p 0) (p 1) (p 2) ≠ 0 := fun h0 => by have := hstr h0; omega
      rw [if_pos]
      · rfl
      · unfold up at a b
        split at a
        · rename_i ca
          split at b
          · cases b
          · rename_i cb
            refine ⟨by omega, ?_, by omega⟩
            rcases Int.lt_or_le (p 2).2 (p 1).2 with q | q
            · exact q
            · exfalso
              have h2 : (p 1).2 = (p 2).2 ∧ (p 1).1 < (p 2).1 := by omega
              have e := T1 (p := p)
              rw [← h2.1] at e
              simp only [Int.sub_self, Int.mul_zero, Int.zero_sub] at e
              have := mpp0 (a := (p 1).2 - (p 0).2) (b := (p 2).1 - (p 1).1) (by omega) (by omega)
              omega
        · cases a
  · -- the next one above
    have w1 := h.corner_up b ht
    have bn : up (Go.Proofs.Ythiemglckmociaa.neg (p 1)) (Go.Proofs.Ythiemglckmociaa.neg (p 2)) = 0 := by rw [up_neg e12, b]; rfl
    have w2 := h.neg.corner_down bn
    have w2 : wsum (fun i => Go.Proofs.Ythiemglckmociaa.neg (p i)) n (Go.Proofs.Ythiemglckmociaa.neg (p 1)) = lam (fun i => Go.Proofs.Ythiemglckmociaa.neg (p i)) n 0 - (if (Go.Proofs.Ythiemglckmociaa.neg (p 0)).2 ≤ (Go.Proofs.Ythiemglckmociaa.neg (p 1)).2 ∧ (Go.Proofs.Ythiemglckmociaa.neg (p 2)).2 < (Go.Proofs.Ythiemglckmociaa.neg (p 1)).2 ∧ 0 < turn (Go.Proofs.Ythiemglckmociaa.neg (p 0)) (Go.Proofs.Ythiemglckmociaa.neg (p 1)) (Go.Proofs.Ythiemglckmociaa.neg (p 2)) then 1 else 0) := w2
    rw [hl] at w1
    rw [hln, htn] at w2
    unfold cc
    rw [w1, w2, b]
    have y0 : (Go.Proofs.Ythiemglckmociaa.neg (p 0)).2 = -(p 0).2 := rfl
    have y1 : (Go.Proofs.Ythiemglckmociaa.neg (p 1)).2 = -(p 1).2 := rfl
    have y2 : (Go.Proofs.Ythiemglckmociaa.neg (p 2)).2 = -(p 2).2 := rfl
    rw [y0, y1, y2]
    rcases up_01 (p 0) (p 1) with a | a
    · rw [if_neg (show ¬ up (p 0) (p 1) = 1 by omega)]
      have hne : turn (p 0) (p 1) (p 2) ≠ 0 := fun h0 => by have := hstr h0; omega
      rw [if_pos]
      · rfl
      · unfold up at a b
        split at b
        · rename_i cb
          split at a
          · cases a
          · rename_i ca
            refine ⟨by omega, ?_, by omega⟩
            rcases Int.lt_or_le (p 1).2 (p 2).2 with q | q
            · omega
            · exfalso
              have h2 : (p 1).2 = (p 2).2 ∧ (p 2).1 < (p 1).1 := by omega
              have e := T1 (p := p)
              rw [← h2.1] at e
              simp only [Int.sub_self, Int.mul_zero, Int.zero_sub] at e
              have := mnn0 (a := (p 1).2 - (p 0).2) (b := (p 2).1 - (p 1).1) (by omega) (by omega)
              omega
        · cases b
    · rw [if_pos a, if_neg]
      · rfl
      · rintro ⟨c1, c2, c3⟩
        unfold up at a
        split at a
        · have h1 : (p 0).2 = (p 1).2 ∧ (p 1).1 < (p 0).1 := by omega
          have e := T1 (p := p)
          rw [h1.1] at e
          simp only [Int.sub_self, Int.zero_mul, Int.sub_zero] at e
          have := mnp (a := (p 1).1 - (p 0).1) (b := (p 2).2 - (p 1).2) (by omega) (by omega)
          omega
        · cases a
/-- Twice only the corners change from going up to going down, or back. -/
theorem Simple.changes {p : Nat → Int × Int} {n : Nat} (h : Simple p n) (hl : lam p n 0 = 1) (ht : ∀ i, 0 ≤ turn (p i) (p (i + 1)) (p (i + 2))) : sumN (fun i => if up (p i) (p (i + 1)) = up (p (i + 1)) (p (i + 2)) then 0 else 1) n = 2 := by
  have h3 := h.three
  have hc := corners n p h
  rw [hl] at hc
  have e1 : sumN (fun i => if up (p i) (p (i + 1)) = up (p (i + 1)) (p (i + 2)) then 0 else 1) n = sumN (fun i => 1 - cc p n (p (i + 1))) n := sumN_congr fun i _ => by
    have := (h.shift i).corner_cc (by rw [lam_shift h i]; exact hl) (by show 0 ≤ turn (p (0 + i)) (p (1 + i)) (p (2 + i)); rw [Nat.zero_add, Nat.add_comm 1 i, Nat.add_comm 2 i]; exact ht i)
    rw [h.cc_shift i] at this
    have this : 1 - cc p n (p (1 + i)) = if up (p (0 + i)) (p (1 + i)) = up (p (1 + i)) (p (2 + i)) then 0 else 1 := this
    rw [Nat.zero_add, Nat.add_comm 1 i, Nat.add_comm 2 i] at this
    exact this.symm
  rw [e1, sumN_sub]
  have e2 : sumN (fun i => cc p n (p (i + 1))) n = sumN (fun i => cc p n (p i)) n := sumN_shift1 (f := fun i => cc p n (p i)) (by show cc p n (p n) = cc p n (p 0); rw [h.per1])
  have e3 : ∀ n : Nat, sumN (fun _ => (1 : Int)) n = n := by
    intro n
    induction n with
    | zero => rfl
    | succ n ih => rw [sumN, ih]; omega
  rw [e2, hc, e3]
  omega
theorem sumN_three {f : Nat → Int} {a b c n : Nat} (ha : a < n) (hb : b < n) (hc : c < n) (h1 : a ≠ b) (h2 : a ≠ c) (h3 : b ≠ c) (hf : ∀ i, 0 ≤ f i) : f a + f b + f c ≤ sumN f n := by
  have drop : ∀ {g : Nat → Int} {k : Nat}, k < n → sumN (fun i => if i = k then 0 else g i) n = sumN g n - g k := by
    intro g k hk
    have e : (fun i => if i = k then 0 else g i) = fun i => g i - (if i = k then g k else 0) := by
      funext i
      by_cases q : i = k
      · rw [if_pos q, if_pos q, q]; omega
      · rw [if_neg q, if_neg q]; omega
    rw [e, sumN_sub, sumN_one (f := fun i => if i = k then g k else 0) hk (fun j _ q => if_neg q), if_pos rfl]
  have e1 := drop (g := f) ha
  have e2 := drop (g := fun i => if i = a then 0 else f i) hb
  rw [e1] at e2
  have e3 := sumN_ge (f := fun i => if i = b then 0 else if i = a then 0 else f i) hc (fun j _ => by
    split
    · exact Int.le_refl _
    · split
      · exact Int.le_refl _
      · exact hf j)
  rw [e2] at e3
  rw [if_neg (fun q => h3 q.symm), if_neg (fun q => h2 q.symm), if_neg (fun q => h1 q.symm)] at e3
  omega
end Go.Proofs.Ythiemglckmociaa
/- A plot is convex just if it is as large as the convex plot around its corners. No conditions. -/
namespace Go.Proofs.Ythiemglckmociaa
/-- Turned and stretched, so that d points to the right. -/
def simi (d x : Int × Int) : Int × Int := (d.1 * x.1 + d.2 * x.2, d.1 * x.2 - d.2 * x.1)
theorem turn_simi (d a b c : Int × Int) : turn (simi d a) (simi d b) (simi d c) = (d.1 * d.1 + d.2 * d.2) * turn a b c := by unfold turn simi; grind
theorem dot_simi (d a b c : Int × Int) : dot (simi d a) (simi d b) (simi d c) = (d.1 * d.1 + d.2 * d.2) * dot a b c := by unfold dot simi; grind
theorem simi_inj {d a b : Int × Int} (hd : 0 < d.1 * d.1 + d.2 * d.2) (h : simi d a = simi d b) : a = b := by
  unfold simi at h
  rw [Prod.mk.injEq] at h
  obtain ⟨h1, h2⟩ := h
  have e1 : (d.1 * d.1 + d.2 * d.2) * (a.1 - b.1) = 0 := by
    have : (d.1 * d.1 + d.2 * d.2) * (a.1 - b.1) = d.1 * ((d.1 * a.1 + d.2 * a.2) - (d.1 * b.1 + d.2 * b.2)) - d.2 * ((d.1 * a.2 - d.2 * a.1) - (d.1 * b.2 - d.2 * b.1)) := by grind
    rw [this, h1, h2]; simp
  have e2 : (d.1 * d.1 + d.2 * d.2) * (a.2 - b.2) = 0 := by
    have : (d.1 * d.1 + d.2 * d.2) * (a.2 - b.2) = d.2 * ((d.1 * a.1 + d.2 * a.2) - (d.1 * b.1 + d.2 * b.2)) + d.1 * ((d.1 * a.2 - d.2 * a.1) - (d.1 * b.2 - d.2 * b.1)) := by grind
    rw [this, h1, h2]; simp
  refine Prod.ext ?_ ?_
  · rcases Int.mul_eq_zero.1 e1 with q | q <;> omega
  · rcases Int.mul_eq_zero.1 e2 with q | q <;> omega
theorem onB_simi {d : Int × Int} (hd : 0 < d.1 * d.1 + d.2 * d.2) (a b x : Int × Int) : onB (simi d a) (simi d b) (simi d x) = onB a b x := by
  obtain ⟨g1, g2, g3⟩ := sign_mul (k := d.1 * d.1 + d.2 * d.2) (t := turn a b x) hd
  obtain ⟨f1, f2, f3⟩ := sign_mul (k := d.1 * d.1 + d.2 * d.2) (t := dot x a b) hd
  unfold onB
  rw [turn_simi, dot_simi]
  congr 1
  · rw [Bool.eq_iff_iff, beq_iff_eq, beq_iff_eq]; exact g3
  · rw [decide_eq_decide]; omega
theorem Simple.simi {p : Nat → Int × Int} {n : Nat} (h : Simple p n) {d : Int × Int} (hd : 0 < d.1 * d.1 + d.2 * d.2) : Simple (fun i => Go.Proofs.Ythiemglckmociaa.simi d (p i)) n := by
  refine ⟨h.three, fun i => by rw [h.per], fun i j hi hj e => h.inj i j hi hj (simi_inj hd e), fun i => ?_, fun i j hi hj h1 h2 h3 => ?_⟩
  · rw [turn_simi, dot_simi, (sign_mul hd).1, (sign_mul hd).2.2]
    exact h.spike i
  · obtain ⟨a1, a2, a3, a4, a5⟩ := h.free i j hi hj h1 h2 h3
    refine ⟨by rw [onB_simi hd]; exact a1, by rw [onB_simi hd]; exact a2, by rw [onB_simi hd]; exact a3, by rw [onB_simi hd]; exact a4, ?_⟩
    rw [turn_simi, turn_simi, turn_simi, turn_simi]
    have hK := mpp hd hd
    have e : ∀ K x y : Int, (K * x) * (K * y) = (K * K) * (x * y) := fun K x y => by grind
    rw [e, e, (sign_mul hK).2.1, (sign_mul hK).2.1]
    exact a5
theorem area_simi (d : Int × Int) (p : Nat → Int × Int) (n : Nat) : area (fun i => simi d (p i)) n = (d.1 * d.1 + d.2 * d.2) * area p n := by
  unfold area
  rw [← sumN_mul]
  exact sumN_congr fun i _ => by unfold simi; grind
theorem lam_of_area {p : Nat → Int × Int} {n : Nat} (h : Simple p n) (ha : 0 < area p n) : lam p n 0 = 1 := by
  have h1 := h.area_pos
  rcases h.lam01 with c | c
  · rw [c] at h1; omega
  · exact c
theorem area_of_lam {p : Nat → Int × Int} {n : Nat} (h : Simple p n) (hl : lam p n 0 = 1) : 0 < area p n := by
  have h1 := h.area_pos
  rw [hl] at h1
  omega
theorem least {P : Nat → Prop} : ∀ (k m : Nat), P (m + k) → ∃ j, m ≤ j ∧ j ≤ m + k ∧ P j ∧ ∀ i, m ≤ i → i < j → ¬ P i
  | 0, m, h => ⟨m, Nat.le_refl _, Nat.le_refl _, h, fun i h1 h2 => by omega⟩
  | k + 1, m, h => by
    by_cases c : P m
    · exact ⟨m, Nat.le_refl _, by omega, c, fun i h1 h2 => by omega⟩
    · obtain ⟨j, h1, h2, h3, h4⟩ := least (P := P) k (m + 1) (by rw [show m + 1 + k = m + (k + 1) by omega]; exact h)
      refine ⟨j, by omega, by omega, h3, fun i a b => ?_⟩
      by_cases e : i = m
      · subst e; exact c
      · exact h4 i (by omega) b
/-- A side leads to the right: no corner lies below it. -/
theorem Simple.above {q : Nat → Int × Int} {n : Nat} (h : Simple q n) (hl : lam q n 0 = 1) (ht : ∀ i, 0 ≤ turn (q i) (q (i + 1)) (q (i + 2))) (h0 : (q 0).2 = (q 1).2) (h1 : (q 0).1 < (q 1).1) : ∀ j, j ≤ n → (q 0).2 ≤ (q j).2 := by
  have h3 := h.three
  have hsum := h.changes hl ht
  obtain ⟨s, hs⟩ : ∃ s : Nat → Int, s = fun i => up (q i) (q (i + 1)) := ⟨_, rfl⟩
  have hs1 : ∀ i, up (q i) (q (i + 1)) = s i := fun i => by rw [hs]
  have hsum : sumN (fun i => if s i = s (i + 1) then 0 else 1) n = 2 := by
    rw [← hsum]
    exact sumN_congr fun i _ => by rw [hs1, show q (i + 2) = q (i + 1 + 1) from rfl, hs1]
  have s01 : ∀ i, s i = 0 ∨ s i = 1 := fun i => by rw [← hs1]; exact up_01 _ _
  have s0 : s 0 = 0 := by
    rw [← hs1]
    unfold up
    rw [if_neg]
    simp only [Nat.zero_add]
    omega
  have sn : s n = 0 := by
    rw [← hs1, h.per1, show n + 1 = 1 + n by omega, h.per, show (1 : Nat) = 0 + 1 from rfl, hs1]; exact s0
  -- steps
  have dn : ∀ i, s i = 0 → (q (i + 1)).2 < (q i).2 ∨ ((q (i + 1)).2 = (q i).2 ∧ (q i).1 < (q (i + 1)).1) := fun i e => by
    have := hs1 i
    rw [e] at this
    unfold up at this
    split at this
    · cases this
    · have hne := h.ne_next i
      have : ¬ ((q i).1 = (q (i + 1)).1 ∧ (q i).2 = (q (i + 1)).2) := fun e => hne (Prod.ext e.1 e.2)
      omega
  have upw : ∀ i, s i = 1 → (q i).2 ≤ (q (i + 1)).2 := fun i e => by
    have := hs1 i
    rw [e] at this
    unfold up at this
    split at this
    · omega
    · cases this
  -- the first step up
  have hex : ∃ k, k ≤ n ∧ s k = 1 := by
    apply Classical.byContradiction
    intro hno
    have hz : ∀ i, i ≤ n → s i = 0 := fun i hi => by
      rcases s01 i with c | c
      · exact c
      · exact absurd ⟨i, hi, c⟩ hno
    rw [sumN_zero (fun i hi => if_pos (by rw [hz i (by omega), hz (i + 1) (by omega)]))] at hsum
    cases hsum
  obtain ⟨k, hk, hk1⟩ := hex
  obtain ⟨m, _, hm2, hm3, hm4⟩ := least (P := fun i => s i = 1) k 0 (by rw [Nat.zero_add]; exact hk1)
  have hm0 : m ≠ 0 := fun e => by subst e; rw [s0] at hm3; cases hm3
  have hmn : m < n := by
    rcases Nat.lt_or_ge m n with c | c
    · exact c
    · exfalso
      have : m = n := by omega
      rw [this, sn] at hm3; cases hm3
  have lo : ∀ i, i < m → s i = 0 := fun i hi => by
    rcases s01 i with c | c
    · exact c
    · exact absurd c (hm4 i (Nat.zero_le _) hi)
  -- and the first one down again
  obtain ⟨M, hM1, hM2, hM3, hM4⟩ := least (P := fun i => s i = 0) (n - m) m (by show s (m + (n - m)) = 0; rw [Nat.add_sub_cancel' (by omega)]; exact sn)
  have hMm : M ≠ m := fun e => by rw [e, hm3] at hM3; cases hM3
  have mid : ∀ i, m ≤ i → i < M → s i = 1 := fun i a b => by
    rcases s01 i with c | c
    · exact absurd c (hM4 i a b)
    · exact c
  have hi : ∀ i, M ≤ i → i ≤ n → s i = 0 := by
    intro i
    induction i with
    | zero => intro a _; omega
    | succ i ih =>
      intro a b
      by_cases e : i + 1 = M
      · rw [e]; exact hM3
      · have e0 := ih (by omega) (by omega)
        rcases s01 (i + 1) with c | c
        · exact c
        · exfalso
          have hf : ∀ j, (0 : Int) ≤ (fun i => if s i = s (i + 1) then 0 else 1) j := fun j => by
            show (0 : Int) ≤ if s j = s (j + 1) then 0 else 1
            split <;> omega
          have := sumN_three (f := fun i => if s i = s (i + 1) then 0 else 1) (a := m - 1) (b := M - 1) (c := i) (n := n) (by omega) (by omega) (by omega) (by omega) (by omega) (by omega) hf
          rw [hsum] at this
          simp only [Nat.sub_add_cancel (show 1 ≤ m by omega), Nat.sub_add_cancel (show 1 ≤ M by omega)] at this
          rw [if_neg (by rw [lo (m - 1) (by omega), hm3]; decide), if_neg (by rw [mid (M - 1) (by omega) (by omega), hM3]; decide), if_neg (by rw [e0, c]; decide)] at this
          omega
  -- level as far as m
  have lev : ∀ i, i + 1 ≤ m → (q i).2 = (q (i + 1)).2 ∧ (q i).1 < (q (i + 1)).1 := by
    intro i
    induction i with
    | zero => intro _; exact ⟨h0, h1⟩
    | succ i ih =>
      intro hi
      obtain ⟨a1, a2⟩ := ih (by omega)
      have t := ht i
      have e : turn (q i) (q (i + 1)) (q (i + 2)) = ((q (i + 1)).1 - (q i).1) * ((q (i + 2)).2 - (q (i + 1)).2) := by unfold turn; rw [← a1]; grind
      rw [e] at t
      have d := dn (i + 1) (lo (i + 1) (by omega))
      have hge : (q (i + 1)).2 ≤ (q (i + 2)).2 := by
        rcases Int.lt_or_le (q (i + 2)).2 (q (i + 1)).2 with c | c
        · have := mpn (a := (q (i + 1)).1 - (q i).1) (b := (q (i + 2)).2 - (q (i + 1)).2) (by omega) (by omega)
          omega
        · exact c
      have d' : (q (i + 2)).2 < (q (i + 1)).2 ∨ ((q (i + 2)).2 = (q (i + 1)).2 ∧ (q (i + 1)).1 < (q (i + 2)).1) := d
      show (q (i + 1)).2 = (q (i + 2)).2 ∧ (q (i + 1)).1 < (q (i + 2)).1
      omega
  have lev2 : ∀ i, i ≤ m → (q i).2 = (q 0).2 := by
    intro i
    induction i with
    | zero => intro _; rfl
    | succ i ih => intro hi; rw [← (lev i hi).1]; exact ih (by omega)
  have rise : ∀ k, m + k ≤ M → (q 0).2 ≤ (q (m + k)).2 := by
    intro k
    induction k with
    | zero => intro _; rw [Nat.add_zero, lev2 m (Nat.le_refl _)]; exact Int.le_refl _
    | succ k ih => intro hk; exact Int.le_trans (ih (by omega)) (upw (m + k) (mid (m + k) (by omega) (by omega)))
  have fall : ∀ k, k ≤ n - M → (q 0).2 ≤ (q (n - k)).2 := by
    intro k
    induction k with
    | zero => intro _; rw [Nat.sub_zero, h.per1]; exact Int.le_refl _
    | succ k ih =>
      intro hk
      have d := dn (n - (k + 1)) (hi _ (by omega) (by omega))
      rw [show n - (k + 1) + 1 = n - k by omega] at d
      have := ih (by omega)
      omega
  intro j hj
  rcases Nat.lt_or_ge j m with c | c
  · rw [lev2 j (by omega)]; exact Int.le_refl _
  · rcases Nat.lt_or_ge j M with c2 | c2
    · have := rise (j - m) (by omega)
      rwa [Nat.add_sub_cancel' c] at this
    · have := fall (n - j) (by omega)
      rwa [Nat.sub_sub_self hj] at this
/-- All corners turn left, or not at all: each corner lies left of each side. -/
theorem Simple.global {p : Nat → Int × Int} {n : Nat} (h : Simple p n) (hl : lam p n 0 = 1) (ht : ∀ i, 0 ≤ turn (p i) (p (i + 1)) (p (i + 2))) (i j : Nat) : 0 ≤ turn (p i) (p (i + 1)) (p j) := by
  have h3 := h.three
  have hs := h.shift i
  obtain ⟨d, hd⟩ : ∃ d : Int × Int, d = ((p (i + 1)).1 - (p i).1, (p (i + 1)).2 - (p i).2) := ⟨_, rfl⟩
  have hne := h.ne_next i
  have hK : 0 < d.1 * d.1 + d.2 * d.2 := by rw [hd]; exact norm_pos hne
  have hq := hs.simi hK
  have hla : lam (fun k => Go.Proofs.Ythiemglckmociaa.simi d (p (k + i))) n 0 = 1 := lam_of_area hq (by
    rw [area_simi]
    exact mpp hK (area_of_lam hs (by rw [lam_shift h i]; exact hl)))
  have hc : (p (0 + i)) = p i := by rw [Nat.zero_add]
  have hc1 : (p (1 + i)) = p (i + 1) := by rw [Nat.add_comm]
  have hab := hq.above hla (fun k => by
    show 0 ≤ turn (Go.Proofs.Ythiemglckmociaa.simi d (p (k + i))) (Go.Proofs.Ythiemglckmociaa.simi d (p (k + 1 + i))) (Go.Proofs.Ythiemglckmociaa.simi d (p (k + 2 + i)))
    rw [turn_simi, show k + 1 + i = k + i + 1 by omega, show k + 2 + i = k + i + 2 by omega]
    exact mpp0 (Int.le_of_lt hK) (ht (k + i))) (by
      show (Go.Proofs.Ythiemglckmociaa.simi d (p (0 + i))).2 = (Go.Proofs.Ythiemglckmociaa.simi d (p (1 + i))).2
      rw [hc, hc1, hd]; unfold Go.Proofs.Ythiemglckmociaa.simi; simp only; grind) (by
      show (Go.Proofs.Ythiemglckmociaa.simi d (p (0 + i))).1 < (Go.Proofs.Ythiemglckmociaa.simi d (p (1 + i))).1
      rw [hc, hc1]
      have e : (Go.Proofs.Ythiemglckmociaa.simi d (p (i + 1))).1 - (Go.Proofs.Ythiemglckmociaa.simi d (p i)).1 = d.1 * d.1 + d.2 * d.2 := by rw [hd]; unfold Go.Proofs.Ythiemglckmociaa.simi; simp only; grind
      omega)
  have hk : (j + (n * (i + 1) - i)) % n < n := Nat.mod_lt _ (by omega)
  have := hab ((j + (n * (i + 1) - i)) % n) (by omega)
  have hin : i ≤ n * (i + 1) := by
    have : 1 * (i + 1) ≤ n * (i + 1) := Nat.mul_le_mul_right _ (by omega)
    omega
  have e : p ((j + (n * (i + 1) - i)) % n + i) = p j := by
    rw [← h.mod, Nat.mod_add_mod, show j + (n * (i + 1) - i) + i = j + n * (i + 1) by omega, Nat.add_mul_mod_self_left, h.mod]
  have this : (Go.Proofs.Ythiemglckmociaa.simi d (p (0 + i))).2 ≤ (Go.Proofs.Ythiemglckmociaa.simi d (p ((j + (n * (i + 1) - i)) % n + i))).2 := this
  rw [e, hc] at this
  have e2 : turn (p i) (p (i + 1)) (p j) = (Go.Proofs.Ythiemglckmociaa.simi d (p j)).2 - (Go.Proofs.Ythiemglckmociaa.simi d (p i)).2 := by rw [hd]; unfold Go.Proofs.Ythiemglckmociaa.simi turn; simp only; grind
  omega
/-- A plot that turns left: convex just if as large as the convex plot around its corners. -/
theorem HullQ.convex {S : Int × Int → Prop} {q : Nat → Int × Int} {m : Nat} (h : HullQ S q m) {p : Nat → Int × Int} {n : Nat} (hp : Simple p n) (hl : Go.Proofs.Ythiemglckmociaa.lam p n 0 = 1) (hS : ∀ y, S y ↔ ∃ i, y = p i) :
    (∀ i, 0 ≤ turn (p i) (p (i + 1)) (p (i + 2))) ↔ Go.Proofs.Ythiemglckmociaa.area p n = Go.Proofs.Ythiemglckmociaa.area q m := by
  constructor
  · intro ht
    exact h.full hp hl (fun i => (hS _).2 ⟨i, rfl⟩) (fun i y hy => by
      obtain ⟨j, rfl⟩ := (hS y).1 hy
      exact hp.global hl ht i j)
  · intro ha i
    exact h.tight hp hl (fun i => (hS _).2 ⟨i, rfl⟩) ha i _ ((hS _).2 ⟨i + 2, rfl⟩)
/-- The other way round. -/
def rev (p : Nat → Int × Int) (n i : Nat) : Int × Int := p (n * (i + 1) - i)
theorem rev_idx (n i : Nat) (hn : 1 ≤ n) : i ≤ n * (i + 1) := by
  have : 1 * (i + 1) ≤ n * (i + 1) := Nat.mul_le_mul_right _ hn
  omega
theorem rev_next {p : Nat → Int × Int} {n : Nat} (h : Simple p n) (i : Nat) : rev p n i = p (n * (i + 2) - (i + 1) + 1) := by
  have h3 := h.three
  have h1 := rev_idx n i (by omega)
  have e : n * (i + 2) = n * (i + 1) + n := Nat.mul_succ n (i + 1)
  unfold rev
  rw [show n * (i + 2) - (i + 1) + 1 = n * (i + 1) - i + n by omega, h.per]
theorem Simple.turned {p : Nat → Int × Int} {n : Nat} (h : Simple p n) : Simple (Go.Proofs.Ythiemglckmociaa.rev p n) n := by
  have h3 := h.three
  have hr := h.rev.shift (n - 1)
  have e : (fun i => p (n - 1 - (i + (n - 1)) % n)) = Go.Proofs.Ythiemglckmociaa.rev p n := by
    funext i
    unfold Go.Proofs.Ythiemglckmociaa.rev
    have hi := rev_idx n i (by omega)
    obtain ⟨t, ht⟩ : ∃ t, (i + (n - 1)) % n = t := ⟨_, rfl⟩
    obtain ⟨c, hc⟩ : ∃ c, (i + (n - 1)) / n = c := ⟨_, rfl⟩
    have hd := Nat.div_add_mod (i + (n - 1)) n
    rw [ht, hc] at hd
    have htn : t < n := by rw [← ht]; exact Nat.mod_lt _ (by omega)
    have hci : c ≤ i + 1 := by
      rcases Nat.lt_or_ge (i + 1) c with q | q
      · exfalso
        have : n * (i + 2) ≤ n * c := Nat.mul_le_mul_left n (by omega)
        have e2 : n * (i + 2) = n * (i + 1) + n := Nat.mul_succ n (i + 1)
        omega
      · exact q
    have e3 : n * (i + 1) = n * c + n * (i + 1 - c) := by rw [← Nat.mul_add, Nat.add_sub_cancel' hci]
    rw [ht, show n * (i + 1) - i = (n - 1 - t) + n * (i + 1 - c) by omega, h.per_mul]
  rw [← e]
  exact hr
theorem sumN_back (f : Nat → Int) : ∀ n : Nat, sumN (fun i => f (n - 1 - i)) n = sumN f n := by
  intro n
  induction n generalizing f with
  | zero => rfl
  | succ n ih =>
    have e : sumN f (n + 1) = sumN (fun i => f (i + 1)) n + f 0 := by
      clear ih
      induction n with
      | zero => show (0 : Int) + f 0 = 0 + f 0; rfl
      | succ n ih =>
        rw [sumN, ih, sumN]; omega
    rw [e, sumN, ← ih (fun i => f (i + 1))]
    have e2 : sumN (fun i => f (n + 1 - 1 - i)) n = sumN (fun i => f (n - 1 - i + 1)) n := sumN_congr fun i hi => by rw [show n + 1 - 1 - i = n - 1 - i + 1 by omega]
    rw [e2, show n + 1 - 1 - n = 0 by omega]
theorem area_turned {p : Nat → Int × Int} {n : Nat} (h : Simple p n) : area (rev p n) n = - area p n := by
  have h3 := h.three
  unfold area
  have e : ∀ i, i < n → (rev p n i).1 * (rev p n (i + 1)).2 - (rev p n (i + 1)).1 * (rev p n i).2 = (-1) * ((fun j => (p j).1 * (p (j + 1)).2 - (p (j + 1)).1 * (p j).2) (n - 1 - i)) := fun i hi => by
    have e0 := rev_next h i
    have e1 : rev p n (i + 1) = p (n * (i + 2) - (i + 1)) := rfl
    have e2 : n * (i + 2) = n * (i + 1) + n := Nat.mul_succ n (i + 1)
    have e3 : n * (i + 2) - (i + 1) = (n - 1 - i) + n * (i + 1) := by omega
    rw [e0, e1, e3, show n - 1 - i + n * (i + 1) + 1 = (n - 1 - i + 1) + n * (i + 1) by omega, h.per_mul, h.per_mul]
    dsimp only
    grind
  rw [sumN_congr e, sumN_mul]
  have eb := sumN_back (fun j => (p j).1 * (p (j + 1)).2 - (p (j + 1)).1 * (p j).2) n
  rw [eb]
  omega
theorem turn_rev {p : Nat → Int × Int} {n : Nat} (h : Simple p n) (i : Nat) : ∃ j, turn (rev p n i) (rev p n (i + 1)) (rev p n (i + 2)) = - turn (p j) (p (j + 1)) (p (j + 2)) := by
  have h3 := h.three
  refine ⟨n * (i + 3) - (i + 2), ?_⟩
  have e2 : n * (i + 3) = n * (i + 2) + n := Nat.mul_succ n (i + 2)
  have e3 : n * (i + 2) = n * (i + 1) + n := Nat.mul_succ n (i + 1)
  have h1 := rev_idx n i (by omega)
  have a0 : rev p n i = p (n * (i + 3) - (i + 2) + 2) := by
    unfold rev
    rw [show n * (i + 3) - (i + 2) + 2 = n * (i + 1) - i + n + n by omega, h.per, h.per]
  have a1 : rev p n (i + 1) = p (n * (i + 3) - (i + 2) + 1) := rev_next h (i + 1)
  have a2 : rev p n (i + 2) = p (n * (i + 3) - (i + 2)) := rfl
  rw [a0, a1, a2]
  unfold turn; grind
theorem turn_rev2 {p : Nat → Int × Int} {n : Nat} (h : Simple p n) (j : Nat) : ∃ i, turn (p j) (p (j + 1)) (p (j + 2)) = - turn (rev p n i) (rev p n (i + 1)) (rev p n (i + 2)) := by
  have h3 := h.three
  refine ⟨n * (j + 3) - (j + 2), ?_⟩
  have key : ∀ k d : Nat, d ≤ j + 3 → d ≤ 2 → rev p n (n * (j + 3) - (j + 2) + d) = p (j + 2 - d) := fun k d hd h2 => by
    have hj : j + 3 ≤ n * (j + 3) := by
      have : 1 * (j + 3) ≤ n * (j + 3) := Nat.mul_le_mul_right _ (by omega)
      omega
    obtain ⟨u, hu⟩ : ∃ u, n * (j + 3) - (j + 2) + d = u := ⟨_, rfl⟩
    have hju := rev_idx n u (by omega)
    unfold rev
    rw [hu]
    -- n (u + 1) - u = (j + 2 - d) + n * (u + 1 - (j + 3))
    have hle : j + 3 ≤ u + 1 := by
      have : 3 * (j + 3) ≤ n * (j + 3) := Nat.mul_le_mul_right _ h3
      omega
    have e : n * (u + 1) = n * (j + 3) + n * (u + 1 - (j + 3)) := by rw [← Nat.mul_add, Nat.add_sub_cancel' hle]
    rw [show n * (u + 1) - u = (j + 2 - d) + n * (u + 1 - (j + 3)) by omega, h.per_mul]
  have k0 := key 0 0 (by omega) (by omega)
  have k1 := key 0 1 (by omega) (by omega)
  have k2 := key 0 2 (by omega) (by omega)
  rw [Nat.add_zero, Nat.sub_zero] at k0
  rw [show j + 2 - 1 = j + 1 by omega] at k1
  rw [show j + 2 - 2 = j by omega] at k2
  rw [k0, k1, k2]
  unfold turn; grind
/-- Any plot: no larger than the convex plot around its corners; as large just if no corner turns the wrong way. -/
theorem HullQ.any {S : Int × Int → Prop} {q : Nat → Int × Int} {m : Nat} (h : HullQ S q m) {p : Nat → Int × Int} {n : Nat} (hp : Simple p n) (hS : ∀ y, S y ↔ ∃ i, y = p i) :
    (0 < Go.Proofs.Ythiemglckmociaa.area p n → Go.Proofs.Ythiemglckmociaa.area p n ≤ Go.Proofs.Ythiemglckmociaa.area q m ∧ ((∀ i, 0 ≤ turn (p i) (p (i + 1)) (p (i + 2))) ↔ Go.Proofs.Ythiemglckmociaa.area p n = Go.Proofs.Ythiemglckmociaa.area q m)) ∧
    (Go.Proofs.Ythiemglckmociaa.area p n < 0 → -Go.Proofs.Ythiemglckmociaa.area p n ≤ Go.Proofs.Ythiemglckmociaa.area q m ∧ ((∀ i, turn (p i) (p (i + 1)) (p (i + 2)) ≤ 0) ↔ -Go.Proofs.Ythiemglckmociaa.area p n = Go.Proofs.Ythiemglckmociaa.area q m)) := by
  have h3 := hp.three
  refine ⟨fun ha => ?_, fun ha => ?_⟩
  · have hl := lam_of_area hp ha
    exact ⟨h.area_le hp hl (fun i => (hS _).2 ⟨i, rfl⟩), h.convex hp hl hS⟩
  · have hr := hp.turned
    have e := area_turned hp
    have hl := lam_of_area hr (by omega)
    have hS2 : ∀ y, S y ↔ ∃ i, y = rev p n i := fun y => by
      rw [hS]
      constructor
      · rintro ⟨j, rfl⟩
        obtain ⟨u, hu⟩ : ∃ u, n * (j + 1) - j = u := ⟨_, rfl⟩
        have hj := rev_idx n j (by omega)
        refine ⟨u, ?_⟩
        have hle : j + 1 ≤ u + 1 := by
          have : 2 * (j + 1) ≤ n * (j + 1) := Nat.mul_le_mul_right _ (by omega)
          omega
        have e3 : n * (u + 1) = n * (j + 1) + n * (u + 1 - (j + 1)) := by rw [← Nat.mul_add, Nat.add_sub_cancel' hle]
        unfold rev
        rw [show n * (u + 1) - u = j + n * (u + 1 - (j + 1)) by omega, hp.per_mul]
      · rintro ⟨i, rfl⟩
        exact ⟨_, rfl⟩
    have hc := h.convex hr hl hS2
    rw [e] at hc
    refine ⟨by rw [← e]; exact h.area_le hr hl (fun i => (hS2 _).2 ⟨i, rfl⟩), ?_⟩
    rw [← hc]
    constructor
    · intro ht i
      obtain ⟨j, hj⟩ := turn_rev hp i
      have := ht j
      omega
    · intro ht j
      obtain ⟨i, hi⟩ := turn_rev2 hp j
      have := ht i
      omega
end Go.Proofs.Ythiemglckmociaa
