/- A range over an iterator that yields values in memory of its own, and keeps its state in blocks of its own; the loop variable may lie in a box. No program in sight. Conditions: as said in the law. -/
import Derived.Test.YthiemglckmociaaKit
namespace Go.Proofs.Ythiemglckmociaa
open Go.RowKit Go.Shelf

/-- All but the D blocks from B on is kept. -/
structure Priv (B D : Nat) (w w' : World) : Prop where
  os : w'.os = w.os
  tape : w'.tape = w.tape
  output : w'.output = w.output
  size : w.heap.size ≤ w'.heap.size
  block : ∀ k, k < w.heap.size → ¬ (B ≤ k ∧ k < B + D) → w'.heap[k]? = w.heap[k]?
theorem Priv.refl (B D : Nat) (w : World) : Priv B D w w := ⟨rfl, rfl, rfl, Nat.le_refl _, fun _ _ _ => rfl⟩
theorem Priv.trans {B D : Nat} {a b c : World} (h : Priv B D a b) (k : Priv B D b c) : Priv B D a c :=
  ⟨k.os.trans h.os, k.tape.trans h.tape, k.output.trans h.output, Nat.le_trans h.size k.size, fun i hi hn => (k.block i (Nat.lt_of_lt_of_le hi h.size) hn).trans (h.block i hi hn)⟩
theorem Priv.below {B D : Nat} {w w' : World} (h : Priv B D w w') (hB : B ≤ w.heap.size) : Below B w w' :=
  ⟨h.os, h.tape, h.output, h.size, fun k hk => h.block k (Nat.lt_of_lt_of_le hk hB) (by omega)⟩
theorem Priv.wider {B D B' D' : Nat} {w w' : World} (h : Priv B D w w') (h1 : B' ≤ B) (h2 : B + D ≤ B' + D') : Priv B' D' w w' :=
  ⟨h.os, h.tape, h.output, h.size, fun k hk hn => h.block k hk (by omega)⟩
theorem Priv.of_below {B D : Nat} {w w' : World} (h : Below w.heap.size w w') : Priv B D w w' := ⟨h.os, h.tape, h.output, h.size, fun k hk _ => h.block k hk⟩
theorem Priv.put {B D : Nat} (w : World) (l : Nat) (o : Obj) (h1 : B ≤ l) (h2 : l < B + D) : Priv B D w (w.putObj l o) := by
  have h := grownBy_putObj' w l o
  exact ⟨h.os, h.tape, h.output, h.size, fun k hk hn => h.block k hk (fun e => by cases e; exact hn ⟨h1, h2⟩)⟩
theorem Priv.set {B D : Nat} (w : World) (p : Addr) (u : Value) (h1 : B ≤ p.block) (h2 : p.block < B + D) : Priv B D w (w.setCell p u) :=
  ⟨rfl, rfl, rfl, by simp [World.setCell], fun k _ hn => Below.heap_setCell _ _ _ _ (fun e => by subst e; exact hn ⟨h1, h2⟩)⟩
/-- The D blocks from B on stand as they stood. -/
def Stand (B D : Nat) (w w' : World) : Prop := ∀ k, B ≤ k → k < B + D → w'.heap[k]? = w.heap[k]?

/-- The iterator yields some values (none: without end); what it yields k-th is such as E says; it keeps its state in the D blocks that it makes first. -/
def IterV (P : Program) (g : Nat) (lb : Array Value) (E : Nat → Nat → World → Array Value → Prop) (N D : Nat) (R : World → Prop) : Prop :=
  ∀ (n l : Nat) (J Jx : Nat → World → Prop) (W : World), (∀ k W1, J k W1 → R W1) →
    (∀ k W1 W2, W.heap.size ≤ W1.heap.size → J k W1 → Priv W.heap.size D W1 W2 → J k W2) → (∀ k W1 W2, W.heap.size ≤ W1.heap.size → Jx k W1 → Priv W.heap.size D W1 W2 → Jx k W2) →
    (∀ k W1 args, W.heap.size + D ≤ W1.heap.size → J k W1 → k < N → E W.heap.size k W1 args → YieldAt Fence.wide (n - 1) P l args W1 fun e W' =>
      Stand W.heap.size D W1 W' ∧ W1.heap.size ≤ W'.heap.size ∧ ((e = .returned (.bool true) ∧ J (k + 1) W') ∨ (e = .returned (.bool false) ∧ Jx k W'))) → J 0 W →
    CallsIn Fence.wide n P g (#[.func (.yield l) #[] #[]] ++ lb) W fun e W' => (∃ v, e = .returned v) ∧ (J N W' ∨ ∃ k, Jx k W')

/-- How the body of a round may be left. -/
def bodyEndsV (B D : Nat) (I : Nat → World → Prop) (Ix : Code → Nat → World → Prop) (k : Nat) (W : World) : Exit → Act → World → Prop
  | .normal, _, W' => KeepsOthers W W' ∧ Stand B D W W' ∧ I (k + 1) W'
  | .ret, _, W' => KeepsOthers W W' ∧ Stand B D W W' ∧ Ix .ret k W'
  | .exit id, _, W' => KeepsOthers W W' ∧ Stand B D W W' ∧ Ix (.exit id) k W'
  | .goto t, _, W' => KeepsOthers W W' ∧ Stand B D W W' ∧ Ix (.goto t) k W'
  | .panic _, _, _ => False
  | .outgrown, _, _ => False

theorem wide_rangeFuncB {P : Program} {n : Nat} {g : Operand} {ps : Array Tmp} {assign body : Code} {Q : Exit → Act → World → Prop} {a : Act} {w : World}
    {gf : Nat} {lb : Array Value} (hg : a.eval g = .func (.func gf) #[] lb) (eg : ∀ args w, (callFunc gf args).run P w = .ok (.enter gf args) w)
    {E : Nat → Nat → World → Array Value → Prop} {N D : Nat} {R : World → Prop} (hseq : IterV P gf lb E N D R) (hps : ∀ B k W args, E B k W args → args.size = ps.size)
    (I : Nat → World → Prop) (Ix : Code → Nat → World → Prop)
    (hR : ∀ k W, I k W → R W)
    (hI : ∀ k W W', w.heap.size ≤ W.heap.size → I k W → Priv w.heap.size (2 + D) W W' → I k W')
    (hIx : ∀ c k W W', w.heap.size ≤ W.heap.size → Ix c k W → Priv w.heap.size (2 + D) W W' → Ix c k W')
    (h0 : I 0 w) (Ax : Nat → Act → World → Prop) (hAx : ∀ k a' W W', w.heap.size ≤ W.heap.size → Ax k a' W → Priv w.heap.size 2 W W' → Ax k a' W')
    (hassign : ∀ (l : Nat) (k : Nat) (W : World) (args : Array Value) (K : Act → World → Prop), w.heap.size + 2 + D ≤ W.heap.size → I k W → k < N → E (w.heap.size + 2) k W args → (∀ a' W', Below W.heap.size W W' → I k W' → Ax k a' W' → K a' W') →
      assign.wpIn (Fence.wide.inRound l) (n - 1 - 1) P (Exit.then K (fun _ _ _ => False)) { tmps := (ps.zip args).foldl (fun t (p, v) => t.setIfInBounds p v) a.tmps, defers := [] } W)
    (hbody : ∀ (l : Nat) (k : Nat) (a' : Act) (W : World), w.heap.size ≤ l → (∃ r, W.heap[l]? = some (.loop r)) → w.heap.size + 2 + D ≤ W.heap.size → I k W → Ax k a' W → k < N →
      body.wpIn (Fence.wide.inRound l) (n - 1 - 1) P (bodyEndsV (w.heap.size + 2) D I Ix k W) a' W)
    (hdone : ∀ (D' : Nat) (W : World), w.heap.size ≤ D' → D' < w.heap.size + 2 → w.heap.size ≤ W.heap.size → I N W → W.heap[D']? = some (.deferred (some [])) → Q .normal { a with defers := { target := .collected D', args := #[] } :: a.defers } W)
    (hstop : ∀ (D' : Nat) (c : Code) (k : Nat) (W : World), w.heap.size ≤ D' → Ix c k W → W.heap[D']? = some (.deferred (some [])) → c.wpIn Fence.wide n P Q { a with defers := { target := .collected D', args := #[] } :: a.defers } W) :
    (Code.rangeFunc g ps assign body).wpIn Fence.wide n P Q a w := by
  refine wpIn_rangeFunc ?_
  intro fn hfn
  obtain ⟨rec, hrec⟩ : ∃ rec : LoopState → Option Code → Loop, rec = fun st pe => { state := st, pending := pe, fn, tmps := a.tmps, params := ps, assign, body, defers := w.heap.size } := ⟨_, rfl⟩
  obtain ⟨W1, hW1⟩ : ∃ W1, (w.alloc (.deferred (some []))).alloc (.loop (rec .ready none)) = W1 := ⟨_, rfl⟩
  have hs1 : W1.heap.size = w.heap.size + 2 := by rw [← hW1]; simp
  have hL1 : W1.heap[w.heap.size + 1]? = some (.loop (rec .ready none)) := by
    rw [← hW1]; have := World.alloc_heap_new (w.alloc (.deferred (some []))) (.loop (rec .ready none)); rwa [World.size_alloc] at this
  have hK1 : W1.heap[w.heap.size]? = some (.deferred (some [])) := by
    rw [← hW1]; exact (Below.heap_alloc _ _ _ (by simp)).trans (World.alloc_heap_new w _)
  have hb1 : Below w.heap.size w W1 := by
    rw [← hW1]; exact ((Below.refl _ w).alloc (Nat.le_refl _) _).alloc (by simp) _
  have hI1 : I 0 W1 := hI _ _ _ (Nat.le_refl _) h0 (Priv.of_below hb1)
  have put : ∀ (W : World) (o : Obj), Priv w.heap.size 2 W (W.putObj (w.heap.size + 1) o) := fun W o => Priv.put W _ o (by omega) (by omega)
  have up : ∀ {A B : World}, Priv w.heap.size 2 A B → Priv w.heap.size (2 + D) A B := fun h => h.wider (Nat.le_refl _) (by omega)
  refine ⟨w.heap.size + 1, [{ target := .collected w.heap.size, args := #[] }], W1, { target := .fn (.func gf) lb, args := #[.func (.yield (w.heap.size + 1)) #[] #[]] }, W1, gf,
    #[.func (.yield (w.heap.size + 1)) #[] #[]] ++ lb, W1, ?_, ?_, ?_, ?_, ?_, ?_⟩
  · rw [← hW1, hrec]; exact run_enterLoop_outer _ _ _ _ _
  · simp only [resolve, hg]
    simp [go_sem]
  · intro f' _; exact trivial
  · simp [invoke, go_sem, eg]
  · intro h; cases h
  · refine (hseq (n - 1) (w.heap.size + 1)
      (fun k W => I k W ∧ w.heap.size + 2 ≤ W.heap.size ∧ W.heap[w.heap.size + 1]? = some (.loop (rec .ready none)) ∧ W.heap[w.heap.size]? = some (.deferred (some [])))
      (fun k W => ∃ c, Ix c k W ∧ w.heap.size + 2 ≤ W.heap.size ∧ W.heap[w.heap.size + 1]? = some (.loop (rec .done (some c))) ∧ W.heap[w.heap.size]? = some (.deferred (some [])))
      W1 (fun k W h => hR k W h.1) ?_ ?_ ?_ ⟨hI1, by omega, hL1, hK1⟩).mono ?_
    · rintro k A B _ ⟨hi, hs, hl, hk⟩ hb
      rw [hs1] at hb
      exact ⟨hI _ _ _ (by omega) hi (hb.wider (by omega) (by omega)), Nat.le_trans hs hb.size, (hb.block _ (Array.getElem?_eq_some_iff.1 hl).1 (by omega)).trans hl, (hb.block _ (Array.getElem?_eq_some_iff.1 hk).1 (by omega)).trans hk⟩
    · rintro k A B _ ⟨c, hi, hs, hl, hk⟩ hb
      rw [hs1] at hb
      exact ⟨c, hIx _ _ _ _ (by omega) hi (hb.wider (by omega) (by omega)), Nat.le_trans hs hb.size, (hb.block _ (Array.getElem?_eq_some_iff.1 hl).1 (by omega)).trans hl, (hb.block _ (Array.getElem?_eq_some_iff.1 hk).1 (by omega)).trans hk⟩
    · rintro k W args hWD ⟨hi, hsz, hl, hk⟩ hlen hE
      rw [hs1] at hWD hE
      have hy := run_yield (P := P) (args := args) hl (by rw [hrec]; exact hps _ _ _ _ hE)
      rw [hrec] at hy
      refine ⟨fn, _, assign, body, hy, roundIn_of_wpIn hfn (hassign _ k W _ _ hWD hi hlen hE ?_)⟩
      clear hy
      intro a' Wa hba hia hax
      have hl0 := hl
      replace hl := (hba.block _ (Array.getElem?_eq_some_iff.1 hl).1).trans hl
      replace hk := (hba.block _ (Array.getElem?_eq_some_iff.1 hk).1).trans hk
      have hWa := hba.size
      have hW2 : w.heap.size + 2 ≤ Wa.heap.size := by omega
      have hlt : w.heap.size + 1 < Wa.heap.size := (Array.getElem?_eq_some_iff.1 hl).1
      refine ⟨_, run_beginRound hl (by rw [hrec]), ?_⟩
      have hl2 : (Wa.putObj (w.heap.size + 1) (.loop { rec .ready none with state := .busy })).heap[w.heap.size + 1]? = some (.loop { rec .ready none with state := .busy }) := World.putObj_heap_same hlt
      have hk2 : (Wa.putObj (w.heap.size + 1) (.loop { rec .ready none with state := .busy })).heap[w.heap.size]? = some (.deferred (some [])) := (World.putObj_heap_other (by omega)).trans hk
      have hp2 := put Wa (.loop { rec .ready none with state := .busy })
      refine wpIn_mono (hbody _ k a' _ (by omega) ⟨_, hl2⟩ (Nat.le_trans (Nat.le_trans hWD hWa) hp2.size) (hI _ _ _ (by omega) hia (up hp2)) (hAx _ _ _ _ (by omega) hax hp2) hlen) ?_
      have fin : ∀ (jump : Option Code) (W3 : World), KeepsOthers (Wa.putObj (w.heap.size + 1) (.loop { rec .ready none with state := .busy })) W3 → Stand (w.heap.size + 2) D (Wa.putObj (w.heap.size + 1) (.loop { rec .ready none with state := .busy })) W3 →
          (Instr.endRound (w.heap.size + 1) jump).run P W3 = .ok (.bool jump.isNone) (W3.putObj (w.heap.size + 1) (.loop (rec (if jump.isNone then .ready else .done) jump))) ∧
          W3.heap[w.heap.size + 1]? = some (.loop { rec .ready none with state := .busy }) ∧
          (W3.putObj (w.heap.size + 1) (.loop (rec (if jump.isNone then .ready else .done) jump))).heap[w.heap.size + 1]? = some (.loop (rec (if jump.isNone then .ready else .done) jump)) ∧
          (W3.putObj (w.heap.size + 1) (.loop (rec (if jump.isNone then .ready else .done) jump))).heap[w.heap.size]? = some (.deferred (some [])) ∧
          Priv w.heap.size (2 + D) W3 (W3.putObj (w.heap.size + 1) (.loop (rec (if jump.isNone then .ready else .done) jump))) ∧
          w.heap.size + 2 ≤ (W3.putObj (w.heap.size + 1) (.loop (rec (if jump.isNone then .ready else .done) jump))).heap.size ∧ w.heap.size ≤ W3.heap.size ∧
          Stand (w.heap.size + 2) D W (W3.putObj (w.heap.size + 1) (.loop (rec (if jump.isNone then .ready else .done) jump))) ∧ W.heap.size ≤ (W3.putObj (w.heap.size + 1) (.loop (rec (if jump.isNone then .ready else .done) jump))).heap.size := fun jump W3 hk3 hst => by
        have hl3 := hk3.same _ _ hl2 rfl
        have hs3 : W.heap.size ≤ W3.heap.size := Nat.le_trans hWa (Nat.le_trans hp2.size hk3.size)
        have hp3 := put W3 (.loop (rec (if jump.isNone then .ready else .done) jump))
        have := run_endRound (P := P) jump hl3
        rw [hrec] at this ⊢
        refine ⟨this, by rw [hrec] at hl3; exact hl3, World.putObj_heap_same (Array.getElem?_eq_some_iff.1 hl3).1, (World.putObj_heap_other (by omega)).trans (hk3.same _ _ hk2 rfl), by rw [hrec] at hp3; exact up hp3, by rw [hrec] at hp3; exact Nat.le_trans (Nat.le_trans (by omega) hs3) hp3.size, by omega, fun j h1 h2 => ?_, by rw [hrec] at hp3; exact Nat.le_trans hs3 hp3.size⟩
        rw [World.putObj_heap_other (by omega), hst j h1 h2, World.putObj_heap_other (by omega)]; exact hba.block j (by omega)
      rintro e a3 W3 hp
      cases e with
      | normal =>
        obtain ⟨hk3, hst, hi3⟩ := hp
        obtain ⟨hr, hl3, hl4, hk4, hp4, hs4, hs3, hst4, hs5⟩ := fin none W3 hk3 hst
        rw [← hs1] at hst4
        exact ⟨_, _, hr, hst4, hs5, .inl ⟨rfl, hI _ _ _ hs3 hi3 hp4, hs4, hl4, hk4⟩⟩
      | ret =>
        obtain ⟨hk3, hst, hi3⟩ := hp
        obtain ⟨hr, hl3, hl4, hk4, hp4, hs4, hs3, hst4, hs5⟩ := fin (some .ret) W3 hk3 hst
        rw [← hs1] at hst4
        exact ⟨_, _, hr, hst4, hs5, .inr ⟨rfl, .ret, hIx _ _ _ _ hs3 hi3 hp4, hs4, hl4, hk4⟩⟩
      | exit id =>
        obtain ⟨hk3, hst, hi3⟩ := hp
        obtain ⟨hr, hl3, hl4, hk4, hp4, hs4, hs3, hst4, hs5⟩ := fin (some (.exit id)) W3 hk3 hst
        rw [← hs1] at hst4
        exact ⟨_, _, hr, hst4, hs5, .inr ⟨rfl, .exit id, hIx _ _ _ _ hs3 hi3 hp4, hs4, hl4, hk4⟩⟩
      | goto t =>
        obtain ⟨hk3, hst, hi3⟩ := hp
        obtain ⟨hr, hl3, hl4, hk4, hp4, hs4, hs3, hst4, hs5⟩ := fin (some (.goto t)) W3 hk3 hst
        rw [← hs1] at hst4
        exact ⟨_, _, hr, hst4, hs5, .inr ⟨rfl, .goto t, hIx _ _ _ _ hs3 hi3 hp4, hs4, hl4, hk4⟩⟩
      | panic ch => exact hp.elim
      | outgrown => exact hp.elim
    · rintro e W2 ⟨⟨v, rfl⟩, (⟨hi, hs, hl, hk⟩ | ⟨k, c, hi, hs, hl, hk⟩)⟩
      · exact ⟨none, _, by have := run_endLoop (P := P) hl (by rw [hrec]; simp); rw [hrec] at this; exact this,
          hdone _ _ (Nat.le_refl _) (by omega) (Nat.le_trans (by omega : w.heap.size ≤ W2.heap.size) (put W2 _).size) (hI _ _ _ (by omega) hi (up (put W2 _))) ((World.putObj_heap_other (by omega)).trans hk)⟩
      · exact ⟨some c, _, by have := run_endLoop (P := P) hl (by rw [hrec]; simp); rw [hrec] at this; exact this,
          hstop _ c k _ (Nat.le_refl _) (hIx _ _ _ _ (by omega) hi (up (put W2 _))) ((World.putObj_heap_other (by omega)).trans hk)⟩
end Go.Proofs.Ythiemglckmociaa
