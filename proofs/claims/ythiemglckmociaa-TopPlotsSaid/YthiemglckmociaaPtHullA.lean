/- A range over an iterator that yields values in memory of its own, and keeps its state in blocks of its own; the loop variable may lie in a box. No program in sight. Conditions: as said in the law. -/
import Derived.Test.YthiemglckmociaaKit
import Derived.Test.YthiemglckmociaaPtChanged
import Derived.Test.YthiemglckmociaaPtRQuarter
import Derived.Test.YthiemglckmociaaPtBtw
import Derived.Test.YthiemglckmociaaPtNormal
import Derived.Test.YthiemglckmociaaHullG
import Derived.Test.YthiemglckmociaaPShelf
import Derived.Test.YthiemglckmociaaPtMin
import Derived.Lib.SlicesCompact
import Derived.Test.YthiemglckmociaaPtNormF
import Derived.Test.YthiemglckmociaaPtKnown
namespace Go.Proofs.Ythiemglckmociaa
open Go.RowKit Go.Shelf

/-- All but the D blocks from B on is kept. -/
structure Priv (B D : Nat) (w w' : World) : Prop where
  os : w'.os = w.os
  tape : w'.tape = w.tape
  output : w'.output = w.output
  size : w.heap.size ≤ w'.heap.size
  block : ∀ k, k < w.heap.size → ¬ (B ≤ k ∧ k < B + D) → w'.heap[k]? = w.heap[k]?
theorem Priv.refl (B D : Nat) (w : World) : Priv B D w w := ⟨rfl, rfl, rfl, Nat.le_refl _, fun _ _ _ => rfl⟩
theorem Priv.trans {B D : Nat} {a b c : World} (h : Priv B D a b) (k : Priv B D b c) : Priv B D a c :=
  ⟨k.os.trans h.os, k.tape.trans h.tape, k.output.trans h.output, Nat.le_trans h.size k.size, fun i hi hn => (k.block i (Nat.lt_of_lt_of_le hi h.size) hn).trans (h.block i hi hn)⟩
theorem Priv.below {B D : Nat} {w w' : World} (h : Priv B D w w') (hB : B ≤ w.heap.size) : Below B w w' :=
  ⟨h.os, h.tape, h.output, h.size, fun k hk => h.block k (Nat.lt_of_lt_of_le hk hB) (by omega)⟩
theorem Priv.wider {B D B' D' : Nat} {w w' : World} (h : Priv B D w w') (h1 : B' ≤ B) (h2 : B + D ≤ B' + D') : Priv B' D' w w' :=
  ⟨h.os, h.tape, h.output, h.size, fun k hk hn => h.block k hk (by omega)⟩
theorem Priv.of_below {B D : Nat} {w w' : World} (h : Below w.heap.size w w') : Priv B D w w' := ⟨h.os, h.tape, h.output, h.size, fun k hk _ => h.block k hk⟩
theorem Priv.put {B D : Nat} (w : World) (l : Nat) (o : Obj) (h1 : B ≤ l) (h2 : l < B + D) : Priv B D w (w.putObj l o) := by
  have h := grownBy_putObj' w l o
  exact ⟨h.os, h.tape, h.output, h.size, fun k hk hn => h.block k hk (fun e => by cases e; exact hn ⟨h1, h2⟩)⟩
theorem Priv.set {B D : Nat} (w : World) (p : Addr) (u : Value) (h1 : B ≤ p.block) (h2 : p.block < B + D) : Priv B D w (w.setCell p u) :=
  ⟨rfl, rfl, rfl, by simp [World.setCell], fun k _ hn => Below.heap_setCell _ _ _ _ (fun e => by subst e; exact hn ⟨h1, h2⟩)⟩
/-- The D blocks from B on stand as they stood. -/
def Stand (B D : Nat) (w w' : World) : Prop := ∀ k, B ≤ k → k < B + D → w'.heap[k]? = w.heap[k]?

/-- The iterator yields some values (none: without end); what it yields k-th is such as E says; it keeps its state in the D blocks that it makes first. -/
def IterV (P : Program) (g : Nat) (lb : Array Value) (E : Nat → Nat → World → Array Value → Prop) (N D : Nat) (R : World → Prop) : Prop :=
  ∀ (n l : Nat) (J Jx : Nat → World → Prop) (W : World), (∀ k W1, J k W1 → R W1) →
    (∀ k W1 W2, W.heap.size ≤ W1.heap.size → J k W1 → Priv W.heap.size D W1 W2 → J k W2) → (∀ k W1 W2, W.heap.size ≤ W1.heap.size → Jx k W1 → Priv W.heap.size D W1 W2 → Jx k W2) →
    (∀ k W1 args, W.heap.size + D ≤ W1.heap.size → J k W1 → k < N → E W.heap.size k W1 args → YieldAt Fence.wide (n - 1) P l args W1 fun e W' =>
      Stand W.heap.size D W1 W' ∧ W1.heap.size ≤ W'.heap.size ∧ ((e = .returned (.bool true) ∧ J (k + 1) W') ∨ (e = .returned (.bool false) ∧ Jx k W'))) → J 0 W →
    CallsIn Fence.wide n P g (#[.func (.yield l) #[] #[]] ++ lb) W fun e W' => (∃ v, e = .returned v) ∧ (J N W' ∨ ∃ k, Jx k W')

/-- How the body of a round may be left. -/
def bodyEndsV (B D : Nat) (I : Nat → World → Prop) (Ix : Code → Nat → World → Prop) (k : Nat) (W : World) : Exit → Act → World → Prop
  | .normal, _, W' => KeepsOthers W W' ∧ Stand B D W W' ∧ I (k + 1) W'
  | .ret, _, W' => KeepsOthers W W' ∧ Stand B D W W' ∧ Ix .ret k W'
  | .exit id, _, W' => KeepsOthers W W' ∧ Stand B D W W' ∧ Ix (.exit id) k W'
  | .goto t, _, W' => KeepsOthers W W' ∧ Stand B D W W' ∧ Ix (.goto t) k W'
  | .panic _, _, _ => False
  | .outgrown, _, _ => False

theorem wide_rangeFuncB {P : Program} {n : Nat} {g : Operand} {ps : Array Tmp} {assign body : Code} {Q : Exit → Act → World → Prop} {a : Act} {w : World}
    {gf : Nat} {lb : Array Value} (hg : a.eval g = .func (.func gf) #[] lb) (eg : ∀ args w, (callFunc gf args).run P w = .ok (.enter gf args) w)
    {E : Nat → Nat → World → Array Value → Prop} {N D : Nat} {R : World → Prop} (hseq : IterV P gf lb E N D R) (hps : ∀ B k W args, E B k W args → args.size = ps.size)
    (I : Nat → World → Prop) (Ix : Code → Nat → World → Prop)
    (hR : ∀ k W, I k W → R W)
    (hI : ∀ k W W', w.heap.size ≤ W.heap.size → I k W → Priv w.heap.size (2 + D) W W' → I k W')
    (hIx : ∀ c k W W', w.heap.size ≤ W.heap.size → Ix c k W → Priv w.heap.size (2 + D) W W' → Ix c k W')
    (h0 : I 0 w) (Ax : Nat → Act → World → Prop) (hAx : ∀ k a' W W', w.heap.size ≤ W.heap.size → Ax k a' W → Priv w.heap.size 2 W W' → Ax k a' W')
    (hassign : ∀ (l : Nat) (k : Nat) (W : World) (args : Array Value) (K : Act → World → Prop), w.heap.size + 2 + D ≤ W.heap.size → I k W → k < N → E (w.heap.size + 2) k W args → (∀ a' W', Below W.heap.size W W' → I k W' → Ax k a' W' → K a' W') →
      assign.wpIn (Fence.wide.inRound l) (n - 1 - 1) P (Exit.then K (fun _ _ _ => False)) { tmps := (ps.zip args).foldl (fun t (p, v) => t.setIfInBounds p v) a.tmps, defers := [] } W)
    (hbody : ∀ (l : Nat) (k : Nat) (a' : Act) (W : World), w.heap.size ≤ l → (∃ r, W.heap[l]? = some (.loop r)) → w.heap.size + 2 + D ≤ W.heap.size → I k W → Ax k a' W → k < N →
      body.wpIn (Fence.wide.inRound l) (n - 1 - 1) P (bodyEndsV (w.heap.size + 2) D I Ix k W) a' W)
    (hdone : ∀ (D' : Nat) (W : World), w.heap.size ≤ D' → D' < w.heap.size + 2 → w.heap.size ≤ W.heap.size → I N W → W.heap[D']? = some (.deferred (some [])) → Q .normal { a with defers := { target := .collected D', args := #[] } :: a.defers } W)
    (hstop : ∀ (D' : Nat) (c : Code) (k : Nat) (W : World), w.heap.size ≤ D' → Ix c k W → W.heap[D']? = some (.deferred (some [])) → c.wpIn Fence.wide n P Q { a with defers := { target := .collected D', args := #[] } :: a.defers } W) :
    (Code.rangeFunc g ps assign body).wpIn Fence.wide n P Q a w := by
  refine wpIn_rangeFunc ?_
  intro fn hfn
  obtain ⟨rec, hrec⟩ : ∃ rec : LoopState → Option Code → Loop, rec = fun st pe => { state := st, pending := pe, fn, tmps := a.tmps, params := ps, assign, body, defers := w.heap.size } := ⟨_, rfl⟩
  obtain ⟨W1, hW1⟩ : ∃ W1, (w.alloc (.deferred (some []))).alloc (.loop (rec .ready none)) = W1 := ⟨_, rfl⟩
  have hs1 : W1.heap.size = w.heap.size + 2 := by rw [← hW1]; simp
  have hL1 : W1.heap[w.heap.size + 1]? = some (.loop (rec .ready none)) := by
    rw [← hW1]; have := World.alloc_heap_new (w.alloc (.deferred (some []))) (.loop (rec .ready none)); rwa [World.size_alloc] at this
  have hK1 : W1.heap[w.heap.size]? = some (.deferred (some [])) := by
    rw [← hW1]; exact (Below.heap_alloc _ _ _ (by simp)).trans (World.alloc_heap_new w _)
  have hb1 : Below w.heap.size w W1 := by
    rw [← hW1]; exact ((Below.refl _ w).alloc (Nat.le_refl _) _).alloc (by simp) _
  have hI1 : I 0 W1 := hI _ _ _ (Nat.le_refl _) h0 (Priv.of_below hb1)
  have put : ∀ (W : World) (o : Obj), Priv w.heap.size 2 W (W.putObj (w.heap.size + 1) o) := fun W o => Priv.put W _ o (by omega) (by omega)
  have up : ∀ {A B : World}, Priv w.heap.size 2 A B → Priv w.heap.size (2 + D) A B := fun h => h.wider (Nat.le_refl _) (by omega)
  refine ⟨w.heap.size + 1, [{ target := .collected w.heap.size, args := #[] }], W1, { target := .fn (.func gf) lb, args := #[.func (.yield (w.heap.size + 1)) #[] #[]] }, W1, gf,
    #[.func (.yield (w.heap.size + 1)) #[] #[]] ++ lb, W1, ?_, ?_, ?_, ?_, ?_, ?_⟩
  · rw [← hW1, hrec]; exact run_enterLoop_outer _ _ _ _ _
  · simp only [resolve, hg]
    simp [go_sem]
  · intro f' _; exact trivial
  · simp [invoke, go_sem, eg]
  · intro h; cases h
  · refine (hseq (n - 1) (w.heap.size + 1)
      (fun k W => I k W ∧ w.heap.size + 2 ≤ W.heap.size ∧ W.heap[w.heap.size + 1]? = some (.loop (rec .ready none)) ∧ W.heap[w.heap.size]? = some (.deferred (some [])))
      (fun k W => ∃ c, Ix c k W ∧ w.heap.size + 2 ≤ W.heap.size ∧ W.heap[w.heap.size + 1]? = some (.loop (rec .done (some c))) ∧ W.heap[w.heap.size]? = some (.deferred (some [])))
      W1 (fun k W h => hR k W h.1) ?_ ?_ ?_ ⟨hI1, by omega, hL1, hK1⟩).mono ?_
    · rintro k A B _ ⟨hi, hs, hl, hk⟩ hb
      rw [hs1] at hb
      exact ⟨hI _ _ _ (by omega) hi (hb.wider (by omega) (by omega)), Nat.le_trans hs hb.size, (hb.block _ (Array.getElem?_eq_some_iff.1 hl).1 (by omega)).trans hl, (hb.block _ (Array.getElem?_eq_some_iff.1 hk).1 (by omega)).trans hk⟩
    · rintro k A B _ ⟨c, hi, hs, hl, hk⟩ hb
      rw [hs1] at hb
      exact ⟨c, hIx _ _ _ _ (by omega) hi (hb.wider (by omega) (by omega)), Nat.le_trans hs hb.size, (hb.block _ (Array.getElem?_eq_some_iff.1 hl).1 (by omega)).trans hl, (hb.block _ (Array.getElem?_eq_some_iff.1 hk).1 (by omega)).trans hk⟩
    · rintro k W args hWD ⟨hi, hsz, hl, hk⟩ hlen hE
      rw [hs1] at hWD hE
      have hy := run_yield (P := P) (args := args) hl (by rw [hrec]; exact hps _ _ _ _ hE)
      rw [hrec] at hy
      refine ⟨fn, _, assign, body, hy, roundIn_of_wpIn hfn (hassign _ k W _ _ hWD hi hlen hE ?_)⟩
      clear hy
      intro a' Wa hba hia hax
      have hl0 := hl
      replace hl := (hba.block _ (Array.getElem?_eq_some_iff.1 hl).1).trans hl
      replace hk := (hba.block _ (Array.getElem?_eq_some_iff.1 hk).1).trans hk
      have hWa := hba.size
      have hW2 : w.heap.size + 2 ≤ Wa.heap.size := by omega
      have hlt : w.heap.size + 1 < Wa.heap.size := (Array.getElem?_eq_some_iff.1 hl).1
      refine ⟨_, run_beginRound hl (by rw [hrec]), ?_⟩
      have hl2 : (Wa.putObj (w.heap.size + 1) (.loop { rec .ready none with state := .busy })).heap[w.heap.size + 1]? = some (.loop { rec .ready none with state := .busy }) := World.putObj_heap_same hlt
      have hk2 : (Wa.putObj (w.heap.size + 1) (.loop { rec .ready none with state := .busy })).heap[w.heap.size]? = some (.deferred (some [])) := (World.putObj_heap_other (by omega)).trans hk
      have hp2 := put Wa (.loop { rec .ready none with state := .busy })
      refine wpIn_mono (hbody _ k a' _ (by omega) ⟨_, hl2⟩ (Nat.le_trans (Nat.le_trans hWD hWa) hp2.size) (hI _ _ _ (by omega) hia (up hp2)) (hAx _ _ _ _ (by omega) hax hp2) hlen) ?_
      have fin : ∀ (jump : Option Code) (W3 : World), KeepsOthers (Wa.putObj (w.heap.size + 1) (.loop { rec .ready none with state := .busy })) W3 → Stand (w.heap.size + 2) D (Wa.putObj (w.heap.size + 1) (.loop { rec .ready none with state := .busy })) W3 →
          (Instr.endRound (w.heap.size + 1) jump).run P W3 = .ok (.bool jump.isNone) (W3.putObj (w.heap.size + 1) (.loop (rec (if jump.isNone then .ready else .done) jump))) ∧
          W3.heap[w.heap.size + 1]? = some (.loop { rec .ready none with state := .busy }) ∧
          (W3.putObj (w.heap.size + 1) (.loop (rec (if jump.isNone then .ready else .done) jump))).heap[w.heap.size + 1]? = some (.loop (rec (if jump.isNone then .ready else .done) jump)) ∧
          (W3.putObj (w.heap.size + 1) (.loop (rec (if jump.isNone then .ready else .done) jump))).heap[w.heap.size]? = some (.deferred (some [])) ∧
          Priv w.heap.size (2 + D) W3 (W3.putObj (w.heap.size + 1) (.loop (rec (if jump.isNone then .ready else .done) jump))) ∧
          w.heap.size + 2 ≤ (W3.putObj (w.heap.size + 1) (.loop (rec (if jump.isNone then .ready else .done) jump))).heap.size ∧ w.heap.size ≤ W3.heap.size ∧
          Stand (w.heap.size + 2) D W (W3.putObj (w.heap.size + 1) (.loop (rec (if jump.isNone then .ready else .done) jump))) ∧ W.heap.size ≤ (W3.putObj (w.heap.size + 1) (.loop (rec (if jump.isNone then .ready else .done) jump))).heap.size := fun jump W3 hk3 hst => by
        have hl3 := hk3.same _ _ hl2 rfl
        have hs3 : W.heap.size ≤ W3.heap.size := Nat.le_trans hWa (Nat.le_trans hp2.size hk3.size)
        have hp3 := put W3 (.loop (rec (if jump.isNone then .ready else .done) jump))
        have := run_endRound (P := P) jump hl3
        rw [hrec] at this ⊢
        refine ⟨this, by rw [hrec] at hl3; exact hl3, World.putObj_heap_same (Array.getElem?_eq_some_iff.1 hl3).1, (World.putObj_heap_other (by omega)).trans (hk3.same _ _ hk2 rfl), by rw [hrec] at hp3; exact up hp3, by rw [hrec] at hp3; exact Nat.le_trans (Nat.le_trans (by omega) hs3) hp3.size, by omega, fun j h1 h2 => ?_, by rw [hrec] at hp3; exact Nat.le_trans hs3 hp3.size⟩
        rw [World.putObj_heap_other (by omega), hst j h1 h2, World.putObj_heap_other (by omega)]; exact hba.block j (by omega)
      rintro e a3 W3 hp
      cases e with
      | normal =>
        obtain ⟨hk3, hst, hi3⟩ := hp
        obtain ⟨hr, hl3, hl4, hk4, hp4, hs4, hs3, hst4, hs5⟩ := fin none W3 hk3 hst
        rw [← hs1] at hst4
        exact ⟨_, _, hr, hst4, hs5, .inl ⟨rfl, hI _ _ _ hs3 hi3 hp4, hs4, hl4, hk4⟩⟩
      | ret =>
        obtain ⟨hk3, hst, hi3⟩ := hp
        obtain ⟨hr, hl3, hl4, hk4, hp4, hs4, hs3, hst4, hs5⟩ := fin (some .ret) W3 hk3 hst
        rw [← hs1] at hst4
        exact ⟨_, _, hr, hst4, hs5, .inr ⟨rfl, .ret, hIx _ _ _ _ hs3 hi3 hp4, hs4, hl4, hk4⟩⟩
      | exit id =>
        obtain ⟨hk3, hst, hi3⟩ := hp
        obtain ⟨hr, hl3, hl4, hk4, hp4, hs4, hs3, hst4, hs5⟩ := fin (some (.exit id)) W3 hk3 hst
        rw [← hs1] at hst4
        exact ⟨_, _, hr, hst4, hs5, .inr ⟨rfl, .exit id, hIx _ _ _ _ hs3 hi3 hp4, hs4, hl4, hk4⟩⟩
      | goto t =>
        obtain ⟨hk3, hst, hi3⟩ := hp
        obtain ⟨hr, hl3, hl4, hk4, hp4, hs4, hs3, hst4, hs5⟩ := fin (some (.goto t)) W3 hk3 hst
        rw [← hs1] at hst4
        exact ⟨_, _, hr, hst4, hs5, .inr ⟨rfl, .goto t, hIx _ _ _ _ hs3 hi3 hp4, hs4, hl4, hk4⟩⟩
      | panic ch => exact hp.elim
      | outgrown => exact hp.elim
    · rintro e W2 ⟨⟨v, rfl⟩, (⟨hi, hs, hl, hk⟩ | ⟨k, c, hi, hs, hl, hk⟩)⟩
      · exact ⟨none, _, by have := run_endLoop (P := P) hl (by rw [hrec]; simp); rw [hrec] at this; exact this,
          hdone _ _ (Nat.le_refl _) (by omega) (Nat.le_trans (by omega : w.heap.size ≤ W2.heap.size) (put W2 _).size) (hI _ _ _ (by omega) hi (up (put W2 _))) ((World.putObj_heap_other (by omega)).trans hk)⟩
      · exact ⟨some c, _, by have := run_endLoop (P := P) hl (by rw [hrec]; simp); rw [hrec] at this; exact this,
          hstop _ c k _ (Nat.le_refl _) (hIx _ _ _ _ (by omega) hi (up (put W2 _))) ((World.putObj_heap_other (by omega)).trans hk)⟩
end Go.Proofs.Ythiemglckmociaa
/- What slices.Values, AppendSeq and Collect give at points: the list again, in new memory. Conditions: the list lies in memory as said. -/
namespace Go.Proofs.Ythiemglckmociaa
open Go.RowKit Go.Shelf
attribute [local go_sem] Oper.semAt_some wide_fn

theorem Priv.cellE {B D : Nat} {w w' : World} (h : Priv B D w w') {g o : Nat} (hlt : g < w.heap.size) (hn : ¬ (B ≤ g ∧ g < B + D)) : w'.cell? ⟨g, o, none⟩ = w.cell? ⟨g, o, none⟩ := by
  simp only [World.cell?, h.block g hlt hn]
theorem own_priv {w w' : World} {base size n B D : Nat} {e : TypeId} {v : Value} {xs : List Value} (h : w.ownsRow base e size v n xs) (hp : Priv B D w w') (hb : B + D ≤ base) : w'.ownsRow base e size v n xs := by
  refine ⟨h.1, ?_⟩
  rcases h.2 with k | ⟨g, cap, cur, hv, hg, hh, rest⟩
  · exact .inl k
  · exact .inr ⟨g, cap, cur, hv, hg, (hp.block g (Array.getElem?_eq_some_iff.1 hh).1 (by omega)).trans hh, rest⟩
theorem row_keeps {w w' : World} {base size n : Nat} {e : TypeId} {v : Value} {xs : List Value} (hg : w.grownBy w' v.ownBlock) (ho : w.ownsRow base e size v n xs) : KeepsOthers w w' := by
  refine ⟨hg.size, fun k o hk hc => (hg.block k (Array.getElem?_eq_some_iff.1 hk).1 fun e1 => ?_).trans hk⟩
  obtain ⟨_, ⟨rfl, _⟩ | ⟨g, cap, cur, rfl, _, hh, _⟩⟩ := ho
  · cases e1
  · have e2 := Option.some.inj e1
    subst e2
    rw [hk] at hh
    injection hh with hh
    rw [hh] at hc; cases hc
theorem box5 {w w4 : World} {b : Nat} {ob o : Obj} {row : Option Nat} (h : w.heap[b]? = some ob) (hg : (w.alloc o).grownBy w4 row) (hr : row ≠ some b) : w4.heap[b]? = some ob := by
  have hlt := (Array.getElem?_eq_some_iff.1 h).1
  rw [hg.block b (by simp; exact Nat.lt_succ_of_lt hlt) (fun e => hr e.symm)]
  exact (Below.heap_alloc _ _ _ hlt).trans h
theorem box_of_alloc {w : World} {b : Nat} {o : Obj} (h : b = w.heap.size) : (w.alloc o).heap[b]? = some o := by subst h; exact World.alloc_heap_new w o
set_option maxHeartbeats 400000 in
theorem values_calls (a : Option Addr) (n c : Nat) (w : World) :
    Calls Try.prog 81 #[.slice a n c] w fun e w' => e = .returned (.func (.func 111) #[] #[.pointer (some ⟨w.heap.size, 0, none⟩)]) ∧ w.alloc (.cells #[.slice a n c] 22) = w' := by
  go_enter Try.func81, Try.ntmps81
  go_wp2
  go_ret
  exact ⟨rfl, rfl⟩
def PtE (l : List (Int × Int)) (_ k : Nat) (_ : World) (args : Array Value) : Prop := args = #[.agg #[.int .i64 (gi l (0, 0) k).1, .int .i64 (gi l (0, 0) k).2]]
set_option maxHeartbeats 1000000 in
theorem values_iter (b0 : Nat) (v : Value) (l : List (Int × Int)) (_ : l.length ≤ 1000000) :
    IterV Try.prog 111 #[.pointer (some ⟨b0, 0, none⟩)] (PtE l) l.length 0 (fun W => W.cell? ⟨b0, 0, none⟩ = some v ∧ PairsAt W v l) := by
  intro n ll J Jx W hR hJ hJx hY hJ0
  have hR0 := (hR 0 W hJ0).2
  obtain ⟨a, cap, rfl, hlc, hcm, _⟩ := hR0
  have HR := Lib.hid hR
  have HJ0 := Lib.hid hJ0
  have HY := Lib.hid hY
  have HJ := Lib.hid hJ
  have hc := (hR 0 W hJ0).1
  clear hR hJ hJx hY hJ0
  refine callsIn_of_wp Try.func111 rfl trivial ?_ rfl
  simp only [Try.ntmps111, List.size_toArray, List.length_cons, List.length_nil, Nat.reduceAdd, Nat.reduceSub, Array.replicate_succ, Array.replicate_zero, List.push_toArray, List.append_toArray, List.nil_append, List.cons_append]
  gi_wp2
  gi_loopw [7] (fun p wr => ∃ k : Nat, k ≤ l.length ∧ p = .int .i64 k ∧ Hid (J k wr) ∧ W.heap.size ≤ wr.heap.size) (fun p _ => l.length - (intOf p).toNat)
  case atStart => exact ⟨0, Nat.zero_le _, rfl, HJ0.out, Nat.le_refl _⟩
  case round =>
    obtain ⟨k, hk, rfl, hJk, hsz⟩ := hrel
    by_cases hlt : k < l.length
    · obtain ⟨hcb, hP⟩ := HR.out k wr hJk.out
      obtain ⟨b, o, rfl, hB, c1, c2⟩ := hP.cellAt hlt
      have HRd := Lib.hid (HY.out k (wr.alloc (.cells #[.int .i64 (gi l (0, 0) k).1, .int .i64 (gi l (0, 0) k).2] 32)) _ (by simp; omega) (HJ.out _ _ _ hsz hJk.out (Priv.of_below (below_new (Below.refl _ _) _))) hlt rfl)
      clear hP
      obtain ⟨fn, tmps, assign, body, hy, hRd0⟩ := HRd.out
      have hRd := Lib.hid hRd0
      clear hRd0
      gi_wp2
      refine ⟨fun h => (by cases h), ?_⟩
      refine hRd.out.mono ?_
      rintro e W3 ⟨_, hs3, (⟨rfl, hJ3⟩ | ⟨rfl, hJx3⟩)⟩
      · gi_wp2
        go_roundw
        case rel => exact ⟨k + 1, by omega, by go_num, hJ3, by simp at hs3; omega⟩
        case measure => simp [intOf]; omega
      · gi_wp2
        refine bodyPost_ret (results_none rfl _ _ _) rfl ?_
        exact ⟨⟨_, rfl⟩, .inr ⟨k, hJx3⟩⟩
    · obtain rfl : k = l.length := by omega
      gi_wp2
      go_end0
      exact ⟨⟨_, rfl⟩, .inl hJk.out⟩
theorem fst_succ {l : List (Int × Int)} {k : Nat} (h : k < l.length) : l.take (k + 1) = l.take k ++ [gi l (0, 0) k] := by
  rw [List.take_add_one, List.getElem?_eq_getElem h, gi_lt h]; rfl
set_option maxHeartbeats 4000000 in
set_option maxRecDepth 100000 in
theorem appendSeqP_calls (b0 : Nat) (v : Value) (l : List (Int × Int)) (w : World) (hc : w.cell? ⟨b0, 0, none⟩ = some v) (h : PairsAt w v l) (hl : l.length ≤ 1000) :
    Calls Try.prog 119 #[.slice none 0 0, .func (.func 111) #[] #[.pointer (some ⟨b0, 0, none⟩)]] w fun e w' => ∃ v', e = .returned v' ∧ w'.ownsRow w.heap.size 32 2 v' l.length (cells2 l) ∧ Below w.heap.size w w' := by
  have HT := Lib.hid h
  have hb0 : b0 < w.heap.size := block_lt_of_cell hc
  have HCL := Lib.hid hc
  obtain ⟨i0, hi0, hz0, hi1, hi2⟩ := info_parts infoPoint
  clear hc
  refine (callsIn_wide (n := 9)).1 ?_
  refine callsIn_of_wp_marks Try.func119 rfl trivial ?_ rfl
  simp only [Try.ntmps119, List.size_toArray, List.length_cons, List.length_nil, Nat.reduceAdd, Nat.reduceSub, Array.replicate_succ, Array.replicate_zero, List.push_toArray, List.append_toArray, List.nil_append, List.cons_append]
  gi_wp2
  obtain ⟨W0, hW0⟩ : ∃ W0, w.alloc (.cells #[.slice none 0 0] 22) = W0 := ⟨_, rfl⟩
  rw [hW0]
  have hB0 : Below w.heap.size w W0 := by rw [← hW0]; (repeat' (first | exact Below.refl _ _ | assumption | refine below_new ?_ _ | refine below_draw ?_ | refine below_tail (by assumption) ?_ | refine below_set ?_ (by first | omega | (simp <;> omega)) _))
  have hsz : W0.heap.size = w.heap.size + 1 := by rw [← hW0]; simp [go_sem]
  have e1 : W0.heap[w.heap.size]? = some (.cells #[.slice none 0 0] 22 (0, 0)) := by
    rw [← hW0]; exact box_of_alloc rfl
  clear hW0
  have pv : ∀ {W W' : World}, W0.heap.size ≤ W.heap.size → Priv W0.heap.size 2 W W' → Below (w.heap.size + 1) W W' := fun h hp => hp.below h |>.mono (by omega)
  refine wide_rangeFuncB (gf := 111) (lb := #[.pointer (some ⟨b0, 0, none⟩)]) (D := 0) rfl (enters_of Try.func111 (by kernel_rfl) rfl) (values_iter b0 v l (by omega)) (fun B k W args h => by rw [h]; rfl)
    (fun k W => Below w.heap.size w W ∧ k ≤ l.length ∧ W0.heap.size ≤ W.heap.size ∧ ∃ sv, W.heap[w.heap.size]? = some (.cells #[sv] 22 (0, 0)) ∧ Hid (W.ownsRow (W0.heap.size + 2) 32 2 sv (l.take k).length (cells2 (l.take k))))
    (fun _ _ _ => False)
    (fun k W ⟨hB, hk, hs, sv, f1, f2⟩ => ⟨(hB.cell (p := ⟨b0, 0, none⟩) hb0).trans HCL.out, HT.out.below hB⟩)
    (fun k W W' _ ⟨hB, hk, hs, sv, f1, f2⟩ hb => ⟨hB.trans ((pv hs hb).mono (by omega)), hk, Nat.le_trans hs hb.size, sv, ((pv hs hb).block _ (by omega)).trans f1, own_priv f2.out hb (by omega)⟩)
    (fun _ _ _ _ _ h _ => h)
    ?start
    (fun k a' W => ∃ g : Nat, a' = { tmps := #[.slice none 0 0, .func (.func 111) #[] #[.pointer (some ⟨b0, 0, none⟩)], .pointer (some ⟨w.heap.size, 0, none⟩), undef, .slice none 0 0, .pointer (some ⟨g, 0, none⟩), .func (.func 111) #[] #[.pointer (some ⟨b0, 0, none⟩)], .agg #[.int .i64 (gi l (0, 0) k).1, .int .i64 (gi l (0, 0) k).2], undef, undef, undef, undef, undef], defers := [] } ∧ W.cell? ⟨g, 0, none⟩ = some (.int .i64 (gi l (0, 0) k).1) ∧ W.cell? ⟨g, 1, none⟩ = some (.int .i64 (gi l (0, 0) k).2) ∧ W0.heap.size + 2 ≤ g ∧ g < W.heap.size)
    (fun k a' W W' _ ⟨g, ha, c0, c1, hg1, hg2⟩ hp => ⟨g, ha, (hp.cellE hg2 (by omega)).trans c0, (hp.cellE hg2 (by omega)).trans c1, hg1, Nat.lt_of_lt_of_le hg2 hp.size⟩) ?assign ?body ?done ?stop
  case start => exact ⟨hB0, Nat.zero_le _, Nat.le_refl _, _, e1, World.ownsRow_nil _ _ _ _⟩
  case stop => exact fun _ _ _ _ _ h _ => h.elim
  case assign =>
    rintro l' k W args K hsW ⟨hB, hk, hs, sv, f1, f2⟩ hm rfl hK
    gi_wp2
    have hb3 := below_new (Below.refl W.heap.size W) (.cells #[.int .i64 (gi l (0, 0) k).1, .int .i64 (gi l (0, 0) k).2] 32)
    exact hK _ _ hb3 ⟨hB.trans (hb3.mono (by omega)), hk, Nat.le_trans hs hb3.size, sv, (hb3.block _ (by omega)).trans f1, own_below f2.out hb3⟩ ⟨_, rfl, by simp [go_sem], by simp [go_sem], by omega, by simp⟩
  case body =>
    rintro l' k a' W hl' hr hsW ⟨hB, hk, hs, sv, f1, f2⟩ ⟨g, rfl, c0, c1, hg1, hg2⟩ hkn
    have HOV := f2
    have HF1 := Lib.hid f1
    have hml : (l.take k).length = k := by rw [List.length_take]; omega
    obtain ⟨ta, tc, rfl⟩ := own_slice f2.out
    have HTS := Lib.hid (fst_succ hkn)
    have hcb : W.cell? ⟨w.heap.size, 0, none⟩ = some (.slice ta k tc) := (cell_of_block f1 0).trans (by rw [hml]; rfl)
    have hlb : w.heap.size < W.heap.size := by omega
    rw [hml] at HOV HF1
    have HSW := Lib.hid hsW
    have HML := Lib.hid hml
    clear f1 f2 hsW hml
    generalize gi l (0, 0) k = x at *
    gi_wp2_with (gi_at_builtin; refine wpListIn_append_own _ rfl _ _ 22 rfl (W0.heap.size + 2) 32 i0 (.agg #[.int .i64 0, .int .i64 0]) 2 16 Try.underlying22 hi0 hz0 hi1 hi2 rfl (by decide) _ _ _ rfl (HOV.out.alloc _) ⟨W.heap.size, 0, none⟩ 1 1 (cells2 [x]) rfl rfl (app_src2 _ _ _) (cells2_one _) (by unfold maxLen; omega) (by omega) (by have := HSW.out; simp; omega) ?_; intro v' w4 hown4 hgrow _; obtain ⟨va', vc', rfl⟩ := own_slice hown4; have HX4 : Hid (w4.heap[w.heap.size]? = some (.cells #[.slice ta k tc] 22 (0, 0))) := box5 HF1.out hgrow (ne_old HOV.out (by omega)); have hcb4 : w4.cell? ⟨w.heap.size, 0, none⟩ = some (.slice ta k tc) := (cell_of_block HX4.out 0).trans rfl; have hfb4 : w4.frozen? ⟨w.heap.size, 0, none⟩ = false := frozen_of_block HX4.out 0)
    have hKO : KeepsOthers W w4 := (keeps_of_below (by (repeat' (first | exact Below.refl _ _ | assumption | refine below_new ?_ _ | refine below_draw ?_ | refine below_tail (by assumption) ?_ | refine below_set ?_ (by first | omega | (simp <;> omega)) _)) : Below W.heap.size W (W.alloc (.cells #[.int .i64 x.1, .int .i64 x.2] 32)))).trans (row_keeps hgrow (HOV.out.alloc _))
    have hszw := HSW.out
    refine ⟨hKO.trans (KeepsOthers.setCell _ _ _), fun j h1 h2 => by omega, ?_, by omega, ?_, _, (block_set HX4.out 0 _).trans (by simp; rfl), ?_⟩
    · exact below_set ((hB.alloc hB.size _).grown hgrow (by simp; omega) (fun j hj => by have := (HOV.out.lt j hj).1; omega)) (Nat.le_refl _) _
    · have := hgrow.size; simp at this ⊢; omega
    · unfold Hid
      rw [HTS.out]
      have ho := own_more2 (l := l.take k) hown4 (by rw [HML.out])
      rw [List.length_append, HML.out] at ho ⊢
      exact own_priv ho (Priv.set (B := w.heap.size) (D := 1) _ _ _ (Nat.le_refl _) (by show w.heap.size < w.heap.size + 1; omega)) (by omega)
  case done =>
    rintro D W hD hD2 hsW ⟨hB, hk, hs, sv, f1, f2⟩ hK
    rw [List.take_length] at f2
    have hcb : W.cell? ⟨w.heap.size, 0, none⟩ = some sv := (cell_of_block f1 0).trans rfl
    gi_wp2
    refine ⟨by simp, .inl ⟨_, _, rfl, run_takeDeferred hK, ?_⟩⟩
    have hP := Priv.put (B := W0.heap.size) (D := 2) W D (.deferred none) hD hD2
    refine ⟨sv, by simp [results, Try.f119, go_sem], _, rfl, own_base (own_priv f2.out hP (Nat.le_refl _)) (by omega), hB.trans ((hP.below hs).mono (by omega))⟩
set_option maxHeartbeats 1000000 in
theorem collectP_calls (b0 : Nat) (v : Value) (l : List (Int × Int)) (w : World) (hc : w.cell? ⟨b0, 0, none⟩ = some v) (h : PairsAt w v l) (hl : l.length ≤ 1000) :
    Calls Try.prog 109 #[.func (.func 111) #[] #[.pointer (some ⟨b0, 0, none⟩)]] w fun e w' => ∃ v', e = .returned v' ∧ w'.ownsRow w.heap.size 32 2 v' l.length (cells2 l) ∧ Below w.heap.size w w' := by
  have H := Lib.hid (appendSeqP_calls b0 v l w hc h hl)
  clear hc h
  go_enter Try.func109, Try.ntmps109
  go_wp2_with (go_at_call 119; refine H.out.mono ?_; rintro e w1 ⟨v1, rfl, hr1, hb1⟩; have HR := Lib.hid hr1; clear hr1)
  refine bodyPost_ret (v := v1) (by simp [results, Try.f109, go_sem]) rfl ?_
  exact ⟨_, rfl, HR.out, by (repeat' (first | exact Below.refl _ _ | assumption | refine below_new ?_ _ | refine below_draw ?_ | refine below_tail (by assumption) ?_ | refine below_set ?_ (by first | omega | (simp <;> omega)) _))⟩
end Go.Proofs.Ythiemglckmociaa
/- What chain of package plot gives: the points of one side of the hull, without the last one. Conditions: the list lies in memory as said, it is not empty, coordinates are small. -/
namespace Go.Proofs.Ythiemglckmociaa
open Go.RowKit

theorem cells2_take : ∀ (l : List (Int × Int)) (m : Nat), cells2 (l.take m) = (cells2 l).take (m * 2)
  | [], m => by simp [cells2]
  | x :: l, 0 => by simp [cells2]
  | x :: l, m + 1 => by
    rw [List.take_succ_cons]
    show _ :: _ :: cells2 (l.take m) = _
    rw [cells2_take l m, show (m + 1) * 2 = m * 2 + 1 + 1 by omega]
    rfl
theorem own_cut {w : World} {base e n m : Nat} {g cap : Nat} {l : List (Int × Int)} (h : w.ownsRow base e 2 (.slice (some ⟨g, 0, none⟩) n cap) n (cells2 l)) (hm : m ≤ n) :
    w.ownsRow base e 2 (.slice (some ⟨g, 0, none⟩) m cap) m (cells2 (l.take m)) := by
  rw [cells2_take]
  obtain ⟨h1, ⟨k, _⟩ | ⟨g', cap', cur, hv, hb, hh, c1, c2, c3, c4⟩⟩ := h
  · cases k
  · cases hv
    refine ⟨by rw [List.length_take, h1]; omega, .inr ⟨g, cap, cur, rfl, hb, hh, Nat.le_trans hm c1, c2, c3, ?_⟩⟩
    rw [← c4, List.take_take, Nat.min_eq_left (by omega)]
/-- The stack of corners behind the first k points. -/
def chK (l : List (Int × Int)) (k : Nat) : List (Int × Int) := (l.take k).foldl (fun st x => x :: popF x st) []
theorem chK_succ {l : List (Int × Int)} {k : Nat} (h : k < l.length) : chK l (k + 1) = gi l (0, 0) k :: popF (gi l (0, 0) k) (chK l k) := by
  unfold chK
  rw [List.take_add_one, List.foldl_append, List.getElem?_eq_getElem h, gi_lt h]
  rfl
theorem chK_all (l : List (Int × Int)) : chK l l.length = chainR l := by unfold chK chainR; rw [List.take_length]
theorem chK_pos {l : List (Int × Int)} (h : 0 < l.length) : ∃ x r, chainR l = x :: r := by
  have := chK_succ (l := l) (k := l.length - 1) (by omega)
  rw [show l.length - 1 + 1 = l.length by omega, chK_all] at this
  exact ⟨_, _, this⟩
theorem popF_stop {x : Int × Int} {st : List (Int × Int)} (h : ¬ 1 < st.length) : popF x st = st := by
  match st, h with
  | [], _ => rfl
  | [_], _ => rfl
  | b :: a :: r, h => simp at h
theorem popF_yes {x a b : Int × Int} {r : List (Int × Int)} (h : turn a b x ≤ 0) : popF x (b :: a :: r) = popF x (a :: r) := by
  rw [popF, if_pos h]
theorem popF_no {x a b : Int × Int} {r : List (Int × Int)} (h : ¬ turn a b x ≤ 0) : popF x (b :: a :: r) = b :: a :: r := by
  rw [popF, if_neg h]
theorem stack_get {a b : Int × Int} {r : List (Int × Int)} : gi (b :: a :: r).reverse (0, 0) r.length = a ∧ gi (b :: a :: r).reverse (0, 0) (r.length + 1) = b := by
  have e : (b :: a :: r).reverse = r.reverse ++ [a, b] := by simp
  rw [e]
  constructor
  · unfold gi
    rw [List.getElem?_append_right (by simp)]; simp
  · unfold gi
    rw [List.getElem?_append_right (by simp)]; simp
theorem stack_take {b : Int × Int} {r : List (Int × Int)} : (b :: r).reverse.take r.length = r.reverse := by
  rw [List.reverse_cons, List.take_append_of_le_length (by simp), List.take_of_length_le (by simp)]
set_option maxHeartbeats 4000000 in
set_option maxRecDepth 100000 in
theorem chain_calls (v : Value) (l : List (Int × Int)) (w : World) (h : PairsAt w v l) (h0 : 0 < l.length) (hn : l.length ≤ 1000) (hbd : ∀ y ∈ l, bdP y) :
    Calls Try.prog 83 #[v] w fun e w' => ∃ v', e = .returned v' ∧ w'.ownsRow w.heap.size 32 2 v' (chainF l).length (cells2 (chainF l)) ∧ Below w.heap.size w w' := by
  have HP := Lib.hid h
  have HBD := Lib.hid hbd
  obtain ⟨sa, cap, rfl, hlc, hcm, -⟩ := h
  obtain ⟨i0, hi0, hz0, hi1, hi2⟩ := info_parts infoPoint
  clear hbd
  go_enter Try.func83, Try.ntmps83
  go_wp2_with fail
  go_loopw [3, 8] (fun s i wr => ∃ k : Nat, k ≤ l.length ∧ i = .int .i64 k ∧ wr.ownsRow w.heap.size 32 2 s (chK l k).length (cells2 (chK l k).reverse) ∧ Hid (∀ y ∈ chK l k, bdP y) ∧ (chK l k).length ≤ k ∧ Below w.heap.size w wr) (fun _ i _ => l.length - (intOf i).toNat)
  case atStart => exact ⟨0, Nat.zero_le _, rfl, World.ownsRow_nil _ _ _ _, fun y hy => (by cases hy), Nat.le_refl _, Below.refl _ _⟩
  case round =>
    obtain ⟨k, hk, rfl, hown, hst, hsk, hbw⟩ := hrel
    by_cases hlt : k < l.length
    · obtain ⟨b, o, rfl, hB, c0, c1⟩ := HP.out.cellB hbw hlt
      have HSU := Lib.hid (chK_succ hlt)
      have hx : bdP (gi l (0, 0) k) := HBD.out _ (by rw [gi_lt hlt]; exact List.getElem_mem hlt)
      obtain ⟨st, hste⟩ : ∃ st, chK l k = st := ⟨_, rfl⟩
      rw [hste] at hown hst hsk HSU
      clear hste
      generalize gi l (0, 0) k = x at *
      obtain ⟨sx, cx, rfl⟩ := own_slice hown
      obtain ⟨W1, hW1⟩ : ∃ W1, W1 = wr := ⟨_, rfl⟩
      subst hW1
      have hbs := hbw.size
      go_wp2_with fail
      obtain ⟨p, hp⟩ : ∃ p, p = W1.heap.size := ⟨_, rfl⟩
      have hwp : w.heap.size ≤ p := by omega
      have g0 : (W1.alloc (.cells #[.int .i64 x.1, .int .i64 x.2] 32)).cell? ⟨p, 0, none⟩ = some (.int .i64 x.1) := by rw [hp]; simp [go_sem]
      have g1 : (W1.alloc (.cells #[.int .i64 x.1, .int .i64 x.2] 32)).cell? ⟨p, 1, none⟩ = some (.int .i64 x.2) := by rw [hp]; simp [go_sem]
      have g2 : p < (W1.alloc (.cells #[.int .i64 x.1, .int .i64 x.2] 32)).heap.size := by rw [hp]; simp
      have hown1 := hown.alloc (.cells #[.int .i64 x.1, .int .i64 x.2] 32)
      have hbw1 : Below w.heap.size w (W1.alloc (.cells #[.int .i64 x.1, .int .i64 x.2] 32)) := by (repeat' (first | exact Below.refl _ _ | assumption | refine below_new ?_ _ | refine below_draw ?_ | refine below_tail (by assumption) ?_ | refine below_set ?_ (by first | omega | (simp <;> omega)) _))
      rw [← hp]
      generalize hWe : W1.alloc (.cells #[.int .i64 x.1, .int .i64 x.2] 32) = W2 at *
      clear hWe c0 c1 hown hbw hp
      go_loopw [3] (fun s wr => ∃ st' : List (Int × Int), popF x st' = popF x st ∧ (∀ y ∈ st', bdP y) ∧ st'.length ≤ st.length ∧ wr.ownsRow w.heap.size 32 2 s st'.length (cells2 st'.reverse) ∧ Below w.heap.size w wr ∧ wr.cell? ⟨p, 0, none⟩ = some (.int .i64 x.1) ∧ wr.cell? ⟨p, 1, none⟩ = some (.int .i64 x.2) ∧ p < wr.heap.size) (fun s _ => lenV s)
      case atStart => exact ⟨st, rfl, hst.out, Nat.le_refl _, hown1, hbw1, g0, g1, g2⟩
      case round =>
        clear g0 g1 g2 hown1 hbw1
        obtain ⟨st', e1, e2, e3, hown2, hb2, q0, q1, hq⟩ := hrel
        have HE := Lib.hid e1
        clear e1
        by_cases h2 : 1 < st'.length
        · obtain ⟨pb, pa, r, rfl⟩ : ∃ pb pa r, st' = pb :: pa :: r := by
            match st', h2 with
            | pb :: pa :: r, _ => exact ⟨pb, pa, r, rfl⟩
          obtain ⟨g, cx2, rfl, hg1, hg2, hgc, hgm⟩ := own_slice0 hown2 (by omega)
          obtain ⟨n, hnn⟩ : ∃ n, n = (pb :: pa :: r).length := ⟨_, rfl⟩
          obtain ⟨m, hmm⟩ : ∃ m, m = r.length := ⟨_, rfl⟩
          have hnm : n = m + 1 + 1 := by rw [hnn, hmm]; rfl
          obtain ⟨s1, s2⟩ := stack_get (a := pa) (b := pb) (r := r)
          have d0 := (hown2.cellAt (m * 2) (by omega)).trans (cells2_get1 _ m (by simp; omega))
          have d1 := (hown2.cellAt (m * 2 + 1) (by omega)).trans (cells2_get2 _ m (by simp; omega))
          have d2 := (hown2.cellAt ((m + 1) * 2) (by omega)).trans (cells2_get1 _ (m + 1) (by simp; omega))
          have d3 := (hown2.cellAt ((m + 1) * 2 + 1) (by omega)).trans (cells2_get2 _ (m + 1) (by simp; omega))
          rw [hmm, s1, ← hmm] at d0 d1
          rw [hmm, s2, ← hmm] at d2 d3
          have HA := e2 pa (by simp)
          have HB := e2 pb (by simp)
          have HOW := Lib.hid hown2
          have HE2 := Lib.hid e2
          obtain ⟨j, hj⟩ : ∃ j, j = m + 1 := ⟨_, rfl⟩
          rw [← hj] at d2 d3
          rw [← hnn] at HOW hgc ⊢
          have hNN := Lib.hid hnn
          have hMM := Lib.hid hmm
          have hmn : m < n := by omega
          have hjn : j < n := by omega
          have HJ := Lib.hid hj
          have hn10 : n ≤ 1000 := by omega
          have HNM := Lib.hid hnm
          have hw2 : IntKind.i64.wrap ((n : Int) - 2) = (m : Int) := by rw [IntWalk.i64_in _ (by omega)]; omega
          have hw1 : IntKind.i64.wrap ((n : Int) - 1) = (j : Int) := by rw [IntWalk.i64_in _ (by omega)]; omega
          have x0 : decide ((1 : Int) < (n : Int)) = true := decide_eq_true (by omega)
          obtain ⟨t, ht⟩ : ∃ t, turn pa pb x = t := ⟨_, rfl⟩
          have HT := Lib.hid ht
          clear ht hown2 e2 s1 s2 hnn hmm hj hnm h2
          have k0 := fun dr os => cell_regrown d0 dr os
          have k1 := fun dr os => cell_regrown d1 dr os
          have k2 := fun dr os => cell_regrown d2 dr os
          have k3 := fun dr os => cell_regrown d3 dr os
          have k4 := fun dr os => cell_regrown q0 dr os
          have k5 := fun dr os => cell_regrown q1 dr os
          by_cases htz : t ≤ 0
          · have x1 : decide (t ≤ 0) = true := decide_eq_true htz
            go_wp2_with fail
            refine region_q mixed (by kernel_rfl) ?_
            repeat (go_big_quiet_step ((go_at_call 66; exact Calls.regrown_of (turn_is _ HA HB hx HT.out))))
            refine wpQuiet_nil ?_
            intro wq hbq
            clear k0 k1 k2 k3 k4 k5 hw1 hw2
            have b0 : (0 : Int) ≤ (j : Int) := by omega
            have b1 : (j : Int) ≤ (n : Int) := by omega
            have b3 : (j : Int) ≤ (cx2 : Int) := by omega
            have y1 : (n : Int) - 1 = (j : Int) := by have := HJ.out; have := HNM.out; omega
            go_wp2_with fail
            go_roundw
            case rel => exact ⟨pa :: r, (popF_yes (by rw [HT.out]; exact htz)).symm.trans HE.out, fun y hy => HE2.out y (List.mem_cons_of_mem _ hy), by have := hNN.out; simp at this e3 ⊢; omega, by
              have hc := own_cut (own_below HOW.out hbq) (show j ≤ n by omega)
              have ej : j = (pa :: r).length := by rw [HJ.out, hMM.out]; rfl
              rw [ej, stack_take] at hc
              rw [ej]; exact hc, by (repeat' (first | exact Below.refl _ _ | assumption | refine below_new ?_ _ | refine below_draw ?_ | refine below_tail (by assumption) ?_ | refine below_set ?_ (by first | omega | (simp <;> omega)) _)), (hbq.cell (p := ⟨p, 0, none⟩) hq).trans q0, (hbq.cell (p := ⟨p, 1, none⟩) hq).trans q1, Nat.lt_of_lt_of_le hq hbq.size⟩
            case measure => simp [lenV]; omega
          · have x1 : decide (t ≤ 0) = false := decide_eq_false htz
            go_wp2_with fail
            refine region_q mixed (by kernel_rfl) ?_
            repeat (go_big_quiet_step ((go_at_call 66; exact Calls.regrown_of (turn_is _ HA HB hx HT.out))))
            refine wpQuiet_nil ?_
            intro wq hbq
            clear k0 k1 k2 k3 k4 k5 hw1 hw2
            have hbv : Below w.heap.size w wq := by (repeat' (first | exact Below.refl _ _ | assumption | refine below_new ?_ _ | refine below_draw ?_ | refine below_tail (by assumption) ?_ | refine below_set ?_ (by first | omega | (simp <;> omega)) _))
            have q0' := (hbq.cell (p := ⟨p, 0, none⟩) hq).trans q0
            have q1' := (hbq.cell (p := ⟨p, 1, none⟩) hq).trans q1
            have HO := Lib.hid (own_below HOW.out hbq)
            have hsz := hbv.size
            clear q0 q1
            go_wp2_with (at_builtin; refine wpList_append_own _ rfl _ _ 22 rfl w.heap.size 32 i0 (.agg #[.int .i64 0, .int .i64 0]) 2 16 Try.underlying22 hi0 hz0 hi1 hi2 rfl (by decide) _ _ _ rfl (HO.out.alloc _) ⟨wq.heap.size, 0, none⟩ 1 1 (cells2 [x]) rfl rfl (app_src2 _ _ _) (cells2_one _) (by unfold maxLen; omega) (by omega) (by have := hbv.size; simp; omega) ?_; intro v' w4 hown4 hgrow _)
            have hb4 := (hbv.alloc hsz _).grown hgrow (by simp; omega) (own_block_le2 HO.out)
            go_roundw
            case rel =>
              have hes : chK l (k + 1) = x :: pb :: pa :: r := by rw [HSU.out, ← HE.out, popF_no (by rw [HT.out]; omega)]
              refine ⟨k + 1, by omega, by go_num, ?_, ?_, ?_, hb4⟩
              · rw [hes, show (x :: pb :: pa :: r).reverse = (pb :: pa :: r).reverse ++ [x] from List.reverse_cons]
                have := own_more2 (l := (pb :: pa :: r).reverse) hown4 (by rw [hNN.out, List.length_reverse])
                rw [List.length_append, List.length_reverse] at this
                exact this
              · intro y hy
                rw [hes] at hy
                rcases List.mem_cons.1 hy with rfl | hy
                · exact hx
                · exact HE2.out y hy
              · rw [hes]; have := hNN.out; simp at this e3 ⊢; omega
            case measure => simp [intOf]; omega
        · have hs' := popF_stop (x := x) h2
          obtain ⟨n, hnn⟩ : ∃ n, n = st'.length := ⟨_, rfl⟩
          obtain ⟨sy, cy, rfl⟩ := own_slice hown2
          have HOW := Lib.hid hown2
          rw [← hnn] at HOW
          have x0 : decide ((1 : Int) < (n : Int)) = false := decide_eq_false (by omega)
          have hn1 : n ≤ 1 := by omega
          rw [← hnn]
          have hNN := Lib.hid hnn
          have HS := Lib.hid hs'
          have HE2 := Lib.hid e2
          clear hnn hown2 h2 hs' e2
          go_wp2_with fail
          refine region_q mixed (by kernel_rfl) ?_
          repeat (go_big_quiet_step (fail))
          refine wpQuiet_nil ?_
          intro wq hbq
          have hbv : Below w.heap.size w wq := by (repeat' (first | exact Below.refl _ _ | assumption | refine below_new ?_ _ | refine below_draw ?_ | refine below_tail (by assumption) ?_ | refine below_set ?_ (by first | omega | (simp <;> omega)) _))
          have q0' := (hbq.cell (p := ⟨p, 0, none⟩) hq).trans q0
          have q1' := (hbq.cell (p := ⟨p, 1, none⟩) hq).trans q1
          have HO := Lib.hid (own_below HOW.out hbq)
          have hsz := hbv.size
          clear q0 q1
          go_wp2_with (at_builtin; refine wpList_append_own _ rfl _ _ 22 rfl w.heap.size 32 i0 (.agg #[.int .i64 0, .int .i64 0]) 2 16 Try.underlying22 hi0 hz0 hi1 hi2 rfl (by decide) _ _ _ rfl (HO.out.alloc _) ⟨wq.heap.size, 0, none⟩ 1 1 (cells2 [x]) rfl rfl (app_src2 _ _ _) (cells2_one _) (by unfold maxLen; omega) (by omega) (by have := hbv.size; simp; omega) ?_; intro v' w4 hown4 hgrow _)
          have hb4 := (hbv.alloc hsz _).grown hgrow (by simp; omega) (own_block_le2 HO.out)
          go_roundw
          case rel =>
            have hes : chK l (k + 1) = x :: st' := by rw [HSU.out, ← HE.out, HS.out]
            refine ⟨k + 1, by omega, by go_num, ?_, ?_, ?_, hb4⟩
            · rw [hes, show (x :: st').reverse = st'.reverse ++ [x] from List.reverse_cons]
              have := own_more2 (l := st'.reverse) hown4 (by rw [hNN.out, List.length_reverse])
              rw [List.length_append, List.length_reverse] at this
              exact this
            · intro y hy
              rw [hes] at hy
              rcases List.mem_cons.1 hy with rfl | hy
              · exact hx
              · exact HE2.out y hy
            · rw [hes]; simp; omega
          case measure => simp [intOf]; omega
    · obtain rfl : k = l.length := by omega
      obtain ⟨z, r, hz⟩ := chK_pos h0
      rw [chK_all, hz] at hown hst hsk
      obtain ⟨g, cx2, rfl, hg1, hg2, hgc, hgm⟩ := own_slice0 hown (by simp)
      obtain ⟨n, hnn⟩ : ∃ n, n = (z :: r).length := ⟨_, rfl⟩
      obtain ⟨j, hj⟩ : ∃ j, j = r.length := ⟨_, rfl⟩
      have hnj : n = j + 1 := by rw [hnn, hj]; rfl
      have HOW := Lib.hid hown
      have HZ := Lib.hid hz
      rw [← hnn] at HOW hgc ⊢
      have b0 : (0 : Int) ≤ (j : Int) := by omega
      have b1 : (j : Int) ≤ (n : Int) := by omega
      have b3 : (j : Int) ≤ (cx2 : Int) := by omega
      have hn10 : n ≤ 1000 := by omega
      have y1 : (n : Int) - 1 = (j : Int) := by omega
      have HJ := Lib.hid hj
      have hjn : j ≤ n := by omega
      clear hown hz hst hj hnj hnn
      go_wp2_with fail
      go_ret
      refine ⟨_, rfl, ?_, hbw⟩
      have hc := own_cut HOW.out hjn
      rw [HJ.out, stack_take] at hc
      have e : chainF l = r.reverse := by unfold chainF; rw [HZ.out]; rfl
      rw [e, List.length_reverse, HJ.out]
      exact hc
end Go.Proofs.Ythiemglckmociaa
/- slices.SortFunc and SortedFunc at points, by order, as package plot calls them. Conditions: at most 12 points and at least one; the list lies in memory as said. -/
namespace Go.Proofs.Ythiemglckmociaa
open Go.RowKit Go.Sort Go.Lib Go.Shelf

theorem dg_refl (W : World) : ∃ (q : Nat) (os : Array Obj), W = grow (W.drewN q) os := ⟨0, #[], by simp [grow, World.drewN]⟩
theorem dg_alloc {W w : World} (h : ∃ (q : Nat) (os : Array Obj), w = grow (W.drewN q) os) (o : Obj) : ∃ (q : Nat) (os : Array Obj), w.alloc o = grow (W.drewN q) os := by
  obtain ⟨q, os, rfl⟩ := h
  exact ⟨q, os ++ #[o], by rw [alloc_eq_grow, grow_grow]⟩
theorem dg_drew {W w : World} (h : ∃ (q : Nat) (os : Array Obj), w = grow (W.drewN q) os) : ∃ (q : Nat) (os : Array Obj), w.drew = grow (W.drewN q) os := by
  obtain ⟨q, os, rfl⟩ := h
  exact ⟨q + 1, os, rfl⟩
set_option maxHeartbeats 1000000 in
theorem orderX_calls (a b : Int × Int) (w : World) : Calls Try.prog 82 #[.agg #[.int .i64 a.1, .int .i64 a.2], .agg #[.int .i64 b.1, .int .i64 b.2]] w fun e w' => e = .returned (.int .i64 (ordF a b)) ∧ ∃ (q : Nat) (os : Array Obj), w' = grow (w.drewN q) os := by
  have H : Hid (ordF a b = orFrom [cmpF a.1 b.1, cmpF a.2 b.2] 0) := by
    unfold Hid; rw [orFrom_2]; rfl
  obtain ⟨r, hr⟩ : ∃ r, ordF a b = r := ⟨_, rfl⟩
  rw [hr] at H ⊢
  clear hr
  go_enter Try.func82, Try.ntmps82
  go_wp2_with fail
  go_region_held3 (fun w' => w'.cell? ⟨w.heap.size, 0, none⟩ = some (.int .i64 a.1) ∧ w'.cell? ⟨w.heap.size, 1, none⟩ = some (.int .i64 a.2) ∧ w'.cell? ⟨w.heap.size + 1, 0, none⟩ = some (.int .i64 b.1) ∧ w'.cell? ⟨w.heap.size + 1, 1, none⟩ = some (.int .i64 b.2)) (go_keep)
    (first | (go_at_call 113; refine (compare_calls _ _ _).mono ?_; rintro e w' ⟨rfl, rfl⟩) | (go_at_call 112; refine (or_is _ [cmpF a.1 b.1, cmpF a.2 b.2] r _ (IntsAt.below (ints2 (by simp)) (below_draw (Below.refl _ _))) H.out.symm).mono ?_; rintro e w' ⟨rfl, rfl⟩))
  all_goals go_wp2
  all_goals go_ret
  all_goals refine ⟨rfl, ?_⟩
  all_goals repeat (first | exact dg_refl _ | refine dg_alloc ?_ _ | refine dg_drew ?_)
def encP (x : Int × Int) : List Value := [.int .i64 x.1, .int .i64 x.2]
theorem ltO (x y : Int × Int) : ltOf ordF x y = decide (ordF x y < 0) := rfl
theorem swoO : SWO (ltOf ordF) where
  irrefl x := by rw [ltO, decide_eq_false]; rw [ordF_neg]; unfold lexLt; omega
  trans x y z h1 h2 := by
    rw [ltO, decide_eq_true_iff, ordF_neg] at *
    unfold lexLt at *; omega
  ntrans x y z h1 h2 := by
    rw [ltO, decide_eq_false_iff_not, ordF_neg] at *
    unfold lexLt at *; omega
theorem flatP_eq (d : Array (Int × Int)) : flatK encP 2 d = (cells2 d.toList).toArray := by
  apply Array.ext
  · simp [cells2_length]
  · intro i h1 h2
    have hi : i < d.size * 2 := by simpa using h1
    have g := get_flatK encP 2 d i hi
    rw [getElem!_pos _ i h1] at g
    rw [g, List.getElem_toArray]
    have hd : i / 2 < d.size := by omega
    have hl : i / 2 < d.toList.length := by simpa using hd
    obtain ⟨c1, c2⟩ := cells2_get hl
    have e1 : gi d.toList (0, 0) (i / 2) = d[i / 2]! := by
      rw [gi_lt hl]; simp [hd]
    rw [e1] at c1 c2
    apply Option.some.inj
    rw [← List.getElem?_eq_getElem]
    by_cases hp : i % 2 = 0
    · rw [show i / 2 * 2 = i by omega] at c1
      rw [c1, hp]; rfl
    · rw [show i / 2 * 2 + 1 = i by omega] at c2
      rw [c2, show i % 2 = 1 by omega]; rfl
theorem heap_putId {w : World} {g n : Nat} {os : Array Obj} {cur : Array Value} {e : TypeId} {fr : Nat × Nat} (d : Array Value) (hb : w.heap[g]? = some (.cells cur e fr)) :
    (grow (putRow id (Sort.ahead w n) g 0 d) os).heap[g]? = some (.cells (putCells id 0 d cur) e fr) := by
  have hg : g < w.heap.size := (Array.getElem?_eq_some_iff.1 hb).1
  rw [heap_grow_old _ _ (by simpa using hg)]
  simp [putRow, mapBlock, Sort.ahead, Array.getElem?_modify, hb, onCells]
theorem grownBy_putId {w : World} {g n : Nat} {os : Array Obj} (d : Array Value) : w.grownBy (grow (putRow id (Sort.ahead w n) g 0 d) os) (some g) := by
  refine ⟨rfl, rfl, rfl, by simp, fun k hk hne => ?_⟩
  rw [heap_grow_old _ _ (by simpa using hk)]
  have : g ≠ k := fun e => hne (by rw [e])
  simp [putRow, mapBlock, Sort.ahead, Array.getElem?_modify, this]
theorem take_putId (cur : Array Value) (ts : List Value) (h : ts.length ≤ cur.size) : (putCells id 0 ts.toArray cur).toList.take ts.length = ts := by
  apply List.ext_getElem?
  intro j
  by_cases hj : j < ts.length
  · rw [List.getElem?_take_of_lt hj, Array.getElem?_toList]
    simp [putCells, hj, show j < cur.size by omega]
  · rw [List.getElem?_take_eq_none (by omega), List.getElem?_eq_none (by omega)]
/-- The sort of points that the call owns. -/
theorem sortP_own {base g cap : Nat} {l : List (Int × Int)} {w : World} (hown : w.ownsRow base 32 2 (.slice (some ⟨g, 0, none⟩) l.length cap) l.length (cells2 l)) (hl : l.length ≤ 12) :
    Calls Try.prog 110 #[.slice (some ⟨g, 0, none⟩) l.length cap, .func (.func 82) #[] #[]] w fun e w' => e = .returned (.tuple #[]) ∧
      ∃ l', l'.Perm l ∧ l'.Pairwise (fun a b => ¬ lexLt b a) ∧ w'.ownsRow base 32 2 (.slice (some ⟨g, 0, none⟩) l'.length cap) l'.length (cells2 l') ∧ w.grownBy w' (some g) := by
  rcases hown.2 with ⟨h, _⟩ | ⟨g', cap', cur, h, hbg, hg, h1, h2, h3, h4⟩
  · cases h
  simp only [Value.slice.injEq, Option.some.injEq, Addr.mk.injEq, and_true, true_and] at h
  obtain ⟨rfl, rfl⟩ := h
  have hlt : g < w.heap.size := (Array.getElem?_eq_some_iff.1 hg).1
  have hd : (l.toArray).size = l.length := by simp
  have hfl : flatK encP 2 l.toArray = (cells2 l).toArray := by rw [flatP_eq]
  have hH : HoldsK encP 2 w g 0 l.toArray := by
    unfold HoldsK
    rw [hfl]
    intro j hj
    have hj' : j < l.length * 2 := by simpa [cells2_length] using hj
    refine ⟨?_, ?_⟩
    · rw [Nat.zero_add, hown.cellAt j hj']
      rw [List.getElem?_eq_getElem (by rw [cells2_length]; exact hj')]
      simp [getElem!_pos, cells2_length, hj']
    · rw [Nat.zero_add]; exact hown.frozenAt j
  have hcon := AnyQ.slices_SortFunc_small_sorted Try.sortP 2 Try.isAgg32 Try.sizeOf32 encP (fun _ => rfl) (fun x v hv => by simp [encP] at hv; rcases hv with rfl | rfl <;> rfl) ordF 82 #[] swoO g 0 cap l.toArray w
    (enters_of Try.func82 (by kernel_rfl) rfl) (fun _ _ _ _ x y => orderX_calls x y _) hH hlt (by rw [hd]; exact hl) (fun n W h => (Try.bits_Len n W (by omega) (by omega)).mono fun _ _ ⟨he, hw⟩ => ⟨⟨_, he⟩, hw⟩)
  rw [hd] at hcon
  refine Calls.mono hcon ?_
  rintro e w' ⟨he, d', n, os, hp, hs, rfl⟩
  obtain ⟨hps, _, hpp⟩ := hp
  have hds : d'.size = l.length := by rw [hps, hd]
  have hx1 : d'.extract 0 l.length = d' := by rw [← hds]; simp
  have hx2 : (l.toArray).extract 0 l.length = l.toArray := by
    simp only [List.extract_toArray, List.extract_eq_take_drop, List.drop_zero, Nat.sub_zero]
    rw [List.take_of_length_le (by simp)]
  rw [hx1, hx2] at hpp
  have hperm : d'.toList.Perm l := by simpa using hpp
  have hlen : d'.toList.length = l.length := by simp [hds]
  refine ⟨he, d'.toList, hperm, ?_, ?_, ?_⟩
  · rw [List.pairwise_iff_getElem]
    intro i j hi hj hij
    have := hs i j (Nat.zero_le _) hij (by omega)
    rw [ltO] at this
    have := of_decide_eq_false this
    have hi' : i < d'.size := by omega
    have hj' : j < d'.size := by omega
    rw [getElem!_pos _ i hi', getElem!_pos _ j hj', ordF_neg] at this
    simpa using this
  · unfold sortWorldK putRowK
    rw [flatP_eq, hlen]
    refine ⟨by rw [cells2_length, hlen], .inr ⟨g, cap, _, rfl, hbg, heap_putId _ hg, h1, h2, by simp [putCells, h3], ?_⟩⟩
    have := take_putId cur (cells2 d'.toList) (by rw [cells2_length, hlen, h3]; omega)
    rw [cells2_length, hlen] at this
    exact this
  · unfold sortWorldK putRowK
    exact grownBy_putId _
set_option maxHeartbeats 1000000 in
theorem sortedP_calls (b0 : Nat) (v : Value) (l : List (Int × Int)) (w : World) (hc : w.cell? ⟨b0, 0, none⟩ = some v) (h : PairsAt w v l) (h0 : 0 < l.length) (hl : l.length ≤ 12) :
    Calls Try.prog 80 #[.func (.func 111) #[] #[.pointer (some ⟨b0, 0, none⟩)], .func (.func 82) #[] #[]] w fun e w' => ∃ (g cap : Nat) (l' : List (Int × Int)), e = .returned (.slice (some ⟨g, 0, none⟩) l'.length cap) ∧ l'.Perm l ∧ l'.Pairwise (fun a b => ¬ lexLt b a) ∧ w'.ownsRow w.heap.size 32 2 (.slice (some ⟨g, 0, none⟩) l'.length cap) l'.length (cells2 l') ∧ Below w.heap.size w w' := by
  have H := Lib.hid (collectP_calls b0 v l w hc h (by omega))
  clear hc h
  go_enter Try.func80, Try.ntmps80
  go_wp2_with (first | (go_at_call 109; refine H.out.mono ?_; rintro e w1 ⟨v1, rfl, hr1, hb1⟩; obtain ⟨g, cap, rfl, hg1, hg2, hg3, hg4⟩ := own_slice0 hr1 h0; have HR := Lib.hid hr1; clear hr1) | (go_at_call 110; refine (sortP_own HR.out hl).mono ?_; rintro e w2 ⟨rfl, l', hp, hs, ho, hgr⟩; have HP := Lib.hid hp; have HS := Lib.hid hs; have HO := Lib.hid ho; have hlen := hp.length_eq; clear hp hs ho))
  refine bodyPost_ret (v := .slice (some ⟨g, 0, none⟩) l.length cap) (by simp [results, Try.f80, go_sem]) rfl ?_
  exact ⟨g, cap, l', by rw [hlen], HP.out, HS.out, HO.out, hb1.grown hgr hb1.size (fun k e => by cases e; exact hg1)⟩
end Go.Proofs.Ythiemglckmociaa
/- What slices.Compact at points gives: of neighbours that are equal the first one, in the same row. Conditions: the row is one of the caller's own; it is short and not empty. -/
namespace Go.Proofs.Ythiemglckmociaa
open Go.RowKit
attribute [local go_sem high] eql_pt neq_pt eqg_pt

theorem arr_get {l : List (Int × Int)} {i : Nat} (h : i < l.length) : l.toArray[i]! = gi l (0, 0) i := by
  rw [gi_lt h, getElem!_pos _ i (by simpa using h)]; simp
theorem own_far {w : World} {base e n g cap : Nat} {xs : List Value} (h : w.ownsRow base e 2 (.slice (some ⟨g, 0, none⟩) n cap) n xs) {j : Nat} (hj : n * 2 ≤ j) (u : Value) : (w.setCell ⟨g, j, none⟩ u).ownsRow base e 2 (.slice (some ⟨g, 0, none⟩) n cap) n xs := by
  have := (h.stored j u).1
  rwa [List.set_eq_of_length_le (by rw [h.1]; exact hj)] at this
theorem own_cells {base e n g cap : Nat} {xs : List Value} : ∀ (vs : List Value) (o : Nat) (w : World), n * 2 ≤ o → w.ownsRow base e 2 (.slice (some ⟨g, 0, none⟩) n cap) n xs → (w.setCells g o vs).ownsRow base e 2 (.slice (some ⟨g, 0, none⟩) n cap) n xs
  | [], _, _, _, h => h
  | v :: vs, o, w, ho, h => own_cells vs (o + 1) _ (by omega) (own_far h ho v)
theorem below_cells {B g : Nat} (hg : B ≤ g) {w0 : World} : ∀ (vs : List Value) (o : Nat) (w : World), Below B w0 w → Below B w0 (w.setCells g o vs)
  | [], _, _, h => h
  | v :: vs, o, _, h => below_cells hg vs (o + 1) _ (h.setCell hg v)
theorem size_cells {g : Nat} : ∀ (vs : List Value) (o : Nat) (w : World), (w.setCells g o vs).heap.size = w.heap.size
  | [], _, _ => rfl
  | v :: vs, o, w => by
    show ((w.setCell ⟨g, o, none⟩ v).setCells g (o + 1) vs).heap.size = _
    rw [size_cells vs (o + 1)]; simp [World.setCell]
theorem clear_pts (w : World) (b o n c : Nat) (ty : TypeId) (hn : 0 < n) (hc : ∀ j, j < n * 2 → (w.cell? ⟨b, o + j, none⟩).isSome = true) (hf : ∀ j, j < n * 2 → w.frozen? ⟨b, o + j, none⟩ = false) :
    (Builtin.clear_ #[22] ty #[.slice (some ⟨b, o, none⟩) n c]).run Try.prog w = .ok (.tuple #[]) (w.setCells b o (Builtin.zeroCells #[.int .i64 0, .int .i64 0] n).toList) := by
  have hl : (Builtin.zeroCells #[.int .i64 0, .int .i64 0] n).toList.length = n * 2 := by rw [Array.length_toList, size_zeroCells]; rfl
  have hst := run_storeCells_cells (P := Try.prog) b o (Builtin.zeroCells #[.int .i64 0, .int .i64 0] n).toList 0 w (by rw [hl]; simpa using hc) (by rw [hl]; simpa using hf) (by
    intro v hv
    unfold Builtin.zeroCells at hv
    rw [Array.toList_map, List.mem_map] at hv
    obtain ⟨i, _, rfl⟩ := hv
    have : i % 2 = 0 ∨ i % 2 = 1 := by omega
    rcases this with e | e <;> simp [e, Value.oneCell'])
  simp only [Nat.add_zero] at hst
  obtain ⟨m, rfl⟩ : ∃ m, n = m + 1 := ⟨n - 1, by omega⟩
  have hz : (Value.agg #[.int .i64 0, .int .i64 0]).cells = #[.int .i64 0, .int .i64 0] := by rfl
  simp [Builtin.clear_, run_underlying Try.underlying22, Try.zeroValue32, hz, hst]
/-- Of neighbours that are equal the first one. -/
def ddF (l : List (Int × Int)) : List (Int × Int) := Lib.compact l
set_option maxHeartbeats 4000000 in
set_option maxRecDepth 100000 in
theorem compactP_calls (base g cap : Nat) (l : List (Int × Int)) (w : World) (h : w.ownsRow base 32 2 (.slice (some ⟨g, 0, none⟩) l.length cap) l.length (cells2 l)) (h0 : 0 < l.length) (hl : l.length ≤ 1000) :
    Calls Try.prog 79 #[.slice (some ⟨g, 0, none⟩) l.length cap] w fun e w' => e = .returned (.slice (some ⟨g, 0, none⟩) (ddF l).length cap) ∧ w'.ownsRow base 32 2 (.slice (some ⟨g, 0, none⟩) (ddF l).length cap) (ddF l).length (cells2 (ddF l)) ∧ w.heap.size ≤ w'.heap.size ∧ Below base w w' := by
  have hg := own_block_le2 h g rfl
  have hcap : l.length ≤ cap ∧ cap ≤ 9223372036854775807 := by
    obtain ⟨_, ⟨e, _⟩ | ⟨g', cap', cur, e, _, _, h1, h2, _⟩⟩ := h
    · cases e
    · cases e; exact ⟨h1, by unfold maxLen at h2; omega⟩
  have HALL : Hid ((∀ j, j < l.length → Lib.keeps l.toArray j = true) → ddF l = l) := fun k => Lib.compact_all l k
  have HDD : Hid (ddF l = Lib.compactUpTo l.toArray l.length) := rfl
  have HO := Lib.hid h
  clear h
  by_cases h2 : l.length < 2
  · have x0 : decide ((l.length : Int) < 2) = true := decide_eq_true (by omega)
    go_enter Try.func79, Try.ntmps79
    go_wp2_with fail
    go_ret
    have e := HALL.out (fun j hj => Lib.keeps_lt_one _ j (by omega))
    rw [e]
    exact ⟨rfl, HO.out, Nat.le_refl _, Below.refl _ _⟩
  · have x0 : decide ((l.length : Int) < 2) = false := decide_eq_false (by omega)
    go_enter Try.func79, Try.ntmps79
    go_wp2_with fail
    go_loopw [3] (fun s wr => ∃ k : Nat, 1 ≤ k ∧ k ≤ l.length ∧ s = .int .i64 k ∧ Hid (∀ j, j < k → Lib.keeps l.toArray j = true) ∧ Hid (wr.ownsRow base 32 2 (.slice (some ⟨g, 0, none⟩) l.length cap) l.length (cells2 l)) ∧ w.heap.size ≤ wr.heap.size ∧ Below base w wr) (fun s _ => l.length - (intOf s).toNat)
    case atStart => exact ⟨1, Nat.le_refl _, by omega, rfl, Lib.keeps_lt_one _, HO.out, Nat.le_refl _, Below.refl _ _⟩
    case round =>
      obtain ⟨k, hk1, hk, rfl, HK, HOW, hsz, hbw⟩ := hrel
      clear HO
      by_cases hlt : k < l.length
      · obtain ⟨i, hi⟩ : ∃ i, k = i + 1 := ⟨k - 1, by omega⟩
        have c0 := (HOW.out.cellAt (k * 2) (by omega)).trans (cells2_get1 _ k hlt)
        have c1 := (HOW.out.cellAt (k * 2 + 1) (by omega)).trans (cells2_get2 _ k hlt)
        have c2 := (HOW.out.cellAt (i * 2) (by omega)).trans (cells2_get1 _ i (by omega))
        have c3 := (HOW.out.cellAt (i * 2 + 1) (by omega)).trans (cells2_get2 _ i (by omega))
        have HA := Lib.hid (arr_get hlt)
        have HB := Lib.hid (arr_get (l := l) (i := i) (by omega))
        generalize gi l (0, 0) k = pa at *
        generalize gi l (0, 0) i = pb at *
        have hw1 : IntKind.i64.wrap ((k : Int) - 1) = (i : Int) := by rw [IntWalk.i64_in _ (by omega)]; omega
        have HI := Lib.hid hi
        have hin : i < l.length := by omega
        have hig : g < wr.heap.size := (HOW.out.lt g rfl).2
        clear hi
        have q0 := fun dr os => cell_regrown c0 dr os
        have q1 := fun dr os => cell_regrown c1 dr os
        have q2 := fun dr os => cell_regrown c2 dr os
        have q3 := fun dr os => cell_regrown c3 dr os
        cases hx : (pa == pb)
        · have HX : Hid (pa ≠ pb) := by unfold Hid; simpa using hx
          go_wp2_with fail
          refine region_q mixed (by kernel_rfl) ?_
          repeat (go_big_quiet_step (fail))
          refine wpQuiet_nil ?_
          intro wq hbq
          clear q0 q1 q2 q3 hw1
          go_wp2_with fail
          go_roundw
          case rel =>
            refine ⟨k + 1, by omega, by omega, by go_num, fun j hj => ?_, own_below HOW.out hbq, by have := hbq.size; omega, hbw.trans (hbq.mono (by omega))⟩
            rcases Nat.lt_succ_iff_lt_or_eq.1 hj with e | e
            · exact HK.out j e
            · subst e
              exact Lib.keeps_pos (by rw [HA.out, show j - 1 = i by have := HI.out; omega, HB.out]; exact HX.out)
          case measure => simp [intOf]; omega
        · have HX : Hid (pa = pb) := by unfold Hid; simpa using hx
          go_wp2_with fail
          refine region_q mixed (by kernel_rfl) ?_
          repeat (go_big_quiet_step (fail))
          refine wpQuiet_nil ?_
          intro wq hbq
          clear q0 q1 q2 q3 hw1
          have b0 : (0 : Int) ≤ (k : Int) := by omega
          have b1 : (k : Int) ≤ (l.length : Int) := by omega
          have b2 : (l.length : Int) ≤ (cap : Int) := by omega
          have b3 : (k : Int) ≤ (cap : Int) := by omega
          have hck : ¬ cap = k := by omega
          have HST : Hid (Lib.CompInv l.toArray (k + 1) k l.toArray) := Lib.CompInv.start HK.out (Lib.keeps_neg (by omega) (by rw [HA.out, show k - 1 = i by have := HI.out; omega, HB.out]; exact HX.out))
          have HOQ : Hid (wq.ownsRow base 32 2 (.slice (some ⟨g, 0, none⟩) l.length cap) l.length (cells2 l)) := own_below HOW.out hbq
          have hsq : w.heap.size ≤ wq.heap.size := by have := hbq.size; omega
          have hbv : Below base w wq := hbw.trans (hbq.mono (by omega))
          clear HOW hbw hbq hsz c0 c1 c2 c3 HX HA HB hx hig HI hin HK
          obtain ⟨n2, hn2⟩ : ∃ n2, l.length - k = n2 := ⟨_, rfl⟩
          have HN2 := Lib.hid hn2
          obtain ⟨cp2, hcp2⟩ : ∃ c, cap - k = c := ⟨_, rfl⟩
          go_wp2_with fail
          go_loopw [3, 5] (fun s3 s5 wr => ∃ (kk k2 : Nat) (r : List (Int × Int)), s3 = .int .i64 kk ∧ s5 = .int .i64 k2 ∧ 1 ≤ k2 ∧ k + k2 ≤ l.length ∧ r.length = l.length ∧ Hid (Lib.CompInv l.toArray (k + k2) kk r.toArray) ∧ Hid (wr.ownsRow base 32 2 (.slice (some ⟨g, 0, none⟩) l.length cap) l.length (cells2 r)) ∧ w.heap.size ≤ wr.heap.size ∧ Below base w wr) (fun _ s _ => l.length - (intOf s).toNat)
          case atStart => exact ⟨k, 1, l, rfl, rfl, Nat.le_refl _, by omega, rfl, HST.out, HOQ.out, hsq, hbv⟩
          case round =>
            clear HST HOQ hsq hbv
            obtain ⟨kk, k2, r, rfl, rfl, hk21, hk2, hrl, HC, HOR, hsz, hbw⟩ := hrel
            have hkk := HC.out.lt
            by_cases hlt2 : k + k2 < l.length
            · have hig : g < wr.heap.size := (HOR.out.lt g rfl).2
              obtain ⟨i, hi⟩ : ∃ i, k2 = i + 1 := ⟨k2 - 1, by omega⟩
              have c0 := (HOR.out.cellAt ((k + k2) * 2) (by omega)).trans (cells2_get1 _ (k + k2) (by omega))
              have c1 := (HOR.out.cellAt ((k + k2) * 2 + 1) (by omega)).trans (cells2_get2 _ (k + k2) (by omega))
              have c2 := (HOR.out.cellAt ((k + i) * 2) (by omega)).trans (cells2_get1 _ (k + i) (by omega))
              have c3 := (HOR.out.cellAt ((k + i) * 2 + 1) (by omega)).trans (cells2_get2 _ (k + i) (by omega))
              have c4 := (HOR.out.cellAt (kk * 2) (by omega)).trans (cells2_get1 _ kk (by omega))
              have c5 := (HOR.out.cellAt (kk * 2 + 1) (by omega)).trans (cells2_get2 _ kk (by omega))
              have f4 := HOR.out.frozenAt (kk * 2)
              have f5 := HOR.out.frozenAt (kk * 2 + 1)
              have ga : gi r (0, 0) (k + k2) = gi l (0, 0) (k + k2) := by rw [← arr_get (by omega), ← arr_get (by omega)]; exact HC.out.high _ (by omega)
              have gb : gi r (0, 0) (k + i) = gi l (0, 0) (k + i) := by rw [← arr_get (by omega), ← arr_get (by omega)]; exact HC.out.high _ (by omega)
              rw [ga, Nat.add_mul] at c0 c1
              rw [gb, Nat.add_mul] at c2 c3
              have HA := Lib.hid (arr_get (l := l) hlt2)
              have HB := Lib.hid (arr_get (l := l) (i := k + i) (by omega))
              generalize gi l (0, 0) (k + k2) = pa at *
              generalize gi l (0, 0) (k + i) = pb at *
              generalize gi r (0, 0) kk = po at *
              clear ga gb
              have hw1 : IntKind.i64.wrap ((k2 : Int) - 1) = (i : Int) := by rw [IntWalk.i64_in _ (by omega)]; omega
              have HI := Lib.hid hi
              have hin : i < n2 := by omega
              have hk2n : k2 < n2 := by omega
              have hkl : kk < l.length := by omega
              clear hi
              have q0 := fun dr os => cell_regrown c0 dr os
              have q1 := fun dr os => cell_regrown c1 dr os
              have q2 := fun dr os => cell_regrown c2 dr os
              have q3 := fun dr os => cell_regrown c3 dr os
              try rw [hn2]
              cases hx : (pa == pb)
              · have HX : Hid (pa ≠ pb) := by unfold Hid; simpa using hx
                go_wp2_with fail
                refine region_q mixed (by kernel_rfl) ?_
                repeat (go_big_quiet_step (fail))
                refine wpQuiet_nil ?_
                intro wq hbq
                clear q0 q1 q2 q3 hw1
                replace c0 := (hbq.cell (p := ⟨g, k * 2 + k2 * 2, none⟩) hig).trans c0
                replace c1 := (hbq.cell (p := ⟨g, k * 2 + k2 * 2 + 1, none⟩) hig).trans c1
                replace c4 := (hbq.cell (p := ⟨g, kk * 2, none⟩) hig).trans c4
                replace c5 := (hbq.cell (p := ⟨g, kk * 2 + 1, none⟩) hig).trans c5
                replace f4 := (hbq.frozen (p := ⟨g, kk * 2, none⟩) hig).trans f4
                replace f5 := (hbq.frozen (p := ⟨g, kk * 2 + 1, none⟩) hig).trans f5
                have HOQ := Lib.hid (own_below HOR.out hbq)
                have hbv : Below base w wq := hbw.trans (hbq.mono (by omega))
                have hsq : w.heap.size ≤ wq.heap.size := by have := hbq.size; omega
                clear hbw hbq c2 c3
                go_wp2_with fail
                go_roundw
                case rel =>
                  have s1 := (HOQ.out.stored (kk * 2) (.int .i64 pa.1)).1
                  have s2 := (s1.stored (kk * 2 + 1) (.int .i64 pa.2)).1
                  rw [← cells2_put] at s2
                  refine ⟨kk + 1, k2 + 1, r.set kk pa, by go_num, by go_num, by omega, by omega, by rw [List.length_set]; exact hrl, ?_, s2, by simpa using hsq, (hbv.setCell (by dsimp only; omega) _).setCell (by dsimp only; omega) _⟩
                  have hkp := HC.out.keep (by simpa using hlt2) (Lib.keeps_pos (by rw [HA.out, show k + k2 - 1 = k + i by have := HI.out; omega, HB.out]; exact HX.out))
                  rw [HA.out] at hkp
                  unfold Hid
                  rw [show (r.set kk pa).toArray = r.toArray.setIfInBounds kk pa by simp]
                  exact hkp
                case measure => simp [intOf]; omega
              · have HX : Hid (pa = pb) := by unfold Hid; simpa using hx
                go_wp2_with fail
                refine region_q mixed (by kernel_rfl) ?_
                repeat (go_big_quiet_step (fail))
                refine wpQuiet_nil ?_
                intro wq hbq
                clear q0 q1 q2 q3 hw1
                have HOQ := Lib.hid (own_below HOR.out hbq)
                have hbv : Below base w wq := hbw.trans (hbq.mono (by omega))
                have hsq : w.heap.size ≤ wq.heap.size := by have := hbq.size; omega
                clear hbw hbq c0 c1 c2 c3 c4 c5 f4 f5
                go_wp2_with fail
                go_roundw
                case rel => exact ⟨kk, k2 + 1, r, rfl, by go_num, by omega, by omega, hrl, HC.out.skip (Lib.keeps_neg (by omega) (by rw [HA.out, show k + k2 - 1 = k + i by have := HI.out; omega, HB.out]; exact HX.out)), HOQ.out, hsq, hbv⟩
                case measure => simp [intOf]; omega
            · have hend : k + k2 = l.length := by omega
              have hkl : kk < l.length := by omega
              have hk2n : k2 = n2 := by omega
              have b0' : (0 : Int) ≤ (kk : Int) := by omega
              have b1' : (kk : Int) ≤ (l.length : Int) := by omega
              have b3' : (kk : Int) ≤ (cap : Int) := by omega
              have hck' : ¬ cap = kk := by omega
              have hcl := fun ty => clear_pts wr g (kk * 2) (l.length - kk) (cap - kk) ty (by omega) (fun j hj => by rw [HOR.out.cellAt (kk * 2 + j) (by omega)]; rw [List.getElem?_eq_getElem (by rw [cells2_length, hrl]; omega)]; rfl) (fun j hj => HOR.out.frozenAt _)
              have HEND := Lib.hid hend
              have x1 : decide ((k2 : Int) < (n2 : Int)) = false := decide_eq_false (by omega)
              try rw [hn2]
              generalize hzz : (Builtin.zeroCells #[.int .i64 0, .int .i64 0] (l.length - kk)).toList = zs at *
              clear hzz
              go_wp2_with fail
              go_ret
              have hc := HC.out
              rw [HEND.out] at hc
              have hlen : (ddF l).length = kk := by rw [HDD.out]; exact hc.len
              have hrow : r.take kk = ddF l := by
                apply List.ext_getElem?
                intro j
                by_cases hj : j < kk
                · rw [List.getElem?_take_of_lt hj, HDD.out, hc.low j hj, arr_get (by omega), gi_lt (by omega)]
                  exact List.getElem?_eq_getElem (by omega)
                · rw [List.getElem?_eq_none (by rw [List.length_take]; omega), List.getElem?_eq_none (by omega)]
              have hcut := own_cut HOR.out (m := kk) (by omega)
              rw [hrow] at hcut
              rw [hlen]
              exact ⟨rfl, own_cells _ _ _ (Nat.le_refl _) hcut, by rw [size_cells]; exact hsz, below_cells hg _ _ _ hbw⟩
      · obtain rfl : k = l.length := by omega
        go_wp2_with fail
        go_ret
        rw [HALL.out HK.out]
        exact ⟨rfl, HOW.out, hsz, hbw⟩
theorem compactP_is {base g cap : Nat} {l s : List (Int × Int)} {w : World} (h : w.ownsRow base 32 2 (.slice (some ⟨g, 0, none⟩) l.length cap) l.length (cells2 l)) (h0 : 0 < l.length) (hl : l.length ≤ 1000) (hs : ddF l = s) :
    Calls Try.prog 79 #[.slice (some ⟨g, 0, none⟩) l.length cap] w fun e w' => e = .returned (.slice (some ⟨g, 0, none⟩) s.length cap) ∧ w'.ownsRow base 32 2 (.slice (some ⟨g, 0, none⟩) s.length cap) s.length (cells2 s) ∧ w.heap.size ≤ w'.heap.size ∧ Below base w w' := by
  subst hs; exact compactP_calls base g cap l w h h0 hl
end Go.Proofs.Ythiemglckmociaa
/- The convex plot around points, as a list: what the program's two chains give, and what the document's steps give. No conditions. -/
namespace Go.Proofs.Ythiemglckmociaa
open Go.RowKit
/-- Points in order, each once. -/
def insP (x : Int × Int) : List (Int × Int) → List (Int × Int)
  | [] => [x]
  | y :: r => if x.1 < y.1 ∨ (x.1 = y.1 ∧ x.2 < y.2) then x :: y :: r else if x = y then y :: r else y :: insP x r
theorem insP_mem (x z : Int × Int) : ∀ l : List (Int × Int), z ∈ insP x l ↔ z = x ∨ z ∈ l
  | [] => by simp [insP]
  | y :: r => by
    unfold insP
    split
    · simp
    · split
      · rename_i e; subst e; simp
      · rw [List.mem_cons, insP_mem x z r, List.mem_cons]
        exact ⟨fun h => h.elim (fun e => .inr (.inl e)) (fun h => h.elim .inl (fun e => .inr (.inr e))), fun h => h.elim (fun e => .inr (.inl e)) (fun h => h.elim .inl (fun e => .inr (.inr e)))⟩
theorem insP_sorted (x : Int × Int) : ∀ {l : List (Int × Int)}, l.Pairwise ltP → (insP x l).Pairwise ltP
  | [], _ => List.pairwise_singleton _ _
  | y :: r, h => by
    rw [List.pairwise_cons] at h
    unfold insP
    split
    · rename_i c
      have hxy : ltP x y := c
      refine List.pairwise_cons.2 ⟨fun z hz => ?_, List.pairwise_cons.2 h⟩
      rcases List.mem_cons.1 hz with e | e
      · exact e ▸ hxy
      · exact hxy.trans (h.1 z e)
    · split
      · exact List.pairwise_cons.2 h
      · rename_i c1 c2
        refine List.pairwise_cons.2 ⟨fun z hz => ?_, insP_sorted x h.2⟩
        rcases (insP_mem x z r).1 hz with e | e
        · subst e
          rcases ltP.tri z y with k | k | k
          · exact absurd k c1
          · exact absurd k c2
          · exact k
        · exact h.1 z e
def sortC (l : List (Int × Int)) : List (Int × Int) := l.foldr insP []
theorem sortC_mem (z : Int × Int) : ∀ l : List (Int × Int), z ∈ sortC l ↔ z ∈ l
  | [] => Iff.rfl
  | x :: l => by
    show z ∈ insP x (sortC l) ↔ _
    rw [insP_mem, sortC_mem z l, List.mem_cons]
theorem sortC_sorted : ∀ l : List (Int × Int), (sortC l).Pairwise ltP
  | [] => List.Pairwise.nil
  | x :: l => insP_sorted x (sortC_sorted l)
/-- Sorted lists of the same points are one. -/
theorem sorted_one : ∀ {s t : List (Int × Int)}, s.Pairwise ltP → t.Pairwise ltP → (∀ x, x ∈ s ↔ x ∈ t) → s = t
  | [], [], _, _, _ => rfl
  | [], y :: t, _, _, h => by have := (h y).2 (by simp); cases this
  | x :: s, [], _, _, h => by have := (h x).1 (by simp); cases this
  | x :: s, y :: t, hs, ht, h => by
    rw [List.pairwise_cons] at hs ht
    have e : x = y := by
      rcases List.mem_cons.1 ((h x).1 (by simp)) with k | k
      · exact k
      · rcases List.mem_cons.1 ((h y).2 (by simp)) with k2 | k2
        · exact k2.symm
        · exact absurd (ht.1 x k) (fun q => ltP.asym q (hs.1 y k2))
    subst e
    refine congrArg (x :: ·) (sorted_one hs.2 ht.2 fun z => ?_)
    constructor
    · intro hz
      rcases List.mem_cons.1 ((h z).1 (List.mem_cons_of_mem _ hz)) with k | k
      · subst k; exact absurd (hs.1 z hz) (fun q => q.irr)
      · exact k
    · intro hz
      rcases List.mem_cons.1 ((h z).2 (List.mem_cons_of_mem _ hz)) with k | k
      · subst k; exact absurd (ht.1 z hz) (fun q => q.irr)
      · exact k
theorem nodup_len : ∀ {a b : List (Int × Int)}, a.Nodup → (∀ x ∈ a, x ∈ b) → a.length ≤ b.length
  | [], _, _, _ => Nat.zero_le _
  | x :: a, b, h, hs => by
    rw [List.nodup_cons] at h
    have hx := hs x (by simp)
    have h1 := nodup_len (a := a) (b := b.erase x) h.2 (fun y hy => (List.mem_erase_of_ne (fun e => h.1 (by rw [← e]; exact hy))).2 (hs y (List.mem_cons_of_mem _ hy)))
    rw [List.length_erase_of_mem hx] at h1
    have := List.length_pos_of_mem hx
    rw [List.length_cons]; omega
def hullE (l : List (Int × Int)) : Int := if 10 < l.length then 3 else if rangedB l = false then 1 else if (hullF (sortC l)).length < 3 then 8 else 0
def hullL (l : List (Int × Int)) : List (Int × Int) := if hullE l = 0 then hullF (sortC l) else []
theorem cyc_cor (l : List (Int × Int)) : cyc l = cor l := rfl
/-- Few sorted points, or a round. -/
theorem sort_cases (l : List (Int × Int)) : (hullF (sortC l) = [] ∧ ((∀ x, x ∉ l) ∨ ∃ z, z ∈ l ∧ ∀ x ∈ l, x = z)) ∨ ∃ lo hi z b, Round (sortC l) lo hi z b := by
  cases hs : sortC l with
  | nil =>
    left
    refine ⟨rfl, .inl fun x hx => ?_⟩
    rw [← sortC_mem, hs] at hx; cases hx
  | cons z r =>
    cases r with
    | nil =>
      left
      refine ⟨rfl, .inr ⟨z, by rw [← sortC_mem, hs]; simp, fun x hx => ?_⟩⟩
      rw [← sortC_mem, hs] at hx
      simpa using hx
    | cons c r =>
      right
      have hp := sortC_sorted l
      rw [hs] at hp
      obtain ⟨lo, hi, b, h⟩ := round_of (z := z) (l := c :: r) hp (by simp)
      exact ⟨lo, hi, z, b, h⟩
theorem mem_same (l : List (Int × Int)) : (fun y => y ∈ sortC l) = fun y => y ∈ l := funext fun y => propext (sortC_mem y l)
theorem hull_q {l : List (Int × Int)} (h : ¬ (hullF (sortC l)).length < 3) : HullQ (· ∈ l) (cor (hullF (sortC l))) (hullF (sortC l)).length ∧ (hullF (sortC l)).length ≤ l.length ∧ ∃ z, cor (hullF (sortC l)) 0 = z ∧ z ∈ l ∧ ∀ y ∈ l, y = z ∨ ltP z y := by
  rcases sort_cases l with ⟨e, _⟩ | ⟨lo, hi, z, b, hr⟩
  · rw [e] at h; simp at h
  · rw [hr.eq] at h ⊢
    have hq := hr.hull (by omega)
    rw [mem_same l, cyc_cor] at hq
    refine ⟨hq, ?_, z, ?_, ?_, fun y hy => hr.min y ((sortC_mem y l).2 hy)⟩
    · exact nodup_len hr.inj fun x hx => (sortC_mem x l).1 (hr.mem x hx)
    · have h0 := hr.lo0
      cases lo with
      | nil => cases h0
      | cons c r =>
        exact Option.some.inj h0
    · have h0 := hr.lo0
      cases lo with
      | nil => cases h0
      | cons c r =>
        injection h0 with h0
        subst h0
        exact (sortC_mem _ l).1 (hr.mem _ (by simp))
/-- All points on one line, as the document asks. -/
def flatB (l : List (Int × Int)) : Bool := !(anyN (fun i => anyN (fun k => turn (gi l (0, 0) 0) (gi l (0, 0) i) (gi l (0, 0) k) != 0) l.length) l.length)
theorem flatB_iff {l : List (Int × Int)} : flatB l = true ↔ ∀ x ∈ l, ∀ y ∈ l, turn (gi l (0, 0) 0) x y = 0 := by
  unfold flatB
  rw [Bool.not_eq_true']
  constructor
  · intro h x hx y hy
    obtain ⟨i, hi, rfl⟩ := List.getElem_of_mem hx
    obtain ⟨k, hk, rfl⟩ := List.getElem_of_mem hy
    have := anyN_none (anyN_none h i hi) k hk
    rw [gi_lt (i := i) hi, gi_lt (i := k) hk] at this
    simpa using this
  · intro h
    refine anyN_false fun i hi => anyN_false fun k hk => ?_
    have := h _ (List.getElem_mem hi) _ (List.getElem_mem hk)
    rw [gi_lt (i := i) hi, gi_lt (i := k) hk, this]; rfl
theorem flat_hull (l : List (Int × Int)) : flatB l = true ↔ (hullF (sortC l)).length < 3 := by
  rw [flatB_iff]
  constructor
  · intro h
    apply Classical.byContradiction
    intro hn
    obtain ⟨hq, _, _⟩ := hull_q hn
    have hs := hq.strict 0
    have := flat_three (h _ (hq.mem 0) _ (hq.mem 1)) (h _ (hq.mem 1) _ (hq.mem 2)) (h _ (hq.mem 0) _ (hq.mem 2))
    simp only [Nat.zero_add] at hs
    omega
  · intro h x hx y hy
    have h0 : gi l (0, 0) 0 ∈ l := by
      obtain ⟨i, hi, _⟩ := List.getElem_of_mem hx
      rw [gi_lt (by omega)]
      exact List.getElem_mem _
    rcases sort_cases l with ⟨_, e | ⟨z, _, e⟩⟩ | ⟨lo, hi, z, b, hr⟩
    · exact absurd hx (e x)
    · rw [e _ h0, e x hx, e y hy]; unfold turn; grind
    · rw [hr.eq] at h
      have hf := hr.flat h
      have hz : z ≠ b := fun e => by have := hr.zb; rw [e] at this; exact this.irr
      exact turn_col hz (hf _ ((sortC_mem _ l).2 h0)) (hf _ ((sortC_mem _ l).2 hx)) (hf _ ((sortC_mem _ l).2 hy))
/-- What holds of the convex plot. -/
structure HullOK (l h : List (Int × Int)) : Prop where
  q : HullQ (· ∈ l) (cor h) h.length
  val : Valid h
  min : ∃ z, cor h 0 = z ∧ z ∈ l ∧ ∀ y ∈ l, y = z ∨ ltP z y
theorem hull_ok {l : List (Int × Int)} (h : hullE l = 0) : HullOK l (hullF (sortC l)) := by
  unfold hullE at h
  split at h
  · cases h
  · rename_i h1
    split at h
    · cases h
    · rename_i h2
      split at h
      · cases h
      · rename_i h3
        obtain ⟨hq, hl, hm⟩ := hull_q h3
        refine ⟨hq, Valid.of_simple (by omega) (fun i => ?_) hq.simple, hm⟩
        have hr : rangedB l = true := by simpa using h2
        exact inR_iff.1 (List.all_eq_true.1 hr _ (hq.mem i))
theorem hull_area {l h : List (Int × Int)} (k : HullOK l h) : twiceF h = area (cor h) h.length ∧ 0 < area (cor h) h.length := by
  have ha := k.q.area
  have e : areaK h h.length = area (cor h) h.length := rfl
  unfold twiceF
  rw [if_pos (valid_iff.2 k.val), e]
  omega
/-- Is a plot convex? -/
def convB (l : List (Int × Int)) : Bool := !(anyN (fun i => (turn (cor l i) (cor l (i + 1)) (cor l (i + 2)) != 0) && (decide (0 < turn (cor l i) (cor l (i + 1)) (cor l (i + 2))) != decide (0 < areaK l l.length))) l.length)
theorem convB_iff {l : List (Int × Int)} (hv : Valid l) : convB l = true ↔ (0 < areaK l l.length → ∀ i, 0 ≤ turn (cor l i) (cor l (i + 1)) (cor l (i + 2))) ∧ (areaK l l.length < 0 → ∀ i, turn (cor l i) (cor l (i + 1)) (cor l (i + 2)) ≤ 0) := by
  have h3 := hv.lo
  have hne := hv.area_ne
  have hm : ∀ i, cor l (i % l.length) = cor l i ∧ cor l (i % l.length + 1) = cor l (i + 1) ∧ cor l (i % l.length + 2) = cor l (i + 2) := fun i => ⟨by have := cor_mod l i 0; simpa using this, cor_mod l i 1, cor_mod l i 2⟩
  unfold convB
  rw [Bool.not_eq_true']
  constructor
  · intro h
    have key : ∀ i, turn (cor l i) (cor l (i + 1)) (cor l (i + 2)) = 0 ∨ (0 < turn (cor l i) (cor l (i + 1)) (cor l (i + 2)) ↔ 0 < areaK l l.length) := fun i => by
      have := anyN_none h (i % l.length) (Nat.mod_lt _ (by omega))
      obtain ⟨e1, e2, e3⟩ := hm i
      rw [e1, e2, e3, Bool.and_eq_false_iff] at this
      rcases this with k | k
      · left; simpa using k
      · right
        have k : decide (0 < turn (cor l i) (cor l (i + 1)) (cor l (i + 2))) = decide (0 < areaK l l.length) := by simpa using k
        rwa [decide_eq_decide] at k
    exact ⟨fun ha i => by rcases key i with k | k <;> omega, fun ha i => by rcases key i with k | k <;> omega⟩
  · intro ⟨h1, h2⟩
    refine anyN_false fun i _ => ?_
    obtain ⟨t, ht⟩ : ∃ t, turn (cor l i) (cor l (i + 1)) (cor l (i + 2)) = t := ⟨_, rfl⟩
    rw [ht, Bool.and_eq_false_iff]
    by_cases h0 : t = 0
    · left; rw [h0]; rfl
    · right
      have : (0 < t) ↔ 0 < areaK l l.length := by
        rcases Int.lt_or_lt_of_ne hne with c | c
        · have := h2 c i; omega
        · have := h1 c i; omega
      rw [show decide (0 < t) = decide (0 < areaK l l.length) from decide_eq_decide.2 this]
      simp
theorem mem_cor {l : List (Int × Int)} (h : 0 < l.length) (y : Int × Int) : y ∈ l ↔ ∃ i, y = cor l i := by
  constructor
  · intro hy
    obtain ⟨i, hi, rfl⟩ := List.getElem_of_mem hy
    exact ⟨i, by rw [cor_lt hi, gi_lt hi]⟩
  · rintro ⟨i, rfl⟩
    unfold cor
    rw [gi_lt (Nat.mod_lt _ h)]
    exact List.getElem_mem _
/-- A plot has a convex plot around its corners; it is convex just if it is as large. -/
theorem convex_law {l : List (Int × Int)} (hv : Valid l) : hullE l = 0 ∧ twiceF l ≤ twiceF (hullF (sortC l)) ∧ (convB l = true ↔ twiceF (hullF (sortC l)) = twiceF l) := by
  have h3 := hv.lo
  have h10 := hv.hi
  have hs := hv.simple
  have hne := hv.area_ne
  have ea : area (cor l) l.length = areaK l l.length := rfl
  have hr : rangedB l = true := by
    refine List.all_eq_true.2 fun x hx => ?_
    obtain ⟨i, rfl⟩ := (mem_cor (by omega) x).1 hx
    exact inR_iff.2 (hv.rng i)
  have hlen : ¬ (hullF (sortC l)).length < 3 := fun h => by
    have hf := flatB_iff.1 ((flat_hull l).2 h)
    have hc0 : gi l (0, 0) 0 = cor l 0 := (cor_lt (by omega)).symm
    rw [hc0] at hf
    have hz : area (cor l) l.length = 0 := by
      rw [area_fan hs.per1]
      exact sumN_zero fun i _ => hf _ ((mem_cor (by omega) _).2 ⟨i, rfl⟩) _ ((mem_cor (by omega) _).2 ⟨i + 1, rfl⟩)
    rw [ea] at hz
    exact hne hz
  have he : hullE l = 0 := by
    unfold hullE
    rw [if_neg (by omega), if_neg (by rw [hr]; decide), if_neg hlen]
  have hk := hull_ok he
  obtain ⟨ha, hp⟩ := hull_area hk
  obtain ⟨a1, a2⟩ := hk.q.any hs (fun y => mem_cor (by omega) y)
  rw [ea] at a1 a2
  refine ⟨he, ?_⟩
  rw [ha, convB_iff hv]
  have et : twiceF l = max (areaK l l.length) (-(areaK l l.length)) := by unfold twiceF; rw [if_pos (valid_iff.2 hv)]
  rw [et]
  rcases Int.lt_or_lt_of_ne hne with c | c
  · obtain ⟨b1, b2⟩ := a2 c
    refine ⟨by omega, ?_⟩
    constructor
    · intro k
      have := b2.1 (k.2 c)
      omega
    · intro k
      have := b2.2 (by omega)
      exact ⟨fun q => by omega, fun _ => this⟩
  · obtain ⟨b1, b2⟩ := a1 c
    refine ⟨by omega, ?_⟩
    constructor
    · intro k
      have := b2.1 (k.1 c)
      omega
    · intro k
      have := b2.2 (by omega)
      exact ⟨fun _ => this, fun q => by omega⟩
end Go.Proofs.Ythiemglckmociaa
/- What Hull of package plot gives: the convex plot around points. Conditions: the list lies in memory as said. -/
namespace Go.Proofs.Ythiemglckmociaa
open Go.RowKit

theorem grown_refl (w : World) (r : Option Nat) : w.grownBy w r := ⟨rfl, rfl, rfl, Nat.le_refl _, fun _ _ _ => rfl⟩
theorem grown_drew {a b : World} {r : Option Nat} (h : a.grownBy b r) : a.grownBy b.drew r := ⟨h.os, h.tape, h.output, h.size, h.block⟩
set_option maxHeartbeats 4000000 in
set_option maxRecDepth 100000 in
theorem reverseG_calls (base g cap : Nat) (l : List (Int × Int)) (w : World) (h : w.ownsRow base 32 2 (.slice (some ⟨g, 0, none⟩) l.length cap) l.length (cells2 l)) (h0 : 0 < l.length) (hl : l.length ≤ 1000) :
    Calls Try.prog 84 #[.slice (some ⟨g, 0, none⟩) l.length cap] w fun e w' => e = .returned (.tuple #[]) ∧ w'.ownsRow base 32 2 (.slice (some ⟨g, 0, none⟩) l.length cap) l.length (cells2 l.reverse) ∧ w.grownBy w' (some g) := by
  have hg := own_block_le2 h g rfl
  have hgl := (h.lt g rfl).2
  have hcap : l.length ≤ cap ∧ cap ≤ 9223372036854775807 := by
    obtain ⟨_, ⟨e, _⟩ | ⟨g', cap', cur, e, _, _, h1, h2, _⟩⟩ := h
    · cases e
    · cases e; exact ⟨h1, by unfold maxLen at h2; omega⟩
  go_enter Try.func84, Try.ntmps84
  go_wp2_with fail
  go_loopw [2, 3] (fun s t wr => ∃ k : Nat, 2 * k ≤ l.length ∧ s = .int .i64 k ∧ t = .int .i64 ((l.length : Int) - 1 - k) ∧ wr.ownsRow base 32 2 (.slice (some ⟨g, 0, none⟩) l.length cap) l.length (cells2 (rvK l k)) ∧ w.grownBy wr (some g)) (fun s _ _ => l.length - (intOf s).toNat)
  case atStart => exact ⟨0, by omega, rfl, by simp, by rw [rvK_zero]; exact h, grown_refl _ _⟩
  case round =>
    obtain ⟨k, hk, rfl, rfl, hown, hbw⟩ := hrel
    by_cases hlt : 2 * k + 1 < l.length
    · have hg1 : decide ((k : Int) < (l.length : Int) - 1 - k) = true := decide_eq_true (by omega)
      obtain ⟨j, hj⟩ : ∃ j : Nat, (l.length : Int) - 1 - k = (j : Int) ∧ j = l.length - 1 - k := ⟨l.length - 1 - k, by omega, rfl⟩
      have hjk : k < j := by omega
      have hjn : j < l.length := by omega
      have e1 := (hown.cellAt (k * 2) (by omega)).trans (cells2_get1 _ k (by rw [rvK_length]; omega))
      have e2 := (hown.cellAt (k * 2 + 1) (by omega)).trans (cells2_get2 _ k (by rw [rvK_length]; omega))
      have e3 := (hown.cellAt (j * 2) (by omega)).trans (cells2_get1 _ j (by rw [rvK_length]; omega))
      have e4 := (hown.cellAt (j * 2 + 1) (by omega)).trans (cells2_get2 _ j (by rw [rvK_length]; omega))
      rw [rvK_left l k hlt] at e1 e2
      rw [hj.2, rvK_right l k hlt, ← hj.2] at e3 e4
      have f1 := hown.frozenAt (k * 2)
      have f2 := hown.frozenAt (k * 2 + 1)
      have f3 := hown.frozenAt (j * 2)
      have f4 := hown.frozenAt (j * 2 + 1)
      have HS := Lib.hid (rvK_swap l k hlt)
      rw [hj.1] at hg1 ⊢
      have HJ := Lib.hid hj
      clear hj
      go_wp2_with fail
      have hmixed : Try.prog.follows .mixedOrders = true := mixed
      go_big_region_o
      all_goals go_wp2_with fail
      have q1 := (hown.stored (k * 2) (.int .i64 (gi l (0, 0) j).1)).1
      have q2 := (q1.stored (k * 2 + 1) (.int .i64 (gi l (0, 0) j).2)).1
      have q3 := (q2.stored (j * 2) (.int .i64 (gi l (0, 0) k).1)).1
      have q4 := (q3.stored (j * 2 + 1) (.int .i64 (gi l (0, 0) k).2)).1
      rw [← cells2_put (rvK l k) k (gi l (0, 0) j), ← cells2_put _ j (gi l (0, 0) k), HJ.out.2, ← HS.out, ← HJ.out.2] at q4
      go_roundw
      case rel => exact ⟨k + 1, by omega, by go_num, by have := HJ.out; congr 1; omega, q4.drew, grown_drew (grown_trans (grown_trans (grown_trans (grown_trans hbw (grown_set _ ⟨g, _, none⟩ _)) (grown_set _ ⟨g, _, none⟩ _)) (grown_set _ ⟨g, _, none⟩ _)) (grown_set _ ⟨g, _, none⟩ _))⟩
      case measure => simp [intOf]; omega
    · have hg1 : decide ((k : Int) < (l.length : Int) - 1 - k) = false := decide_eq_false (by omega)
      go_wp2_with fail
      go_end0
      exact ⟨rfl, by rw [← rvK_done l k (by omega)]; exact hown, hbw⟩
theorem own_grown {w w' : World} {base size n : Nat} {e : TypeId} {v : Value} {xs : List Value} {g : Nat} (h : w.ownsRow base e size v n xs) (hg : w.grownBy w' (some g)) (hn : v.ownBlock ≠ some g) : w'.ownsRow base e size v n xs := h.kept hg (.inr hn)
/-- What compaction keeps. -/
theorem compact_mem {d : Array (Int × Int)} {x : Int × Int} : ∀ m, m ≤ d.size → (x ∈ Lib.compactUpTo d m ↔ ∃ i, i < m ∧ d[i]! = x)
  | 0, _ => by unfold Lib.compactUpTo; simp
  | m + 1, hm => by
    rw [Lib.compactUpTo_succ, List.mem_append, compact_mem m (by omega)]
    constructor
    · rintro (⟨i, hi, e⟩ | h)
      · exact ⟨i, by omega, e⟩
      · split at h
        · exact ⟨m, by omega, (List.mem_singleton.1 h).symm⟩
        · cases h
    · rintro ⟨i, hi, e⟩
      by_cases hk : Lib.keeps d m = true
      · rw [if_pos hk]
        rcases Nat.lt_succ_iff_lt_or_eq.1 hi with c | c
        · exact .inl ⟨i, c, e⟩
        · right; rw [← c, e]; simp
      · left
        rcases Nat.lt_succ_iff_lt_or_eq.1 hi with c | c
        · exact ⟨i, c, e⟩
        · subst c
          unfold Lib.keeps at hk
          have hk : ¬ (i = 0 ∨ d[i]! ≠ d[i - 1]!) := by simpa using hk
          have h0 : i ≠ 0 := fun e => hk (.inl e)
          have h1 : d[i]! = d[i - 1]! := Classical.byContradiction fun e => hk (.inr e)
          exact ⟨i - 1, by omega, by rw [← h1]; exact e⟩
theorem compact_sorted {d : Array (Int × Int)} (hs : ∀ i j, i < j → j < d.size → ¬ lexLt d[j]! d[i]!) : (Lib.compactUpTo d d.size).Pairwise ltP := by
  unfold Lib.compactUpTo
  rw [List.pairwise_map, List.pairwise_filter]
  have hr : (List.range d.size).Pairwise fun i j => i < j ∧ j < d.size := by
    rw [List.pairwise_iff_getElem]
    intro i j hi hj hij
    simp at hi hj ⊢
    omega
  refine hr.imp fun {i j} ⟨h1, h2⟩ _ hk => ?_
  unfold Lib.keeps at hk
  have hk : j = 0 ∨ d[j]! ≠ d[j - 1]! := by simpa using hk
  have hne : d[j]! ≠ d[j - 1]! := hk.resolve_left (by omega)
  have a1 : ¬ lexLt d[j]! d[j - 1]! := hs _ _ (by omega) h2
  have a2 : ltP d[j - 1]! d[j]! := by
    rcases ltP.tri d[j - 1]! d[j]! with c | c | c
    · exact c
    · exact absurd c.symm hne
    · exact absurd c a1
  by_cases hij : i = j - 1
  · rw [hij]; exact a2
  · have a3 : ¬ lexLt d[j - 1]! d[i]! := hs _ _ (by omega) (by omega)
    rcases ltP.tri d[i]! d[j - 1]! with c | c | c
    · exact c.trans a2
    · rw [c]; exact a2
    · exact absurd c a3
theorem dd_sorted {l l' : List (Int × Int)} (hp : l'.Perm l) (hs : l'.Pairwise (fun a b => ¬ lexLt b a)) : ddF l' = sortC l := by
  have e : ddF l' = Lib.compactUpTo l'.toArray l'.toArray.size := by unfold ddF Lib.compact; simp
  rw [List.pairwise_iff_getElem] at hs
  refine sorted_one ?_ (sortC_sorted l) fun x => ?_
  · rw [e]
    refine compact_sorted fun i j hij hj => ?_
    have hj' : j < l'.length := by simpa using hj
    rw [arr_get hj', arr_get (by omega), gi_lt hj', gi_lt (by omega)]
    exact hs i j (by omega) hj' hij
  · rw [e, compact_mem _ (Nat.le_refl _), sortC_mem, ← hp.mem_iff]
    constructor
    · rintro ⟨i, hi, h⟩
      have hi' : i < l'.length := by simpa using hi
      rw [arr_get hi', gi_lt hi'] at h
      rw [← h]; exact List.getElem_mem _
    · intro h
      obtain ⟨i, hi, h⟩ := List.getElem_of_mem h
      exact ⟨i, by simpa using hi, by rw [arr_get hi, gi_lt hi]; exact h⟩
theorem hullE_cases (l : List (Int × Int)) : (10 < l.length → hullE l = 3 ∧ hullL l = []) ∧ (l.length ≤ 10 → rangedB l = false → hullE l = 1 ∧ hullL l = []) ∧ (l = [] → hullE l = 8 ∧ hullL l = []) ∧
    (l.length ≤ 10 → rangedB l = true → (hullF (sortC l)).length < 3 → hullE l = 8 ∧ hullL l = []) ∧ (l.length ≤ 10 → rangedB l = true → ¬ (hullF (sortC l)).length < 3 → hullE l = 0 ∧ hullL l = hullF (sortC l)) := by
  have key : ∀ e, hullE l = e → e ≠ 0 → hullE l = e ∧ hullL l = [] := fun e h h0 => ⟨h, by unfold hullL; rw [if_neg (by rw [h]; exact h0)]⟩
  refine ⟨fun h => key 3 ?_ (by decide), fun h h2 => key 1 ?_ (by decide), fun h => key 8 ?_ (by decide), fun h h2 h3 => key 8 ?_ (by decide), fun h h2 h3 => ?_⟩
  · unfold hullE; rw [if_pos h]
  · unfold hullE; rw [if_neg (by omega), if_pos h2]
  · subst h; rfl
  · unfold hullE; rw [if_neg (by omega), if_neg (by rw [h2]; decide), if_pos h3]
  · have e : hullE l = 0 := by unfold hullE; rw [if_neg (by omega), if_neg (by rw [h2]; decide), if_neg h3]
    exact ⟨e, by unfold hullL; rw [if_pos e]⟩
theorem hrange_enters : ∀ args w, (callFunc 78 args).run Try.prog w = .ok (.enter 78 args) w := fun args w => enters_of Try.func78 (by kernel_rfl) rfl args w
theorem hull_len (s : List (Int × Int)) : (hullF s).length = (chainF s).length + (chainF s.reverse).length := by unfold hullF; rw [List.length_append]
theorem popF_len (x : Int × Int) : ∀ st : List (Int × Int), (popF x st).length ≤ st.length
  | [] => Nat.le_refl _
  | [_] => Nat.le_refl _
  | b :: a :: r => by
    unfold popF
    split
    · exact Nat.le_succ_of_le (popF_len x (a :: r))
    · exact Nat.le_refl _
theorem chK_len (l : List (Int × Int)) : ∀ k, k ≤ l.length → (chK l k).length ≤ k
  | 0, _ => Nat.le_refl _
  | k + 1, h => by
    rw [chK_succ (by omega), List.length_cons]
    have := popF_len (gi l (0, 0) k) (chK l k)
    have := chK_len l k (by omega)
    omega
theorem chainF_len (l : List (Int × Int)) : (chainF l).length ≤ l.length := by
  unfold chainF
  rw [List.length_reverse, List.length_tail, ← chK_all]
  have := chK_len l l.length (Nat.le_refl _)
  omega
theorem sortC_len (l : List (Int × Int)) : (sortC l).length ≤ l.length := by
  refine nodup_len ?_ fun x hx => (sortC_mem x l).1 hx
  refine (sortC_sorted l).imp fun {a b} h e => ?_
  rw [e] at h; exact h.irr
set_option maxHeartbeats 4000000 in
set_option maxRecDepth 100000 in
theorem Hull_calls (v : Value) (l : List (Int × Int)) (w : World) (h : PairsAt w v l) : GivesPts Try.prog 35 #[v] w (hullL l) (hullE l) := by
  have HP := Lib.hid h
  obtain ⟨k1, k2, k3, k4, k5⟩ := hullE_cases l
  obtain ⟨sa, cap, rfl, hlc, hcm, -⟩ := h
  have HCF : ∀ W, Below w.heap.size w W → Gives Try.prog 62 #[.slice sa l.length cap, .func (.func 78) #[] #[]] W (.bool (l.any fun x => !(inR x))) := fun W hb => containsFunc_pts _ l 78 #[] (fun x => !(inR x)) _ (HP.out.below hb) hrange_enters (fun x w' _ => rangeH_calls x w')
  rw [any_inR] at HCF
  obtain ⟨rb, hrb⟩ : ∃ b, rangedB l = b := ⟨_, rfl⟩
  rw [hrb] at HCF
  have HC := Lib.hid HCF
  clear HCF
  unfold GivesPts
  by_cases h10 : 10 < l.length
  · have x0 : decide ((10 : Int) < (l.length : Int)) = true := decide_eq_true (by omega)
    have HK := Lib.hid (k1 h10)
    clear k1 k2 k3 k4 k5 hrb
    go_enter Try.func35, Try.ntmps35
    go_wp2_with fail
    refine bodyPost_ret (v := .tuple #[.slice none 0 0, .int .i64 3]) (by simp [results, Try.f35, go_sem]) rfl ?_
    exact ⟨_, by rw [HK.out.1], by rw [HK.out.2]; exact World.ownsRow_nil _ _ _ _, Below.refl _ _⟩
  · have x0 : decide ((10 : Int) < (l.length : Int)) = false := decide_eq_false (by omega)
    cases rb
    · have HK := Lib.hid (k2 (by omega) hrb)
      clear k1 k2 k3 k4 k5 hrb
      go_enter Try.func35, Try.ntmps35
      go_wp2_with (go_at_call 62; refine (HC.out _ (by (repeat' (first | exact Below.refl _ _ | assumption | refine below_new ?_ _ | refine below_draw ?_ | refine below_tail (by assumption) ?_ | refine below_set ?_ (by first | omega | (simp <;> omega)) _)))).use ?_; intro w1 hb1 hz1 hc1 hf1; clear hc1 hf1)
      refine bodyPost_ret (v := .tuple #[.slice none 0 0, .int .i64 1]) (by simp [results, Try.f35, go_sem]) rfl ?_
      exact ⟨_, by rw [HK.out.1], by rw [HK.out.2]; exact World.ownsRow_nil _ _ _ _, by (repeat' (first | exact Below.refl _ _ | assumption | refine below_new ?_ _ | refine below_draw ?_ | refine below_tail (by assumption) ?_ | refine below_set ?_ (by first | omega | (simp <;> omega)) _))⟩
    · by_cases hn : l = []
      · have HK := Lib.hid (k3 hn)
        have hl0 : l.length = 0 := by rw [hn]; rfl
        have x1 : ((l.length : Int) == 0) = true := by rw [hl0]; rfl
        clear k1 k2 k3 k4 k5 hrb hn hl0
        go_enter Try.func35, Try.ntmps35
        go_wp2_with (go_at_call 62; refine (HC.out _ (by (repeat' (first | exact Below.refl _ _ | assumption | refine below_new ?_ _ | refine below_draw ?_ | refine below_tail (by assumption) ?_ | refine below_set ?_ (by first | omega | (simp <;> omega)) _)))).use ?_; intro w1 hb1 hz1 hc1 hf1; clear hc1 hf1)
        refine bodyPost_ret (v := .tuple #[.slice none 0 0, .int .i64 8]) (by simp [results, Try.f35, go_sem]) rfl ?_
        exact ⟨_, by rw [HK.out.1], by rw [HK.out.2]; exact World.ownsRow_nil _ _ _ _, by (repeat' (first | exact Below.refl _ _ | assumption | refine below_new ?_ _ | refine below_draw ?_ | refine below_tail (by assumption) ?_ | refine below_set ?_ (by first | omega | (simp <;> omega)) _))⟩
      · have hl0 : 0 < l.length := List.length_pos_iff.2 hn
        have x1 : ((l.length : Int) == 0) = false := by
          have : ¬ (l.length : Int) = 0 := by omega
          simpa using this
        have hbd : ∀ y ∈ sortC l, bdP y := fun y hy => by
          have := inR_iff.1 (List.all_eq_true.1 hrb y ((sortC_mem y l).1 hy))
          unfold bdP; omega
        obtain ⟨s, hs⟩ : ∃ s, sortC l = s := ⟨_, rfl⟩
        have hs0 : 0 < s.length := by
          obtain ⟨z, r, hz⟩ := List.exists_cons_of_ne_nil hn
          have : z ∈ s := by rw [← hs, sortC_mem, hz]; simp
          exact List.length_pos_of_mem this
        have hs10 : s.length ≤ 10 := by have := sortC_len l; rw [hs] at this; omega
        have K4 := Lib.hid (k4 (by omega) hrb)
        have K5 := Lib.hid (k5 (by omega) hrb)
        rw [hs] at hbd K4 K5
        have HS := Lib.hid hs
        have HBD := Lib.hid hbd
        have HBR : Hid (∀ y ∈ s.reverse, bdP y) := fun y hy => hbd y (List.mem_reverse.1 hy)
        have hr0 : s.reverse.length = s.length := List.length_reverse
        have HRL := Lib.hid hr0
        have hc1 : (chainF s).length ≤ s.length := chainF_len s
        have hc2 : (chainF s.reverse).length ≤ s.length := by have := chainF_len s.reverse; omega
        have HHL := Lib.hid (hull_len s)
        have HHF : Hid (hullF s = chainF s ++ chainF s.reverse) := rfl
        obtain ⟨i0, hi0, hz0, hi1, hi2⟩ := info_parts infoPoint
        obtain ⟨N, hN⟩ : ∃ N, N = (chainF s).length + (chainF s.reverse).length := ⟨_, rfl⟩
        have HN8 := Lib.hid hN
        clear k1 k2 k3 k4 k5 hrb hn hs hbd hr0
        obtain ⟨b, hb⟩ : ∃ b, decide ((N : Int) < 3) = b := ⟨_, rfl⟩
        have HB := Lib.hid hb
        clear hN
        go_enter Try.func35, Try.ntmps35
        go_wp2_with (first
          | (go_at_call 62; refine (HC.out _ (by (repeat' (first | exact Below.refl _ _ | assumption | refine below_new ?_ _ | refine below_draw ?_ | refine below_tail (by assumption) ?_ | refine below_set ?_ (by first | omega | (simp <;> omega)) _)))).use ?_; intro w1 hb1 hz1 hc1 hf1; clear hc1 hf1)
          | (go_at_call 81; refine (values_calls _ _ _ _).mono ?_; rintro e w2 ⟨rfl, rfl⟩)
          | (go_at_call 80; refine (sortedP_calls w1.heap.size (.slice sa l.length cap) l _ (by simp [go_sem]) (HP.out.below (by (repeat' (first | exact Below.refl _ _ | assumption | refine below_new ?_ _ | refine below_draw ?_ | refine below_tail (by assumption) ?_ | refine below_set ?_ (by first | omega | (simp <;> omega)) _)))) hl0 (by omega)).mono ?_; rintro e w3 ⟨g, cp, l', rfl, hp, hs, hown3, hb3⟩; have hl1 : 0 < l'.length := (by rw [hp.length_eq]; exact hl0); have hl2 : l'.length ≤ 1000 := (by rw [hp.length_eq]; omega); have HDS := Lib.hid ((dd_sorted hp hs).trans HS.out); have hW2 : w.heap.size ≤ (w1.alloc (.cells #[.slice sa l.length cap] 22)).heap.size := (by simp; omega); have HO3 := Lib.hid (own_base hown3 hW2); have hB3 : Below w.heap.size w w3 := below_tail hb3 (below_new (by (repeat' (first | exact Below.refl _ _ | assumption | refine below_new ?_ _ | refine below_draw ?_ | refine below_tail (by assumption) ?_ | refine below_set ?_ (by first | omega | (simp <;> omega)) _))) _); have hz3 := hB3.size; have hgw : w.heap.size ≤ g := own_block_le2 HO3.out g rfl; clear hp hs hown3 hb3)
          | (go_at_call 79; refine (compactP_is HO3.out hl1 hl2 HDS.out).mono ?_; rintro e w4 ⟨rfl, hown4, hz4, hb4⟩; have hB4 : Below w.heap.size w w4 := hB3.trans hb4; have HO4 := Lib.hid hown4; have hg4 := (hown4.lt g rfl).2; clear hown4)
          | (go_at_call 83; first
              | ((with_reducible refine (chain_calls _ s _ (own_pairs HO4.out) hs0 (by omega) HBD.out).mono ?_); rintro e w5 ⟨v5, rfl, hown5, hb5⟩; obtain ⟨a5, c5, rfl⟩ := own_slice hown5; have hB5 : Below w.heap.size w w5 := below_tail hb5 hB4; have HO4b := Lib.hid (own_below HO4.out hb5); have HNE : Hid ((Value.slice a5 (chainF s).length c5).ownBlock ≠ some g) := ne_old hown5 hg4; have HO5 := Lib.hid (own_base hown5 hB4.size); clear hown5)
              | ((with_reducible refine (chain_calls _ s.reverse _ (HRL.out ▸ own_pairs (HRL.out.symm ▸ HO6.out)) (by rw [HRL.out]; exact hs0) (by rw [HRL.out]; omega) HBR.out).mono ?_); rintro e w7 ⟨v7, rfl, hown7, hb7⟩; obtain ⟨a7, c7, rfl⟩ := own_slice hown7; have hB7 : Below w.heap.size w w7 := below_tail hb7 hB6; have HO5c := Lib.hid (own_below HO5b.out hb7); have HP7 := Lib.hid (own_pairs hown7); clear hown7))
          | (go_at_call 84; refine (reverseG_calls w.heap.size g cp s _ HO4b.out hs0 (by omega)).mono ?_; rintro e w6 ⟨rfl, hown6, hgr6⟩; have hB6 : Below w.heap.size w w6 := hB5.grown hgr6 hB5.size (fun k e => by cases e; exact hgw); have HO5b := Lib.hid (own_grown HO5.out hgr6 HNE.out); have HO6 := Lib.hid hown6; clear hown6)
          | (at_builtin; refine wpList_append_any rfl _ _ 22 rfl w.heap.size 32 i0 (.agg #[.int .i64 0, .int .i64 0]) 2 16 Try.underlying22 hi0 hz0 hi1 hi2 rfl (by decide) _ _ _ rfl HO5c.out _ _ _ rfl (pairs_src HP7.out) (by unfold maxLen; omega) (by omega) hB7.size ?_; intro v8 w8 hown8 hgrow8 _; rw [← HN8.out] at hown8; obtain ⟨a8, c8, rfl⟩ := own_slice hown8; have HO8 := Lib.hid hown8; have hB8 : Below w.heap.size w w8 := hB7.grown hgrow8 hB7.size (own_block_le2 HO5c.out); clear hown8))
        all_goals first
          | (have HK := Lib.hid (K5.out (by rw [HHL.out, ← HN8.out]; have := of_decide_eq_false (HB.out.trans (by assumption : b = false)); omega))
             refine bodyPost_ret (v := .tuple #[.slice a8 N c8, .int .i64 0]) (by simp [results, Try.f35, go_sem]) rfl ?_
             refine ⟨_, by rw [HK.out.1], ?_, hB8⟩
             rw [HK.out.2, HHL.out, HHF.out, cells2_append, ← HN8.out]
             exact HO8.out)
          | (have HK := Lib.hid (K4.out (by rw [HHL.out, ← HN8.out]; have := of_decide_eq_true (HB.out.trans (by assumption : b = true)); omega))
             refine bodyPost_ret (v := .tuple #[.slice none 0 0, .int .i64 8]) (by simp [results, Try.f35, go_sem]) rfl ?_
             exact ⟨_, by rw [HK.out.1], by rw [HK.out.2]; exact World.ownsRow_nil _ _ _ _, hB8⟩)
end Go.Proofs.Ythiemglckmociaa
