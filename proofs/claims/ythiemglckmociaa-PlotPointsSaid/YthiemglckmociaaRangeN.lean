/- A loop over a function within a round of another such loop. No program in sight. Conditions: the loop's invariant speaks of blocks that lay before the loop began. -/
import Derived.Test.YthiemglckmociaaRange
namespace Go.Proofs.Ythiemglckmociaa
open Go.RowKit Go.Shelf

theorem wide_rangeFuncN {P : Program} {n l0 : Nat} {g : Operand} {ps : Array Tmp} {assign body : Code} {Q : Exit → Act → World → Prop} {a : Act} {w : World}
    {gf : Nat} {lb : Array Value} (hl0 : ∃ r, w.heap[l0]? = some (.loop r)) (hg : a.eval g = .func (.func gf) #[] lb) (eg : ∀ args w, (callFunc gf args).run P w = .ok (.enter gf args) w)
    {enc : Nat → Array Value} {N : Option Nat} {R : World → Prop} (hseq : Iter P gf lb enc N R) (hps : ∀ k, (enc k).size = ps.size)
    (I : Nat → World → Prop) (Ix : Code → Nat → World → Prop)
    (hR : ∀ k W, I k W → R W)
    (hI : ∀ k W W', I k W → Below w.heap.size W W' → I k W')
    (hIx : ∀ c k W W', Ix c k W → Below w.heap.size W W' → Ix c k W')
    (hM : N = none → ∀ k W1, I k W1 → k < 1000000)
    (h0 : I 0 w) (Ax : Nat → Act → World → Prop) (hAx : ∀ k a' W W', Ax k a' W → Below w.heap.size W W' → Ax k a' W')
    (hassign : ∀ (l : Nat) (k : Nat) (W : World) (K : Act → World → Prop), w.heap.size ≤ W.heap.size → I k W → (∀ m, N = some m → k < m) → (∀ a' W', KeepsOthers W W' → I k W' → Ax k a' W' → K a' W') →
      assign.wpIn (Fence.wide.inRound l) (n - 1 - 1) P (Exit.then K (fun _ _ _ => False)) { tmps := (ps.zip (enc k)).foldl (fun t (p, v) => t.setIfInBounds p v) a.tmps, defers := [] } W)
    (hbody : ∀ (l : Nat) (k : Nat) (a' : Act) (W : World), w.heap.size ≤ l → (∃ r, W.heap[l]? = some (.loop r)) → w.heap.size ≤ W.heap.size → I k W → Ax k a' W → (∀ m, N = some m → k < m) →
      body.wpIn (Fence.wide.inRound l) (n - 1 - 1) P (bodyEnds I Ix k W) a' W)
    (hdone : ∀ (m : Nat) (W : World), N = some m → I m W → Q .normal a W)
    (hstop : ∀ (c : Code) (k : Nat) (W : World), Ix c k W → c.wpIn (Fence.wide.inRound l0) n P Q a W) :
    (Code.rangeFunc g ps assign body).wpIn (Fence.wide.inRound l0) n P Q a w := by
  obtain ⟨r0, hl0⟩ := hl0
  refine wpIn_rangeFunc ?_
  intro fn hfn
  obtain ⟨rec, hrec⟩ : ∃ rec : LoopState → Option Code → Loop, rec = fun st pe => { state := st, pending := pe, fn, tmps := a.tmps, params := ps, assign, body, defers := r0.defers } := ⟨_, rfl⟩
  obtain ⟨W1, hW1⟩ : ∃ W1, w.alloc (.loop (rec .ready none)) = W1 := ⟨_, rfl⟩
  have hL1 : W1.heap[w.heap.size]? = some (.loop (rec .ready none)) := by rw [← hW1]; exact World.alloc_heap_new w _
  have hb1 : Below w.heap.size w W1 := by
    rw [← hW1]; exact (Below.refl _ w).alloc (Nat.le_refl _) _
  have hI1 : I 0 W1 := hI _ _ _ h0 hb1
  have put : ∀ (W : World) (l : Nat) (o : Obj), w.heap.size ≤ l → w.heap.size ≤ W.heap.size → Below w.heap.size W (W.putObj l o) := fun W l o hl hs =>
    (Below.refl _ W).grown (grownBy_putObj' W l o) hs (fun k e => by cases e; exact hl)
  refine ⟨w.heap.size, [], W1, { target := .fn (.func gf) lb, args := #[.func (.yield w.heap.size) #[] #[]] }, W1, gf,
    #[.func (.yield w.heap.size) #[] #[]] ++ lb, W1, ?_, ?_, ?_, ?_, ?_, ?_⟩
  · rw [← hW1, hrec]; exact run_enterLoop_inner hl0 _ _ _ _ _
  · simp only [resolve, hg]
    simp [go_sem]
  · intro f' _; exact trivial
  · simp [invoke, go_sem, eg]
  · intro h; cases h
  · refine CallsIn.inRound l0 ((hseq (n - 1) w.heap.size
      (fun k W => I k W ∧ w.heap.size ≤ W.heap.size ∧ W.heap[w.heap.size]? = some (.loop (rec .ready none)))
      (fun k W => ∃ c, Ix c k W ∧ w.heap.size ≤ W.heap.size ∧ W.heap[w.heap.size]? = some (.loop (rec .done (some c))))
      W1 (fun k W h => hR k W h.1) ?_ ?_ ?_ ?_ ⟨hI1, hb1.size, hL1⟩).mono ?_)
    · rintro k A B ⟨hi, hs, hl⟩ hb
      exact ⟨hI _ _ _ hi (hb.mono hs), Nat.le_trans hs hb.size, (hb.block _ (Array.getElem?_eq_some_iff.1 hl).1).trans hl⟩
    · rintro k A B ⟨c, hi, hs, hl⟩ hb
      exact ⟨c, hIx _ _ _ _ hi (hb.mono hs), Nat.le_trans hs hb.size, (hb.block _ (Array.getElem?_eq_some_iff.1 hl).1).trans hl⟩
    · rintro k W ⟨hi, hsz, hl⟩ hlen
      have hy := run_yield (P := P) (args := enc k) hl (by rw [hrec]; exact hps k)
      rw [hrec] at hy
      refine ⟨fn, _, assign, body, hy, roundIn_of_wpIn hfn (hassign _ k W _ hsz hi hlen ?_)⟩
      clear hy
      intro a' Wa hkfa hia hax
      replace hl := hkfa.same _ _ hl rfl
      replace hsz := Nat.le_trans hsz hkfa.size
      have hlt : w.heap.size < Wa.heap.size := (Array.getElem?_eq_some_iff.1 hl).1
      refine ⟨_, run_beginRound hl (by rw [hrec]), ?_⟩
      have hl2 : (Wa.putObj (w.heap.size) (.loop { rec .ready none with state := .busy })).heap[w.heap.size]? = some (.loop { rec .ready none with state := .busy }) := World.putObj_heap_same hlt
      have hp2 := put Wa (w.heap.size) (.loop { rec .ready none with state := .busy }) (by omega) hsz
      refine wpIn_mono (hbody _ k a' _ (by omega) ⟨_, hl2⟩ (Nat.le_trans hsz hp2.size) (hI _ _ _ hia hp2) (hAx _ _ _ _ hax hp2) hlen) ?_
      have fin : ∀ (jump : Option Code) (W3 : World), KeepsOthers (Wa.putObj (w.heap.size) (.loop { rec .ready none with state := .busy })) W3 →
          (Instr.endRound (w.heap.size) jump).run P W3 = .ok (.bool jump.isNone) (W3.putObj (w.heap.size) (.loop (rec (if jump.isNone then .ready else .done) jump))) ∧
          W3.heap[w.heap.size]? = some (.loop { rec .ready none with state := .busy }) ∧
          (W3.putObj (w.heap.size) (.loop (rec (if jump.isNone then .ready else .done) jump))).heap[w.heap.size]? = some (.loop (rec (if jump.isNone then .ready else .done) jump)) ∧
          Below w.heap.size W3 (W3.putObj (w.heap.size) (.loop (rec (if jump.isNone then .ready else .done) jump))) ∧
          w.heap.size ≤ (W3.putObj (w.heap.size) (.loop (rec (if jump.isNone then .ready else .done) jump))).heap.size := fun jump W3 hk3 => by
        have hl3 := hk3.same _ _ hl2 rfl
        have hs3 : w.heap.size ≤ W3.heap.size := Nat.le_trans (Nat.le_trans hsz hp2.size) hk3.size
        have hp3 := put W3 (w.heap.size) (.loop (rec (if jump.isNone then .ready else .done) jump)) (by omega) hs3
        have := run_endRound (P := P) jump hl3
        rw [hrec] at this ⊢
        exact ⟨this, by rw [hrec] at hl3; exact hl3, World.putObj_heap_same (Array.getElem?_eq_some_iff.1 hl3).1, by rw [hrec] at hp3; exact hp3, by rw [hrec] at hp3; exact Nat.le_trans hs3 hp3.size⟩
      rintro e a3 W3 hp
      cases e with
      | normal =>
        obtain ⟨hk3, hi3⟩ := hp
        obtain ⟨hr, hl3, hl4, hp4, hs4⟩ := fin none W3 hk3
        exact ⟨_, _, hr, .inl ⟨rfl, hI _ _ _ hi3 hp4, hs4, hl4⟩⟩
      | ret =>
        obtain ⟨hk3, hi3⟩ := hp
        obtain ⟨hr, hl3, hl4, hp4, hs4⟩ := fin (some .ret) W3 hk3
        exact ⟨_, _, hr, .inr ⟨rfl, .ret, hIx _ _ _ _ hi3 hp4, hs4, hl4⟩⟩
      | exit id =>
        obtain ⟨hk3, hi3⟩ := hp
        obtain ⟨hr, hl3, hl4, hp4, hs4⟩ := fin (some (.exit id)) W3 hk3
        exact ⟨_, _, hr, .inr ⟨rfl, .exit id, hIx _ _ _ _ hi3 hp4, hs4, hl4⟩⟩
      | goto t =>
        obtain ⟨hk3, hi3⟩ := hp
        obtain ⟨hr, hl3, hl4, hp4, hs4⟩ := fin (some (.goto t)) W3 hk3
        exact ⟨_, _, hr, .inr ⟨rfl, .goto t, hIx _ _ _ _ hi3 hp4, hs4, hl4⟩⟩
      | panic ch => exact hp.elim
      | outgrown => exact hp.elim
    · intro hN k W1 hk
      exact hM hN k W1 hk.1
    · rintro e W2 ⟨⟨v, rfl⟩, (⟨m, hN, hi, hs, hl⟩ | ⟨k, c, hi, hs, hl⟩)⟩
      · exact ⟨none, _, by have := run_endLoop (P := P) hl (by rw [hrec]; simp); rw [hrec] at this; exact this,
          hdone m _ hN (hI _ _ _ hi (put W2 _ _ (by omega) hs))⟩
      · exact ⟨some c, _, by have := run_endLoop (P := P) hl (by rw [hrec]; simp); rw [hrec] at this; exact this,
          hstop c k _ (hIx _ _ _ _ hi (put W2 _ _ (by omega) hs))⟩

end Go.Proofs.Ythiemglckmociaa
