/- A region that draws its order, within a round of a loop over a function: walked once in the order of the text, or by an invariant. No program in sight. Conditions: the region holds no defer statement. -/
import Derived.Test.YthiemglckmociaaMem
import Derived.Test.YthiemglckmociaaRegInv
import Derived.Test.YthiemglckmociaaRange
import Derived.StillTail
import Derived.StillTactics
namespace Go.Proofs.Ythiemglckmociaa
open Go.RowKit

/-- No operation is a defer statement. -/
def noDefer (ops : Array Oper) : Bool := ops.all fun o => match o.op with | .defer _ => false | _ => true
theorem noDefer_spec {ops : Array Oper} (h : noDefer ops = true) {i : Nat} {o : Oper} (ho : ops[i]? = some o) : ∀ c, o.op ≠ .defer c := by
  intro c hc
  unfold noDefer at h
  have h1 := Array.all_eq_true_iff_forall_mem.1 h o (Array.mem_of_getElem? ho)
  rw [hc] at h1; cases h1

variable {P : Program} {ops : Array Oper} {C : World → Prop} {n l : Nat}

theorem wpInR_of_quiet {o : Oper} {a : Act} {K : Act → Prop} {K' : Act → World → Prop} {Q' : Exit → Act → World → Prop} {w : World} (hd : ∀ c, o.op ≠ .defer c) (hw : C w) (h : ∀ a w', C w' → K a → K' a w')
    (hh : o.quiet P a C K) : o.wpIn (Fence.wide.inRound l) n P a w K' Q' := by
  obtain ⟨v, h1, h2⟩ := hh
  have h3 := h1 w hw
  unfold Oper.quietAt at h3
  unfold Oper.wpIn
  refine ⟨fun _ _ => trivial, ?_⟩
  rw [Oper.semAt_plain _ _ _ hd]
  generalize (execOp a.eval o).run P w = r at *
  cases r with
  | ok x w' =>
    cases x <;> simp only [Oper.quietUpon] at h3 <;> simp only [Oper.uponIn]
    case value u =>
      obtain ⟨e1, e2⟩ := h3
      rw [e1, e2]
      exact h _ _ hw h2
    case skip =>
      obtain ⟨e1, e2⟩ := h3
      rw [e1, ← e2]
      exact h _ _ hw h2
    case enter f args =>
      obtain ⟨e1, hc⟩ := h3
      rw [e1]
      exact ⟨fun k => (by cases k), Calls.useR (hc.mono fun e w'' ⟨he, hw''⟩ => by subst he; exact h _ _ hw'' h2)⟩
  | halt x w' => simp only [Oper.quietUpon] at h3

theorem wpOpInR_of_qOp {i : Nat} {a : Act} {K : Act → Prop} {K' : Act → World → Prop} {Q' : Exit → Act → World → Prop} {w : World} (hnd : noDefer ops = true) (hC : C w) (h : ∀ a w', C w' → K a → K' a w')
    (hh : qOp P ops C i K a) : wpOpIn (Fence.wide.inRound l) n P ops Q' i K' a w := by
  unfold qOp at hh
  unfold wpOpIn
  split
  · rename_i ho; simp only [ho] at hh; exact h _ _ hC hh
  · rename_i o ho
    simp only [ho] at hh
    split
    · rename_i hw; simp only [hw, if_true] at hh; exact wpInR_of_quiet (noDefer_spec hnd ho) hC h hh
    · rename_i hw; simp only [hw] at hh; exact ⟨fun _ _ => trivial, h _ _ hC hh⟩

theorem wpAnyInR_of_quiet {md : Region.Mode} {Q : Act → Prop} {Q' : Exit → Act → World → Prop} (hnd : noDefer ops = true) (hQ : ∀ a w, C w → Q a → Q' .normal a w) : ∀ (fuel : Nat) (listed : Array Bool) (a : Act) (w : World), C w →
    wpAnyQ P md ops C Q fuel listed a → wpAnyIn (Fence.wide.inRound l) n P md ops Q' fuel listed a w
  | 0, _, _, _, hw, h => ⟨h.1, hQ _ _ hw h.2⟩
  | fuel + 1, _, _, _, hw, h => ⟨fun h0 => hQ _ _ hw (h.1 h0), fun i hi => wpOpInR_of_qOp hnd hw (fun a' w' hw' => wpAnyInR_of_quiet hnd hQ fuel _ a' w' hw') (h.2 i hi)⟩

theorem wpR_region_quiet {id : Nat} {Q : Exit → Act → World → Prop} {a : Act} {w : World} (hnd : noDefer ops = true) (hm : P.follows .mixedOrders = true) (hB : Region.lexB .any ops = true) (hC : C { w with drawn := w.drawn + 1 })
    (h : wpQuiet P ops C (fun a' => ∀ w', C w' → Q .normal a' w') ops.toList a) : (Code.region id ops true).wpIn (Fence.wide.inRound l) n P Q a w := by
  simp only [Region.lexB, Bool.and_eq_true] at hB
  refine wpIn_region_any hm (wpAnyInR_of_quiet (Q := fun a' => ∀ w', C w' → Q .normal a' w') hnd (fun _ w' hw' h => h w' hw') _ _ _ _ hC ?_)
  have := wpAnyQ_lex (C := C) (md := .any) hB.1 ops.toList 0 (Array.replicate ops.size false) a (by simp) (by simpa using hB.2) h
  simpa using this

/-- As region_q, within a round. -/
theorem regionR_q {id : Nat} {Q : Exit → Act → World → Prop} {a : Act} {w : World} {ol : List Oper} (hm : P.follows .mixedOrders = true) (hnd : noDefer ol.toArray = true) (hB : Region.lexB .any ol.toArray = true)
    (h : wpQuiet P ol.toArray (fun w' => ∃ p : Regrown, w' = Go.Sort.grow (redrawn w p.d) p.os) (fun a' => ∀ w', Below w.heap.size w w' → Q .normal a' w') ol a) : (Code.region id ol.toArray true).wpIn (Fence.wide.inRound l) n P Q a w :=
  wpR_region_quiet (C := fun w' => ∃ p : Regrown, w' = Go.Sort.grow (redrawn w p.d) p.os) hnd hm hB ⟨⟨w.drawn + 1, #[]⟩, by rw [Go.Sort.grow_empty]; rfl⟩
    (wpQuiet_post (fun a' h' w' hw' => by obtain ⟨p, rfl⟩ := hw'; exact h' _ (below_regrown w p.d p.os)) _ _ (by simpa using h))

/-- An operation that is no call. -/
def onlyN (Q : Act → World → Prop) : Exit → Act → World → Prop
  | .normal, a, w => Q a w
  | _, _, _ => False

theorem rowsInR {row : String} {args : Array Value} {w : World} {R : Value → World → Prop} (h : Rows P row args w R) : RowsIn (Fence.wide.inRound l) n P row args w R :=
  fun c cs _ => let ⟨v, w', r, s⟩ := h c cs; ⟨v, w', r, stepsIn_wide.2 s⟩
theorem wpOpInR_of_wpOp {i : Nat} {a : Act} {K K' : Act → World → Prop} {Q0 : Act → World → Prop} {Q : Exit → Act → World → Prop} {w : World} (hnd : noDefer ops = true) (hK : ∀ a w, K a w → K' a w) (h : wpOp P ops (onlyN Q0) i K a w) :
    wpOpIn (Fence.wide.inRound l) n P ops Q i K' a w := by
  unfold wpOp at h
  unfold wpOpIn
  split
  · rename_i ho; simp only [ho] at h; exact hK _ _ h
  · rename_i o ho
    simp only [ho] at h
    split
    · rename_i hw
      simp only [hw, if_true] at h
      rcases h with h | ⟨_, a', w', h⟩
      · unfold Oper.wp at h
        unfold Oper.wpIn
        refine ⟨fun _ _ => trivial, ?_⟩
        rw [Oper.semAt_plain _ _ _ (noDefer_spec hnd ho)]
        generalize (execOp a.eval o).run P w = r at *
        cases r with
        | ok x w' =>
          cases x <;> simp only [Oper.upon] at h <;> simp only [Oper.uponIn]
          case value u => exact hK _ _ h
          case skip => exact hK _ _ h
          case defer d => exact hK _ _ h
          case enter f args =>
            refine ⟨fun k => (by cases k), Calls.useR (h.mono ?_)⟩
            intro e w'' he
            cases e with
            | returned v => exact hK _ _ he
            | panicked c => exact he.elim
            | outgrown => obtain ⟨_, _, he⟩ := he; exact he.elim
          case row r args => exact ⟨fun k => (by cases k), rowsInR (h.mono fun _ _ he => hK _ _ he)⟩
        | halt x w' => cases x <;> simp only [Oper.upon] at h <;> exact h.elim
      · exact h.elim
    · rename_i hw; simp only [hw] at h; exact ⟨fun _ _ => trivial, hK _ _ h⟩
theorem wpAnyInR_of {md : Region.Mode} {Q : Exit → Act → World → Prop} (hnd : noDefer ops = true) : ∀ (fuel : Nat) (listed : Array Bool) (a : Act) (w : World),
    wpAny P md ops (onlyN (Q .normal)) fuel listed a w → wpAnyIn (Fence.wide.inRound l) n P md ops Q fuel listed a w
  | 0, _, _, _, h => h
  | fuel + 1, _, _, _, h => ⟨h.1, fun i hi => wpOpInR_of_wpOp hnd (fun a' w' h' => wpAnyInR_of hnd fuel _ a' w' h') (h.2 i hi)⟩
/-- As wp_region_inv, within a round. -/
theorem wpR_region_inv {id : Nat} {Q : Exit → Act → World → Prop} {a : Act} {w : World} (hm : P.follows .mixedOrders = true) (hnd : noDefer ops = true) (hd : edgesDown ops = true) (I : (Nat → Bool) → Act → World → Prop)
    (h0 : I (fun _ => false) a w.drew)
    (hstep : ∀ (d : Nat → Bool) (a : Act) (w : World), I d a w → ∀ i, i < ops.size → d i = false → (∀ o, ops[i]? = some o → ∀ e ∈ o.after, Region.binds .any e = true → d e.on = true) → wpOp P ops (onlyN (Q .normal)) i (I (fun j => j == i || d j)) a w)
    (hend : ∀ (d : Nat → Bool) (a : Act) (w : World), I d a w → (∀ i, i < ops.size → d i = true) → Q .normal a w) : (Code.region id ops true).wpIn (Fence.wide.inRound l) n P Q a w := by
  refine wpIn_region_any hm (wpAnyInR_of hnd _ _ _ _ (wpAny_inv hd I hstep hend ops.size _ a _ (by simp) ?_ ?_))
  · simp
  · have e : (fun j => (Array.replicate ops.size false).getD j false) = fun _ => false := by
      funext j
      simp only [Array.getD_eq_getD_getElem?, Array.getElem?_replicate]
      split <;> rfl
    rw [e]; exact h0

/-! Reads in any order, then one operation after another; outside a round and within one. -/
section
variable {F : Fence} {w : World} {md : Region.Mode}
/-- The fence asks nothing. -/
structure AsksNone (F : Fence) : Prop where
  fn : ∀ f, F.fn f
  depth : F.depth.isSome = false
  calls : ∀ {n : Nat} {P : Program} {f : FuncId} {args : Array Value} {w : World} {R : Ending → World → Prop}, Calls P f args w R → CallsIn F n P f args w R
theorem asksNone_wide : AsksNone Fence.wide := ⟨fun _ => trivial, rfl, fun h => callsIn_wide.2 h⟩
theorem asksNone_round (l : Nat) : AsksNone (Fence.wide.inRound l) := ⟨fun _ => trivial, rfl, fun h => Calls.useR h⟩

theorem wpOpIn_of_stOp (hF : AsksNone F) (hnd : noDefer ops = true) {i : Nat} {a : Act} {K : Act → Prop} {K' : Act → World → Prop} {Q' : Exit → Act → World → Prop} (h : ∀ a, K a → K' a w) (hh : stOp P ops w i K a) : wpOpIn F n P ops Q' i K' a w := by
  unfold stOp at hh
  unfold wpOpIn
  split
  · rename_i ho; simp only [ho] at hh; exact h _ hh
  · rename_i o ho
    simp only [ho] at hh
    split
    · rename_i hw
      simp only [hw, if_true] at hh
      unfold Oper.still at hh
      unfold Oper.wpIn
      refine ⟨fun f _ => hF.fn f, ?_⟩
      rw [Oper.semAt_plain _ _ _ (noDefer_spec hnd ho)]
      generalize (execOp a.eval o).run P w = r at *
      cases r with
      | ok x w' =>
        cases x <;> simp only [Oper.stillUpon] at hh <;> simp only [Oper.uponIn]
        case enter f args =>
          obtain ⟨rfl, v, hc, hn⟩ := hh
          exact ⟨fun k => (by rw [hF.depth] at k; cases k), hF.calls (hc.mono fun e w'' ⟨he, hw⟩ => by subst he; subst hw; exact h _ hn)⟩
        all_goals (obtain ⟨rfl, h2⟩ := hh; exact h _ h2)
      | halt x w' => simp only [Oper.stillUpon] at hh
    · rename_i hw; simp only [hw] at hh; exact ⟨fun f _ => hF.fn f, h _ hh⟩

theorem wpAnyIn_of_head (hF : AsksNone F) (hnd : noDefer ops = true) {N g : Nat} {L : Array Bool → Act → Prop} {Q' : Exit → Act → World → Prop} (hL : ∀ listed a, L listed a → wpAnyIn F n P md ops Q' g listed a w) :
    ∀ (f : Nat) (listed : Array Bool) (a : Act), wpAnyL P md ops w N L f listed a → wpAnyIn F n P md ops Q' (f + g) listed a w
  | 0, listed, a, h => by rw [Nat.zero_add]; exact hL _ _ h
  | f + 1, listed, a, h => by
    rw [show f + 1 + g = (f + g) + 1 by omega]
    exact ⟨fun h0 => absurd h0 h.1, fun i hi => wpOpIn_of_stOp hF hnd (fun a' h' => wpAnyIn_of_head hF hnd hL f _ a' h') (h.2 i hi).2⟩

theorem wpAnyIn_of_seq {Q' : Exit → Act → World → Prop} : ∀ (l : List Oper) (k : Nat) (listed : Array Bool) (a : Act) (w : World), (∀ j, l[j]? = ops[k + j]?) →
    Region.seqB md ops l.length k listed = true → wpListIn F n P ops Q' l a w → wpAnyIn F n P md ops Q' l.length listed a w
  | [], _, _, _, _, _, hB, h => ⟨by simpa [Region.seqB] using hB, h⟩
  | o :: l, k, listed, a, w, hl, hB, h => by
    have h0 : ops[k]? = some o := by simpa using (hl 0).symm
    simp only [List.length_cons, Region.seqB, Bool.and_eq_true, decide_eq_true_eq] at hB
    refine ⟨fun h1 => (by rw [hB.1] at h1; cases h1), fun i hi => ?_⟩
    rw [hB.1] at hi
    have hik : i = k := by simpa using hi
    subst hik
    have hw : wpOpIn F n P ops Q' i (wpListIn F n P ops Q' l) a w := by unfold wpOpIn; simp only [h0]; exact h
    exact wpOpIn_mono (fun a' w' h' => wpAnyIn_of_seq l (i + 1) _ a' w' (fun j => by have := hl (j + 1); simpa [Nat.add_assoc, Nat.add_comm 1 j] using this) hB.2 h') hw

theorem wpIn_region_still_tail (hF : AsksNone F) {id : Nat} {Q : Exit → Act → World → Prop} {a : Act} {w : World} {l : List Oper} (N : Nat) (hm : P.follows .mixedOrders = true) (hnd : noDefer l.toArray = true) (hB : Region.lexTailB .any l.toArray N = true)
    (h : wpStill P l.toArray w.drew (fun a' => wpListIn F n P l.toArray Q (l.drop N) a' w.drew) (l.take N) a) : (Code.region id l.toArray true).wpIn F n P Q a w := by
  simp only [Region.lexTailB, Bool.and_eq_true, decide_eq_true_eq] at hB
  obtain ⟨⟨⟨⟨hsel, hn⟩, hs⟩, hc⟩, hlex⟩ := hB
  have hn' : N < l.length := by simpa using hn
  have htl : (l.take N).length = N := by simp; omega
  have hdl : (l.drop N).length = l.toArray.size - N := by simp
  have inv0 : HeadInv .any l.toArray N (Array.replicate l.toArray.size false) :=
    ⟨by simp, fun j oj _ hl => (by rw [getD_replicate_false] at hl; cases hl), fun t _ ht => getD_in (by simpa using ht) (getD_replicate_false _ _)⟩
  have H := wpAnyL_lex (md := .any) (g := l.toArray.size - N) hsel hs hc hn (l.take N) 0 _ a (fun j hj => by
    have hj' : j < N := by rw [htl] at hj; exact hj
    simp [hj']) (by simpa using htl) inv0 (by rw [htl]; exact hlex) h
  refine wpIn_region_any hm ?_
  have := wpAnyIn_of_head (n := n) (Q' := Q) hF hnd (g := l.toArray.size - N) (fun listed a' hL => by
    have := wpAnyIn_of_seq (F := F) (n := n) (md := .any) (Q' := Q) (l.drop N) N listed a' w.drew (fun j => by simp [List.getElem?_drop]) (by rw [hdl]; exact hL.1) hL.2
    rwa [hdl] at this) _ _ _ H
  rw [htl, show N + (l.toArray.size - N) = l.toArray.size by omega] at this
  exact this
theorem wpStill_of_quiet {w0 : World} {Q : Act → Prop} : ∀ (l : List Oper) (a : Act), wpQuiet P ops (fun w' => w' = w0) Q l a → wpStill P ops w0 Q l a
  | [], _, h => h
  | o :: rest, a, h => by
    unfold wpQuiet at h
    unfold wpStill
    split
    · rename_i hw
      rw [if_pos hw] at h
      obtain ⟨v, h1, h2⟩ := h
      have h3 := h1 w0 rfl
      unfold Oper.quietAt at h3
      unfold Oper.still
      generalize (execOp a.eval o).run P w0 = r at *
      cases r with
      | ok x w' =>
        cases x <;> simp only [Oper.quietUpon] at h3 <;> simp only [Oper.stillUpon]
        case value u => obtain ⟨e1, e2⟩ := h3; subst e2; exact ⟨e1, wpStill_of_quiet rest _ h2⟩
        case skip => obtain ⟨e1, e2⟩ := h3; subst e2; exact ⟨e1, wpStill_of_quiet rest _ h2⟩
        case enter f args => obtain ⟨e1, hc⟩ := h3; exact ⟨e1, v, e1 ▸ hc, wpStill_of_quiet rest _ h2⟩
      | halt x w' => simp only [Oper.quietUpon] at h3
    · rename_i hw
      rw [if_neg hw] at h
      exact wpStill_of_quiet rest _ h
/-- Reads in any order, by the cheap step; then one operation after another. -/
theorem wpIn_region_quiet_tail (hF : AsksNone F) {id : Nat} {Q : Exit → Act → World → Prop} {a : Act} {w : World} {l : List Oper} (N : Nat) (hm : P.follows .mixedOrders = true) (hnd : noDefer l.toArray = true) (hB : Region.lexTailB .any l.toArray N = true)
    (h : wpQuiet P l.toArray (fun w' => w' = w.drew) (fun a' => wpListIn F n P l.toArray Q (l.drop N) a' w.drew) (l.take N) a) : (Code.region id l.toArray true).wpIn F n P Q a w :=
  wpIn_region_still_tail hF N hm hnd hB (wpStill_of_quiet _ _ h)
theorem wp_region_quiet_tail {id : Nat} {Q : Exit → Act → World → Prop} {a : Act} {w : World} {l : List Oper} (N : Nat) (hm : P.follows .mixedOrders = true) (hB : Region.lexTailB .any l.toArray N = true)
    (h : wpQuiet P l.toArray (fun w' => w' = w.drew) (fun a' => wpList P l.toArray Q (l.drop N) a' w.drew) (l.take N) a) : (Code.region id l.toArray true).wp P Q a w :=
  wp_region_still_tail N hm hB (wpStill_of_quiet _ _ h)
end
end Go.Proofs.Ythiemglckmociaa
