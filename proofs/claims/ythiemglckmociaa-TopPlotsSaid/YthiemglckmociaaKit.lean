/- Plain words for what a walk reads: slices of numbers, of pairs of numbers, of votes; calls that give one value and leave what lay there. No program in sight. No conditions. -/
import Derived.WalkKit
import Derived.Lib.Hide
import Derived.Lib.QuietBelow
import Derived.BigQuiet
import Derived.Orders
import Derived.RangeFuncNested
import Derived.RangeFuncBound
import Derived.RangeFuncCalls
import Derived.RangeFuncLeaves
import Derived.Shelf.Abstract
import Derived.Shelf.RegionOpen
import Derived.OwnWalkIn
import Derived.TacticsInMore
import Derived.LoopNIn
import Derived.LoopIn
import Derived.StillTail
import Derived.StillTactics
import Derived.Deep.Onto
import Derived.Lib.SmallJoins
import Derived.Maps.AppendAt
import Derived.Laws.OwnMore
namespace Go.Proofs.Ythiemglckmociaa
open Go.RowKit

/-- The i-th element, d beyond the end. (A plain def: simp does not look inside.) -/
def gi {α : Type} (l : List α) (d : α) (i : Nat) : α := l[i]?.getD d
theorem gi_lt {α : Type} {l : List α} {d : α} {i : Nat} (h : i < l.length) : gi l d i = l[i] := by simp [gi, h]

/-- v is a slice whose elements are the numbers l, in memory that is there. -/
def IntsAt (w : World) (v : Value) (l : List Int) : Prop :=
  ∃ (a : Option Addr) (cap : Nat), v = .slice a l.length cap ∧ l.length ≤ cap ∧ cap ≤ 9223372036854775807 ∧
    ∀ i, i < l.length → ∃ b o, a = some ⟨b, o, none⟩ ∧ b < w.heap.size ∧ w.cell? ⟨b, o + i, none⟩ = some (.int .i64 (gi l 0 i))

/-- v is a slice whose elements are structs of two numbers. -/
def PairsAt (w : World) (v : Value) (l : List (Int × Int)) : Prop :=
  ∃ (a : Option Addr) (cap : Nat), v = .slice a l.length cap ∧ l.length ≤ cap ∧ cap ≤ 9223372036854775807 ∧
    ∀ i, i < l.length → ∃ b o, a = some ⟨b, o, none⟩ ∧ b < w.heap.size ∧ w.cell? ⟨b, o + i * 2, none⟩ = some (.int .i64 (gi l (0, 0) i).1) ∧
      w.cell? ⟨b, o + i * 2 + 1, none⟩ = some (.int .i64 (gi l (0, 0) i).2)

/-- v is a slice whose elements are structs of a number and a bool. -/
def VotesAt (w : World) (v : Value) (l : List (Int × Bool)) : Prop :=
  ∃ (a : Option Addr) (cap : Nat), v = .slice a l.length cap ∧ l.length ≤ cap ∧ cap ≤ 9223372036854775807 ∧
    ∀ i, i < l.length → ∃ b o, a = some ⟨b, o, none⟩ ∧ b < w.heap.size ∧ w.cell? ⟨b, o + i * 2, none⟩ = some (.int .i64 (gi l (0, false) i).1) ∧
      w.cell? ⟨b, o + i * 2 + 1, none⟩ = some (.bool (gi l (0, false) i).2)

theorem IntsAt.below {w w' : World} {v : Value} {l : List Int} (h : IntsAt w v l) (hb : Below w.heap.size w w') : IntsAt w' v l := by
  obtain ⟨a, cap, hv, h1, h2, h3⟩ := h
  refine ⟨a, cap, hv, h1, h2, fun i hi => ?_⟩
  obtain ⟨b, o, ha, hlt, hc⟩ := h3 i hi
  exact ⟨b, o, ha, Nat.lt_of_lt_of_le hlt hb.size, (hb.cell (p := ⟨b, o + i, none⟩) hlt).trans hc⟩
theorem ints2 {w : World} {a b : Int} {t : TypeId} {n : Nat} (hn : n = w.heap.size) : IntsAt (w.alloc (.cells #[.int .i64 a, .int .i64 b] t)) (.slice (some ⟨n, 0, none⟩) 2 2) [a, b] := by
  subst hn
  refine ⟨_, _, rfl, Nat.le_refl _, by decide, fun i hi => ⟨_, _, rfl, by simp, ?_⟩⟩
  match i, hi with
  | 0, _ => simp [gi]
  | 1, _ => simp [gi]
theorem PairsAt.below {w w' : World} {v : Value} {l : List (Int × Int)} (h : PairsAt w v l) (hb : Below w.heap.size w w') : PairsAt w' v l := by
  obtain ⟨a, cap, hv, h1, h2, h3⟩ := h
  refine ⟨a, cap, hv, h1, h2, fun i hi => ?_⟩
  obtain ⟨b, o, ha, hlt, hc, hd⟩ := h3 i hi
  exact ⟨b, o, ha, Nat.lt_of_lt_of_le hlt hb.size, (hb.cell (p := ⟨b, o + i * 2, none⟩) hlt).trans hc, (hb.cell (p := ⟨b, o + i * 2 + 1, none⟩) hlt).trans hd⟩
theorem VotesAt.below {w w' : World} {v : Value} {l : List (Int × Bool)} (h : VotesAt w v l) (hb : Below w.heap.size w w') : VotesAt w' v l := by
  obtain ⟨a, cap, hv, h1, h2, h3⟩ := h
  refine ⟨a, cap, hv, h1, h2, fun i hi => ?_⟩
  obtain ⟨b, o, ha, hlt, hc, hd⟩ := h3 i hi
  exact ⟨b, o, ha, Nat.lt_of_lt_of_le hlt hb.size, (hb.cell (p := ⟨b, o + i * 2, none⟩) hlt).trans hc, (hb.cell (p := ⟨b, o + i * 2 + 1, none⟩) hlt).trans hd⟩

theorem pairs0 (w : World) (a : Option Addr) (cap : Nat) (hc : cap ≤ 9223372036854775807) : PairsAt w (.slice a 0 cap) [] := ⟨a, cap, rfl, by simp, hc, fun i hi => absurd hi (by simp)⟩
/-- The call gives v, and leaves what lay there. -/
def Gives (P : Program) (f : FuncId) (args : Array Value) (w : World) (v : Value) : Prop :=
  Calls P f args w fun e w' => e = .returned v ∧ Below w.heap.size w w'

/-- What a later world w1 keeps of w: the form in which a walk goes on. -/
theorem Gives.use {P : Program} {f : FuncId} {args : Array Value} {w : World} {v : Value} {R : Ending → World → Prop} (h : Gives P f args w v)
    (k : ∀ w1, Below w.heap.size w w1 → w.heap.size ≤ w1.heap.size → (∀ b o, b < w.heap.size → w1.cell? ⟨b, o, none⟩ = w.cell? ⟨b, o, none⟩) →
      (∀ b o, b < w.heap.size → w1.frozen? ⟨b, o, none⟩ = w.frozen? ⟨b, o, none⟩) → R (.returned v) w1) : Calls P f args w R :=
  h.mono fun _ w1 ⟨he, hb⟩ => he ▸ k w1 hb hb.size (fun b o h => hb.cell (p := ⟨b, o, none⟩) h) (fun b o h => hb.frozen (p := ⟨b, o, none⟩) h)

/-- Steps of 'what lay there when a began lies there still'. -/
theorem below_tail {a b c : World} (k : Below b.heap.size b c) (h : Below a.heap.size a b) : Below a.heap.size a c := h.trans (k.mono h.size)
theorem below_new {a w : World} (h : Below a.heap.size a w) (o : Obj) : Below a.heap.size a (w.alloc o) := h.alloc h.size o
theorem below_set {a w : World} {p : Addr} (h : Below a.heap.size a w) (hp : a.heap.size ≤ p.block) (u : Value) : Below a.heap.size a (w.setCell p u) := h.setCell hp u
theorem below_draw {a w : World} (h : Below a.heap.size a w) : Below a.heap.size a w.drew := h.drew

theorem wpQuiet_post {P : Program} {ops : Array Oper} {C : World → Prop} {Q Q' : Act → Prop} (hq : ∀ a, Q a → Q' a) : ∀ (l : List Oper) (a : Act), wpQuiet P ops C Q l a → wpQuiet P ops C Q' l a
  | [], _, h => hq _ h
  | o :: rest, a, h => by
    unfold wpQuiet at h ⊢
    split
    · rename_i hw
      rw [if_pos hw] at h
      exact Oper.quiet_mono (wpQuiet_post hq rest) h
    · rename_i hw
      rw [if_neg hw] at h
      exact wpQuiet_post hq rest _ h
/-- A region that draws its order: read in the order of the text; behind it some world that keeps what lay there. -/
theorem region_q {P : Program} {id : Nat} {Q : Exit → Act → World → Prop} {a : Act} {w : World} {l : List Oper} (hm : P.follows .mixedOrders = true) (hB : Region.lexB .any l.toArray = true)
    (h : wpQuiet P l.toArray (fun w' => ∃ p : Regrown, w' = Go.Sort.grow (redrawn w p.d) p.os) (fun a' => ∀ w', Below w.heap.size w w' → Q .normal a' w') l a) : (Code.region id l.toArray true).wp P Q a w :=
  wp_region_quiet (C := fun w' => ∃ p : Regrown, w' = Go.Sort.grow (redrawn w p.d) p.os) hm hB ⟨⟨w.drawn + 1, #[]⟩, by rw [Go.Sort.grow_empty]; rfl⟩
    (wpQuiet_post (fun a' h' w' hw' => by obtain ⟨p, rfl⟩ := hw'; exact h' _ (below_regrown w p.d p.os)) _ _ (by simpa using h))

theorem ret_int {k : IntKind} {a b : Int} (h : a = b) : Ending.returned (.int k a) = .returned (.int k b) := by rw [h]
theorem ret_bool {a b : Bool} (h : a = b) : Ending.returned (.bool a) = .returned (.bool b) := by rw [h]
end Go.Proofs.Ythiemglckmociaa
/- A region that draws its order, by an invariant over what has been done so far: each operation once, whatever order is drawn. No program in sight. Conditions: each operation waits only for operations that stand before it in the text. -/
namespace Go.Proofs.Ythiemglckmociaa
open Go.RowKit

/-- Each operation waits only for operations before it. -/
def edgesDown (ops : Array Oper) : Bool := (List.range ops.size).all fun i => (ops[i]?.map fun o => o.after.all fun e => !(Region.binds .any e) || decide (e.on < i)).getD false

theorem edgesDown_spec {ops : Array Oper} (h : edgesDown ops = true) {i : Nat} {o : Oper} (ho : ops[i]? = some o) {e : Edge} (he : e ∈ o.after) (hb : Region.binds .any e = true) : e.on < i := by
  unfold edgesDown at h
  rw [List.all_eq_true] at h
  have hi : i < ops.size := (Array.getElem?_eq_some_iff.1 ho).1
  have h1 := h i (List.mem_range.2 hi)
  rw [ho] at h1
  simp only [Option.map_some, Option.getD_some, Array.all_eq_true_iff_forall_mem] at h1
  have h2 := h1 e he
  rw [hb] at h2
  simpa using h2

theorem all_done {ops : Array Oper} {listed : Array Bool} (hd : edgesDown ops = true) (hs : listed.size = ops.size) (h : Region.ready .any ops listed = []) :
    ∀ i, i < ops.size → listed.getD i false = true := by
  intro i
  induction i using Nat.strongRecOn with
  | ind i ih =>
    intro hi
    by_cases hl : listed.getD i false = true
    · exact hl
    · exfalso
      have hm : i ∈ Region.ready .any ops listed := by
        rw [mem_ready]
        refine ⟨?_, ops[i], by simp [hi], fun e he hb => ?_⟩
        · have : i < listed.size := by omega
          simp [this] at hl ⊢
          exact hl
        · have hlt := edgesDown_spec hd (o := ops[i]) (i := i) (by simp [hi]) he hb
          exact ih e.on hlt (by omega)
      rw [h] at hm; cases hm

theorem count_false_set {l : Array Bool} {i : Nat} (hi : i < l.size) (h : l[i] = false) : (l.setIfInBounds i true).toList.count false + 1 = l.toList.count false := by
  have e : (l.setIfInBounds i true).toList = l.toList.set i true := by simp
  have hi' : i < l.toList.length := by simpa using hi
  rw [e, List.count_set hi']
  have h2 : l.toList[i] = false := by simpa using h
  have h3 : 0 < l.toList.count false := by
    rw [List.count_pos_iff]
    rw [← h2]; exact List.getElem_mem _
  rw [h2]
  simp only [beq_self_eq_true, if_true]
  have h5 : (true == false) = false := rfl
  rw [h5]
  simp only [Bool.false_eq_true, if_false]
  omega

theorem wpAny_inv {P : Program} {ops : Array Oper} {Q : Exit → Act → World → Prop} (hd : edgesDown ops = true) (I : (Nat → Bool) → Act → World → Prop)
    (hstep : ∀ (d : Nat → Bool) (a : Act) (w : World), I d a w → ∀ i, i < ops.size → d i = false → (∀ o, ops[i]? = some o → ∀ e ∈ o.after, Region.binds .any e = true → d e.on = true) → wpOp P ops Q i (I (fun j => j == i || d j)) a w)
    (hend : ∀ (d : Nat → Bool) (a : Act) (w : World), I d a w → (∀ i, i < ops.size → d i = true) → Q .normal a w) :
    ∀ (fuel : Nat) (listed : Array Bool) (a : Act) (w : World), listed.size = ops.size → listed.toList.count false ≤ fuel → I (fun j => listed.getD j false) a w → wpAny P .any ops Q fuel listed a w
  | 0, listed, a, w, hs, hc, hI => by
    have hr : Region.ready .any ops listed = [] := by
      cases hh : Region.ready .any ops listed with
      | nil => rfl
      | cons i l =>
        have hm : i ∈ Region.ready .any ops listed := by rw [hh]; simp
        obtain ⟨h1, o, h2, _⟩ := mem_ready.1 hm
        have hi : i < listed.size := by rw [hs]; exact (Array.getElem?_eq_some_iff.1 h2).1
        have h3 : listed[i] = false := by simpa [hi] using h1
        have := count_false_set hi h3
        omega
    exact ⟨hr, hend _ a w hI (fun i hi => all_done hd hs hr i hi)⟩
  | fuel + 1, listed, a, w, hs, hc, hI => by
    refine ⟨fun hr => hend _ a w hI (fun i hi => all_done hd hs hr i hi), fun i hm => ?_⟩
    obtain ⟨h1, o, h2, h3⟩ := mem_ready.1 hm
    have hio : i < ops.size := (Array.getElem?_eq_some_iff.1 h2).1
    have hi : i < listed.size := by omega
    have h4 : listed[i] = false := by simpa [hi] using h1
    refine wpOp_mono (fun a' w' hI' => wpAny_inv hd I hstep hend fuel _ a' w' (by simpa using hs) ?_ ?_)
      (hstep _ a w hI i hio (by simp [hi, h4]) (fun o' ho' e he hb => by rw [h2] at ho'; cases ho'; exact h3 e he hb))
    · have := count_false_set hi h4; omega
    · have e : (fun j => (listed.setIfInBounds i true).getD j false) = (fun j => j == i || listed.getD j false) := by
        funext j
        by_cases hj : j = i
        · subst hj; simp [hi]
        · have hj' : ¬ i = j := fun e => hj e.symm
          simp [hj, hj', Array.getD_eq_getD_getElem?]
      rw [e]; exact hI'

/-- An operation that this one waits for is done. -/
theorem done_of {ops : Array Oper} {i j : Nat} {d : Nat → Bool} (hed : ∀ o, ops[i]? = some o → ∀ e ∈ o.after, Region.binds .any e = true → d e.on = true)
    (h : ((ops[i]?).map fun o => o.after.any fun e => Region.binds .any e && e.on == j).getD false = true) : d j = true := by
  cases ho : ops[i]? with
  | none => rw [ho] at h; cases h
  | some o =>
    rw [ho] at h
    simp only [Option.map_some, Option.getD_some] at h
    obtain ⟨e, he, hb⟩ := Array.any_eq_true'.1 h
    rw [Bool.and_eq_true] at hb
    rw [← beq_iff_eq.1 hb.2]
    exact hed o ho e he hb.1
theorem no_false {P : Prop} (h : true = false) : P := by cases h
/-- The law: I d a w says what holds once the operations d are done. -/
theorem wp_region_inv {P : Program} {id : Nat} {ops : Array Oper} {Q : Exit → Act → World → Prop} {a : Act} {w : World} (hm : P.follows .mixedOrders = true) (hd : edgesDown ops = true) (I : (Nat → Bool) → Act → World → Prop)
    (h0 : I (fun _ => false) a w.drew)
    (hstep : ∀ (d : Nat → Bool) (a : Act) (w : World), I d a w → ∀ i, i < ops.size → d i = false → (∀ o, ops[i]? = some o → ∀ e ∈ o.after, Region.binds .any e = true → d e.on = true) → wpOp P ops Q i (I (fun j => j == i || d j)) a w)
    (hend : ∀ (d : Nat → Bool) (a : Act) (w : World), I d a w → (∀ i, i < ops.size → d i = true) → Q .normal a w) : (Code.region id ops true).wp P Q a w := by
  refine wp_region_any hm (wpAny_inv hd I hstep hend ops.size _ a _ (by simp) ?_ ?_)
  · simp
  · have e : (fun j => (Array.replicate ops.size false).getD j false) = fun _ => false := by
      funext j
      simp only [Array.getD_eq_getD_getElem?, Array.getElem?_replicate]
      split <;> rfl
    rw [e]; exact h0
end Go.Proofs.Ythiemglckmociaa
/- A range over a function, over any program: an iterator that yields a numbered row of values, and one law for the loop. No program in sight. Conditions: the loop's invariant speaks of blocks that lay before the loop began. -/
namespace Go.Proofs.Ythiemglckmociaa
open Go.RowKit Go.Shelf

theorem keeps_of_below {W W' : World} (h : Below W.heap.size W W') : KeepsOthers W W' :=
  ⟨h.size, fun k _ hk _ => (h.block k (Array.getElem?_eq_some_iff.1 hk).1).trans hk⟩

/-- The iterator (function g with the captured values lb) yields enc 0, enc 1, .. (N of them; none: without end), where R is what it reads. -/
def Iter (P : Program) (g : Nat) (lb : Array Value) (enc : Nat → Array Value) (N : Option Nat) (R : World → Prop) : Prop :=
  ∀ (n l : Nat) (J Jx : Nat → World → Prop) (W : World), (∀ k W1, J k W1 → R W1) →
    (∀ k W1 W2, J k W1 → Below W1.heap.size W1 W2 → J k W2) → (∀ k W1 W2, Jx k W1 → Below W1.heap.size W1 W2 → Jx k W2) →
    (∀ k W1, J k W1 → (∀ m, N = some m → k < m) → YieldAt Fence.wide (n - 1) P l (enc k) W1 fun e W' =>
      (e = .returned (.bool true) ∧ J (k + 1) W') ∨ (e = .returned (.bool false) ∧ Jx k W')) →
    (N = none → ∀ k W1, J k W1 → k < 1000000) → J 0 W →
    CallsIn Fence.wide n P g (#[.func (.yield l) #[] #[]] ++ lb) W fun e W' => (∃ v, e = .returned v) ∧ ((∃ m, N = some m ∧ J m W') ∨ ∃ k, Jx k W')

/-- How the body of a round may be left. -/
def bodyEnds (I : Nat → World → Prop) (Ix : Code → Nat → World → Prop) (k : Nat) (W : World) : Exit → Act → World → Prop
  | .normal, _, W' => KeepsOthers W W' ∧ I (k + 1) W'
  | .ret, _, W' => KeepsOthers W W' ∧ Ix .ret k W'
  | .exit id, _, W' => KeepsOthers W W' ∧ Ix (.exit id) k W'
  | .goto t, _, W' => KeepsOthers W W' ∧ Ix (.goto t) k W'
  | .panic _, _, _ => False
  | .outgrown, _, _ => False

theorem below_obj {B D : Nat} {W : World} (o : Obj) (hD : B ≤ D) (hs : B ≤ W.heap.size) : Below B W (W.putObj D o) :=
  (Below.refl _ W).grown (grownBy_putObj' W D o) hs (fun k e => by cases e; exact hD)
theorem Calls.useR {P : Program} {f : FuncId} {args : Array Value} {w : World} {R : Ending → World → Prop} {l n : Nat} (h : Calls P f args w R) : CallsIn (Fence.wide.inRound l) n P f args w R :=
  CallsIn.inRound l (callsIn_wide.2 h)
theorem keeps_step {a b c : World} (k : Below b.heap.size b c) (h : KeepsOthers a b) : KeepsOthers a c := h.trans (keeps_of_below k)
end Go.Proofs.Ythiemglckmociaa
/- A loop over a function within a round of another such loop. No program in sight. Conditions: the loop's invariant speaks of blocks that lay before the loop began. -/
namespace Go.Proofs.Ythiemglckmociaa
open Go.RowKit Go.Shelf

end Go.Proofs.Ythiemglckmociaa
/- Loops over a function whose loop variable lies in a box of its own, outside a round and within one. No program in sight. Conditions: the loop's invariant speaks of blocks that lay before the loop began. -/
namespace Go.Proofs.Ythiemglckmociaa
open Go.RowKit Go.Shelf

theorem wide_rangeBox {P : Program} {n : Nat} {g : Operand} {ps : Array Tmp} {assign body : Code} {Q : Exit → Act → World → Prop} {a : Act} {w : World}
    {gf : Nat} {lb : Array Value} (hg : a.eval g = .func (.func gf) #[] lb) (eg : ∀ args w, (callFunc gf args).run P w = .ok (.enter gf args) w)
    {enc : Nat → Array Value} {N : Option Nat} {R : World → Prop} (hseq : Iter P gf lb enc N R) (hps : ∀ k, (enc k).size = ps.size)
    (I : Nat → World → Prop) (Ix : Code → Nat → World → Prop)
    (hR : ∀ k W, I k W → R W)
    (hI : ∀ k W W', I k W → Below w.heap.size W W' → I k W')
    (hIx : ∀ c k W W', Ix c k W → Below w.heap.size W W' → Ix c k W')
    (hM : N = none → ∀ k W1, I k W1 → k < 1000000)
    (h0 : I 0 w) (Ax : Nat → Act → World → Prop) (hAx : ∀ k a' W l o, w.heap.size ≤ l → (∃ r, W.heap[l]? = some (.loop r)) → Ax k a' W → Ax k a' (W.putObj l o))
    (hassign : ∀ (l : Nat) (k : Nat) (W : World) (K : Act → World → Prop), w.heap.size ≤ W.heap.size → I k W → (∀ m, N = some m → k < m) → (∀ a' W', KeepsOthers W W' → I k W' → Ax k a' W' → K a' W') →
      assign.wpIn (Fence.wide.inRound l) (n - 1 - 1) P (Exit.then K (fun _ _ _ => False)) { tmps := (ps.zip (enc k)).foldl (fun t (p, v) => t.setIfInBounds p v) a.tmps, defers := [] } W)
    (hbody : ∀ (l : Nat) (k : Nat) (a' : Act) (W : World), w.heap.size ≤ l → (∃ r, W.heap[l]? = some (.loop r)) → w.heap.size ≤ W.heap.size → I k W → Ax k a' W → (∀ m, N = some m → k < m) →
      body.wpIn (Fence.wide.inRound l) (n - 1 - 1) P (bodyEnds I Ix k W) a' W)
    (hdone : ∀ (m D : Nat) (W : World), N = some m → w.heap.size ≤ D → I m W → W.heap[D]? = some (.deferred (some [])) → Q .normal { a with defers := { target := .collected D, args := #[] } :: a.defers } W)
    (hstop : ∀ (D : Nat) (c : Code) (k : Nat) (W : World), w.heap.size ≤ D → Ix c k W → W.heap[D]? = some (.deferred (some [])) → c.wpIn Fence.wide n P Q { a with defers := { target := .collected D, args := #[] } :: a.defers } W) :
    (Code.rangeFunc g ps assign body).wpIn Fence.wide n P Q a w := by
  refine wpIn_rangeFunc ?_
  intro fn hfn
  obtain ⟨rec, hrec⟩ : ∃ rec : LoopState → Option Code → Loop, rec = fun st pe => { state := st, pending := pe, fn, tmps := a.tmps, params := ps, assign, body, defers := w.heap.size } := ⟨_, rfl⟩
  obtain ⟨W1, hW1⟩ : ∃ W1, (w.alloc (.deferred (some []))).alloc (.loop (rec .ready none)) = W1 := ⟨_, rfl⟩
  have hL1 : W1.heap[w.heap.size + 1]? = some (.loop (rec .ready none)) := by
    rw [← hW1]; have := World.alloc_heap_new (w.alloc (.deferred (some []))) (.loop (rec .ready none)); rwa [World.size_alloc] at this
  have hK1 : W1.heap[w.heap.size]? = some (.deferred (some [])) := by
    rw [← hW1]; exact (Below.heap_alloc _ _ _ (by simp)).trans (World.alloc_heap_new w _)
  have hb1 : Below w.heap.size w W1 := by
    rw [← hW1]; exact ((Below.refl _ w).alloc (Nat.le_refl _) _).alloc (by simp) _
  have hI1 : I 0 W1 := hI _ _ _ h0 hb1
  have put : ∀ (W : World) (l : Nat) (o : Obj), w.heap.size ≤ l → w.heap.size ≤ W.heap.size → Below w.heap.size W (W.putObj l o) := fun W l o hl hs =>
    (Below.refl _ W).grown (grownBy_putObj' W l o) hs (fun k e => by cases e; exact hl)
  have eIn : Oper.semAt Fence.wide.round = Oper.semAt Fence.wide.round := rfl
  clear eIn
  refine ⟨w.heap.size + 1, [{ target := .collected w.heap.size, args := #[] }], W1, { target := .fn (.func gf) lb, args := #[.func (.yield (w.heap.size + 1)) #[] #[]] }, W1, gf,
    #[.func (.yield (w.heap.size + 1)) #[] #[]] ++ lb, W1, ?_, ?_, ?_, ?_, ?_, ?_⟩
  · rw [← hW1, hrec]; exact run_enterLoop_outer _ _ _ _ _
  · simp only [resolve, hg]
    simp [go_sem]
  · intro f' _; exact trivial
  · simp [invoke, go_sem, eg]
  · intro h; cases h
  · refine (hseq (n - 1) (w.heap.size + 1)
      (fun k W => I k W ∧ w.heap.size ≤ W.heap.size ∧ W.heap[w.heap.size + 1]? = some (.loop (rec .ready none)) ∧ W.heap[w.heap.size]? = some (.deferred (some [])))
      (fun k W => ∃ c, Ix c k W ∧ w.heap.size ≤ W.heap.size ∧ W.heap[w.heap.size + 1]? = some (.loop (rec .done (some c))) ∧ W.heap[w.heap.size]? = some (.deferred (some [])))
      W1 (fun k W h => hR k W h.1) ?_ ?_ ?_ ?_ ⟨hI1, hb1.size, hL1, hK1⟩).mono ?_
    · rintro k A B ⟨hi, hs, hl, hk⟩ hb
      exact ⟨hI _ _ _ hi (hb.mono hs), Nat.le_trans hs hb.size, (hb.block _ (Array.getElem?_eq_some_iff.1 hl).1).trans hl, (hb.block _ (Array.getElem?_eq_some_iff.1 hk).1).trans hk⟩
    · rintro k A B ⟨c, hi, hs, hl, hk⟩ hb
      exact ⟨c, hIx _ _ _ _ hi (hb.mono hs), Nat.le_trans hs hb.size, (hb.block _ (Array.getElem?_eq_some_iff.1 hl).1).trans hl, (hb.block _ (Array.getElem?_eq_some_iff.1 hk).1).trans hk⟩
    · rintro k W ⟨hi, hsz, hl, hk⟩ hlen
      have hy := run_yield (P := P) (args := enc k) hl (by rw [hrec]; exact hps k)
      rw [hrec] at hy
      refine ⟨fn, _, assign, body, hy, roundIn_of_wpIn hfn (hassign _ k W _ hsz hi hlen ?_)⟩
      clear hy
      intro a' Wa hkfa hia hax
      replace hl := hkfa.same _ _ hl rfl
      replace hk := hkfa.same _ _ hk rfl
      replace hsz := Nat.le_trans hsz hkfa.size
      have hlt : w.heap.size + 1 < Wa.heap.size := (Array.getElem?_eq_some_iff.1 hl).1
      refine ⟨_, run_beginRound hl (by rw [hrec]), ?_⟩
      have hl2 : (Wa.putObj (w.heap.size + 1) (.loop { rec .ready none with state := .busy })).heap[w.heap.size + 1]? = some (.loop { rec .ready none with state := .busy }) := World.putObj_heap_same hlt
      have hk2 : (Wa.putObj (w.heap.size + 1) (.loop { rec .ready none with state := .busy })).heap[w.heap.size]? = some (.deferred (some [])) := (World.putObj_heap_other (by omega)).trans hk
      have hp2 := put Wa (w.heap.size + 1) (.loop { rec .ready none with state := .busy }) (by omega) hsz
      refine wpIn_mono (hbody _ k a' _ (by omega) ⟨_, hl2⟩ (Nat.le_trans hsz hp2.size) (hI _ _ _ hia hp2) (hAx _ _ _ (w.heap.size + 1) _ (by omega) ⟨_, hl⟩ hax) hlen) ?_
      have fin : ∀ (jump : Option Code) (W3 : World), KeepsOthers (Wa.putObj (w.heap.size + 1) (.loop { rec .ready none with state := .busy })) W3 →
          (Instr.endRound (w.heap.size + 1) jump).run P W3 = .ok (.bool jump.isNone) (W3.putObj (w.heap.size + 1) (.loop (rec (if jump.isNone then .ready else .done) jump))) ∧
          W3.heap[w.heap.size + 1]? = some (.loop { rec .ready none with state := .busy }) ∧
          (W3.putObj (w.heap.size + 1) (.loop (rec (if jump.isNone then .ready else .done) jump))).heap[w.heap.size + 1]? = some (.loop (rec (if jump.isNone then .ready else .done) jump)) ∧
          (W3.putObj (w.heap.size + 1) (.loop (rec (if jump.isNone then .ready else .done) jump))).heap[w.heap.size]? = some (.deferred (some [])) ∧
          Below w.heap.size W3 (W3.putObj (w.heap.size + 1) (.loop (rec (if jump.isNone then .ready else .done) jump))) ∧
          w.heap.size ≤ (W3.putObj (w.heap.size + 1) (.loop (rec (if jump.isNone then .ready else .done) jump))).heap.size := fun jump W3 hk3 => by
        have hl3 := hk3.same _ _ hl2 rfl
        have hs3 : w.heap.size ≤ W3.heap.size := Nat.le_trans (Nat.le_trans hsz hp2.size) hk3.size
        have hp3 := put W3 (w.heap.size + 1) (.loop (rec (if jump.isNone then .ready else .done) jump)) (by omega) hs3
        have := run_endRound (P := P) jump hl3
        rw [hrec] at this ⊢
        exact ⟨this, by rw [hrec] at hl3; exact hl3, World.putObj_heap_same (Array.getElem?_eq_some_iff.1 hl3).1, (World.putObj_heap_other (by omega)).trans (hk3.same _ _ hk2 rfl), by rw [hrec] at hp3; exact hp3, by rw [hrec] at hp3; exact Nat.le_trans hs3 hp3.size⟩
      rintro e a3 W3 hp
      cases e with
      | normal =>
        obtain ⟨hk3, hi3⟩ := hp
        obtain ⟨hr, hl3, hl4, hk4, hp4, hs4⟩ := fin none W3 hk3
        exact ⟨_, _, hr, .inl ⟨rfl, hI _ _ _ hi3 hp4, hs4, hl4, hk4⟩⟩
      | ret =>
        obtain ⟨hk3, hi3⟩ := hp
        obtain ⟨hr, hl3, hl4, hk4, hp4, hs4⟩ := fin (some .ret) W3 hk3
        exact ⟨_, _, hr, .inr ⟨rfl, .ret, hIx _ _ _ _ hi3 hp4, hs4, hl4, hk4⟩⟩
      | exit id =>
        obtain ⟨hk3, hi3⟩ := hp
        obtain ⟨hr, hl3, hl4, hk4, hp4, hs4⟩ := fin (some (.exit id)) W3 hk3
        exact ⟨_, _, hr, .inr ⟨rfl, .exit id, hIx _ _ _ _ hi3 hp4, hs4, hl4, hk4⟩⟩
      | goto t =>
        obtain ⟨hk3, hi3⟩ := hp
        obtain ⟨hr, hl3, hl4, hk4, hp4, hs4⟩ := fin (some (.goto t)) W3 hk3
        exact ⟨_, _, hr, .inr ⟨rfl, .goto t, hIx _ _ _ _ hi3 hp4, hs4, hl4, hk4⟩⟩
      | panic ch => exact hp.elim
      | outgrown => exact hp.elim
    · intro hN k W1 hk
      exact hM hN k W1 hk.1
    · rintro e W2 ⟨⟨v, rfl⟩, (⟨m, hN, hi, hs, hl, hk⟩ | ⟨k, c, hi, hs, hl, hk⟩)⟩
      · exact ⟨none, _, by have := run_endLoop (P := P) hl (by rw [hrec]; simp); rw [hrec] at this; exact this,
          hdone m _ _ hN (Nat.le_refl _) (hI _ _ _ hi (put W2 _ _ (by omega) hs)) ((World.putObj_heap_other (by omega)).trans hk)⟩
      · exact ⟨some c, _, by have := run_endLoop (P := P) hl (by rw [hrec]; simp); rw [hrec] at this; exact this,
          hstop _ c k _ (Nat.le_refl _) (hIx _ _ _ _ hi (put W2 _ _ (by omega) hs)) ((World.putObj_heap_other (by omega)).trans hk)⟩

theorem wide_rangeBoxN {P : Program} {n l0 : Nat} {g : Operand} {ps : Array Tmp} {assign body : Code} {Q : Exit → Act → World → Prop} {a : Act} {w : World}
    {gf : Nat} {lb : Array Value} (hl0 : ∃ r, w.heap[l0]? = some (.loop r)) (hg : a.eval g = .func (.func gf) #[] lb) (eg : ∀ args w, (callFunc gf args).run P w = .ok (.enter gf args) w)
    {enc : Nat → Array Value} {N : Option Nat} {R : World → Prop} (hseq : Iter P gf lb enc N R) (hps : ∀ k, (enc k).size = ps.size)
    (I : Nat → World → Prop) (Ix : Code → Nat → World → Prop)
    (hR : ∀ k W, I k W → R W)
    (hI : ∀ k W W', I k W → Below w.heap.size W W' → I k W')
    (hIx : ∀ c k W W', Ix c k W → Below w.heap.size W W' → Ix c k W')
    (hM : N = none → ∀ k W1, I k W1 → k < 1000000)
    (h0 : I 0 w) (Ax : Nat → Act → World → Prop) (hAx : ∀ k a' W l o, w.heap.size ≤ l → (∃ r, W.heap[l]? = some (.loop r)) → Ax k a' W → Ax k a' (W.putObj l o))
    (hassign : ∀ (l : Nat) (k : Nat) (W : World) (K : Act → World → Prop), w.heap.size ≤ W.heap.size → I k W → (∀ m, N = some m → k < m) → (∀ a' W', KeepsOthers W W' → I k W' → Ax k a' W' → K a' W') →
      assign.wpIn (Fence.wide.inRound l) (n - 1 - 1) P (Exit.then K (fun _ _ _ => False)) { tmps := (ps.zip (enc k)).foldl (fun t (p, v) => t.setIfInBounds p v) a.tmps, defers := [] } W)
    (hbody : ∀ (l : Nat) (k : Nat) (a' : Act) (W : World), w.heap.size ≤ l → (∃ r, W.heap[l]? = some (.loop r)) → w.heap.size ≤ W.heap.size → I k W → Ax k a' W → (∀ m, N = some m → k < m) →
      body.wpIn (Fence.wide.inRound l) (n - 1 - 1) P (bodyEnds I Ix k W) a' W)
    (hdone : ∀ (m : Nat) (W : World), N = some m → I m W → Q .normal a W)
    (hstop : ∀ (c : Code) (k : Nat) (W : World), Ix c k W → c.wpIn (Fence.wide.inRound l0) n P Q a W) :
    (Code.rangeFunc g ps assign body).wpIn (Fence.wide.inRound l0) n P Q a w := by
  obtain ⟨r0, hl0⟩ := hl0
  refine wpIn_rangeFunc ?_
  intro fn hfn
  obtain ⟨rec, hrec⟩ : ∃ rec : LoopState → Option Code → Loop, rec = fun st pe => { state := st, pending := pe, fn, tmps := a.tmps, params := ps, assign, body, defers := r0.defers } := ⟨_, rfl⟩
  obtain ⟨W1, hW1⟩ : ∃ W1, w.alloc (.loop (rec .ready none)) = W1 := ⟨_, rfl⟩
  have hL1 : W1.heap[w.heap.size]? = some (.loop (rec .ready none)) := by rw [← hW1]; exact World.alloc_heap_new w _
  have hb1 : Below w.heap.size w W1 := by
    rw [← hW1]; exact (Below.refl _ w).alloc (Nat.le_refl _) _
  have hI1 : I 0 W1 := hI _ _ _ h0 hb1
  have put : ∀ (W : World) (l : Nat) (o : Obj), w.heap.size ≤ l → w.heap.size ≤ W.heap.size → Below w.heap.size W (W.putObj l o) := fun W l o hl hs =>
    (Below.refl _ W).grown (grownBy_putObj' W l o) hs (fun k e => by cases e; exact hl)
  refine ⟨w.heap.size, [], W1, { target := .fn (.func gf) lb, args := #[.func (.yield w.heap.size) #[] #[]] }, W1, gf,
    #[.func (.yield w.heap.size) #[] #[]] ++ lb, W1, ?_, ?_, ?_, ?_, ?_, ?_⟩
  · rw [← hW1, hrec]; exact run_enterLoop_inner hl0 _ _ _ _ _
  · simp only [resolve, hg]
    simp [go_sem]
  · intro f' _; exact trivial
  · simp [invoke, go_sem, eg]
  · intro h; cases h
  · refine CallsIn.inRound l0 ((hseq (n - 1) w.heap.size
      (fun k W => I k W ∧ w.heap.size ≤ W.heap.size ∧ W.heap[w.heap.size]? = some (.loop (rec .ready none)))
      (fun k W => ∃ c, Ix c k W ∧ w.heap.size ≤ W.heap.size ∧ W.heap[w.heap.size]? = some (.loop (rec .done (some c))))
      W1 (fun k W h => hR k W h.1) ?_ ?_ ?_ ?_ ⟨hI1, hb1.size, hL1⟩).mono ?_)
    · rintro k A B ⟨hi, hs, hl⟩ hb
      exact ⟨hI _ _ _ hi (hb.mono hs), Nat.le_trans hs hb.size, (hb.block _ (Array.getElem?_eq_some_iff.1 hl).1).trans hl⟩
    · rintro k A B ⟨c, hi, hs, hl⟩ hb
      exact ⟨c, hIx _ _ _ _ hi (hb.mono hs), Nat.le_trans hs hb.size, (hb.block _ (Array.getElem?_eq_some_iff.1 hl).1).trans hl⟩
    · rintro k W ⟨hi, hsz, hl⟩ hlen
      have hy := run_yield (P := P) (args := enc k) hl (by rw [hrec]; exact hps k)
      rw [hrec] at hy
      refine ⟨fn, _, assign, body, hy, roundIn_of_wpIn hfn (hassign _ k W _ hsz hi hlen ?_)⟩
      clear hy
      intro a' Wa hkfa hia hax
      replace hl := hkfa.same _ _ hl rfl
      replace hsz := Nat.le_trans hsz hkfa.size
      have hlt : w.heap.size < Wa.heap.size := (Array.getElem?_eq_some_iff.1 hl).1
      refine ⟨_, run_beginRound hl (by rw [hrec]), ?_⟩
      have hl2 : (Wa.putObj (w.heap.size) (.loop { rec .ready none with state := .busy })).heap[w.heap.size]? = some (.loop { rec .ready none with state := .busy }) := World.putObj_heap_same hlt
      have hp2 := put Wa (w.heap.size) (.loop { rec .ready none with state := .busy }) (by omega) hsz
      refine wpIn_mono (hbody _ k a' _ (by omega) ⟨_, hl2⟩ (Nat.le_trans hsz hp2.size) (hI _ _ _ hia hp2) (hAx _ _ _ w.heap.size _ (Nat.le_refl _) ⟨_, hl⟩ hax) hlen) ?_
      have fin : ∀ (jump : Option Code) (W3 : World), KeepsOthers (Wa.putObj (w.heap.size) (.loop { rec .ready none with state := .busy })) W3 →
          (Instr.endRound (w.heap.size) jump).run P W3 = .ok (.bool jump.isNone) (W3.putObj (w.heap.size) (.loop (rec (if jump.isNone then .ready else .done) jump))) ∧
          W3.heap[w.heap.size]? = some (.loop { rec .ready none with state := .busy }) ∧
          (W3.putObj (w.heap.size) (.loop (rec (if jump.isNone then .ready else .done) jump))).heap[w.heap.size]? = some (.loop (rec (if jump.isNone then .ready else .done) jump)) ∧
          Below w.heap.size W3 (W3.putObj (w.heap.size) (.loop (rec (if jump.isNone then .ready else .done) jump))) ∧
          w.heap.size ≤ (W3.putObj (w.heap.size) (.loop (rec (if jump.isNone then .ready else .done) jump))).heap.size := fun jump W3 hk3 => by
        have hl3 := hk3.same _ _ hl2 rfl
        have hs3 : w.heap.size ≤ W3.heap.size := Nat.le_trans (Nat.le_trans hsz hp2.size) hk3.size
        have hp3 := put W3 (w.heap.size) (.loop (rec (if jump.isNone then .ready else .done) jump)) (by omega) hs3
        have := run_endRound (P := P) jump hl3
        rw [hrec] at this ⊢
        exact ⟨this, by rw [hrec] at hl3; exact hl3, World.putObj_heap_same (Array.getElem?_eq_some_iff.1 hl3).1, by rw [hrec] at hp3; exact hp3, by rw [hrec] at hp3; exact Nat.le_trans hs3 hp3.size⟩
      rintro e a3 W3 hp
      cases e with
      | normal =>
        obtain ⟨hk3, hi3⟩ := hp
        obtain ⟨hr, hl3, hl4, hp4, hs4⟩ := fin none W3 hk3
        exact ⟨_, _, hr, .inl ⟨rfl, hI _ _ _ hi3 hp4, hs4, hl4⟩⟩
      | ret =>
        obtain ⟨hk3, hi3⟩ := hp
        obtain ⟨hr, hl3, hl4, hp4, hs4⟩ := fin (some .ret) W3 hk3
        exact ⟨_, _, hr, .inr ⟨rfl, .ret, hIx _ _ _ _ hi3 hp4, hs4, hl4⟩⟩
      | exit id =>
        obtain ⟨hk3, hi3⟩ := hp
        obtain ⟨hr, hl3, hl4, hp4, hs4⟩ := fin (some (.exit id)) W3 hk3
        exact ⟨_, _, hr, .inr ⟨rfl, .exit id, hIx _ _ _ _ hi3 hp4, hs4, hl4⟩⟩
      | goto t =>
        obtain ⟨hk3, hi3⟩ := hp
        obtain ⟨hr, hl3, hl4, hp4, hs4⟩ := fin (some (.goto t)) W3 hk3
        exact ⟨_, _, hr, .inr ⟨rfl, .goto t, hIx _ _ _ _ hi3 hp4, hs4, hl4⟩⟩
      | panic ch => exact hp.elim
      | outgrown => exact hp.elim
    · intro hN k W1 hk
      exact hM hN k W1 hk.1
    · rintro e W2 ⟨⟨v, rfl⟩, (⟨m, hN, hi, hs, hl⟩ | ⟨k, c, hi, hs, hl⟩)⟩
      · exact ⟨none, _, by have := run_endLoop (P := P) hl (by rw [hrec]; simp); rw [hrec] at this; exact this,
          hdone m _ hN (hI _ _ _ hi (put W2 _ _ (by omega) hs))⟩
      · exact ⟨some c, _, by have := run_endLoop (P := P) hl (by rw [hrec]; simp); rw [hrec] at this; exact this,
          hstop c k _ (hIx _ _ _ _ hi (put W2 _ _ (by omega) hs))⟩

/-- The wide fence asks of no function. -/
theorem wide_fn (f : FuncId) : Fence.wide.fn f = True := rfl
theorem keeps_in {A W W' : World} (h : KeepsOthers A W) (hb : Below A.heap.size W W') : KeepsOthers A W' :=
  ⟨Nat.le_trans h.size hb.size, fun k o hk ho => (hb.block k (Array.getElem?_eq_some_iff.1 hk).1).trans (h.same k o hk ho)⟩
theorem cell_putObj_loop {W : World} {l : Nat} {o : Obj} (hl : ∃ r, W.heap[l]? = some (.loop r)) {a : Addr} {v : Value} (h : W.cell? a = some v) : (W.putObj l o).cell? a = some v := by
  obtain ⟨r, hr⟩ := hl
  have hne : l ≠ a.block := by
    rintro rfl
    unfold World.cell? at h
    rw [hr] at h; cases h
  unfold World.cell? at h ⊢
  rw [World.putObj_heap_other (fun e => hne e.symm)]; exact h
theorem cell_putObj_def {W : World} {l : Nat} {o : Obj} (hl : ∃ r, W.heap[l]? = some (.deferred r)) {a : Addr} {v : Value} (h : W.cell? a = some v) : (W.putObj l o).cell? a = some v := by
  obtain ⟨r, hr⟩ := hl
  have hne : l ≠ a.block := by
    rintro rfl
    unfold World.cell? at h
    rw [hr] at h; cases h
  unfold World.cell? at h ⊢
  rw [World.putObj_heap_other (fun e => hne e.symm)]; exact h
end Go.Proofs.Ythiemglckmociaa
/- A region that draws its order, within a round of a loop over a function: walked once in the order of the text, or by an invariant. No program in sight. Conditions: the region holds no defer statement. -/
namespace Go.Proofs.Ythiemglckmociaa
open Go.RowKit

/-- No operation is a defer statement. -/
def noDefer (ops : Array Oper) : Bool := ops.all fun o => match o.op with | .defer _ => false | _ => true
theorem noDefer_spec {ops : Array Oper} (h : noDefer ops = true) {i : Nat} {o : Oper} (ho : ops[i]? = some o) : ∀ c, o.op ≠ .defer c := by
  intro c hc
  unfold noDefer at h
  have h1 := Array.all_eq_true_iff_forall_mem.1 h o (Array.mem_of_getElem? ho)
  rw [hc] at h1; cases h1

variable {P : Program} {ops : Array Oper} {C : World → Prop} {n l : Nat}

theorem wpInR_of_quiet {o : Oper} {a : Act} {K : Act → Prop} {K' : Act → World → Prop} {Q' : Exit → Act → World → Prop} {w : World} (hd : ∀ c, o.op ≠ .defer c) (hw : C w) (h : ∀ a w', C w' → K a → K' a w')
    (hh : o.quiet P a C K) : o.wpIn (Fence.wide.inRound l) n P a w K' Q' := by
  obtain ⟨v, h1, h2⟩ := hh
  have h3 := h1 w hw
  unfold Oper.quietAt at h3
  unfold Oper.wpIn
  refine ⟨fun _ _ => trivial, ?_⟩
  rw [Oper.semAt_plain _ _ _ hd]
  generalize (execOp a.eval o).run P w = r at *
  cases r with
  | ok x w' =>
    cases x <;> simp only [Oper.quietUpon] at h3 <;> simp only [Oper.uponIn]
    case value u =>
      obtain ⟨e1, e2⟩ := h3
      rw [e1, e2]
      exact h _ _ hw h2
    case skip =>
      obtain ⟨e1, e2⟩ := h3
      rw [e1, ← e2]
      exact h _ _ hw h2
    case enter f args =>
      obtain ⟨e1, hc⟩ := h3
      rw [e1]
      exact ⟨fun k => (by cases k), Calls.useR (hc.mono fun e w'' ⟨he, hw''⟩ => by subst he; exact h _ _ hw'' h2)⟩
  | halt x w' => simp only [Oper.quietUpon] at h3

theorem wpOpInR_of_qOp {i : Nat} {a : Act} {K : Act → Prop} {K' : Act → World → Prop} {Q' : Exit → Act → World → Prop} {w : World} (hnd : noDefer ops = true) (hC : C w) (h : ∀ a w', C w' → K a → K' a w')
    (hh : qOp P ops C i K a) : wpOpIn (Fence.wide.inRound l) n P ops Q' i K' a w := by
  unfold qOp at hh
  unfold wpOpIn
  split
  · rename_i ho; simp only [ho] at hh; exact h _ _ hC hh
  · rename_i o ho
    simp only [ho] at hh
    split
    · rename_i hw; simp only [hw, if_true] at hh; exact wpInR_of_quiet (noDefer_spec hnd ho) hC h hh
    · rename_i hw; simp only [hw] at hh; exact ⟨fun _ _ => trivial, h _ _ hC hh⟩

theorem wpAnyInR_of_quiet {md : Region.Mode} {Q : Act → Prop} {Q' : Exit → Act → World → Prop} (hnd : noDefer ops = true) (hQ : ∀ a w, C w → Q a → Q' .normal a w) : ∀ (fuel : Nat) (listed : Array Bool) (a : Act) (w : World), C w →
    wpAnyQ P md ops C Q fuel listed a → wpAnyIn (Fence.wide.inRound l) n P md ops Q' fuel listed a w
  | 0, _, _, _, hw, h => ⟨h.1, hQ _ _ hw h.2⟩
  | fuel + 1, _, _, _, hw, h => ⟨fun h0 => hQ _ _ hw (h.1 h0), fun i hi => wpOpInR_of_qOp hnd hw (fun a' w' hw' => wpAnyInR_of_quiet hnd hQ fuel _ a' w' hw') (h.2 i hi)⟩

theorem wpR_region_quiet {id : Nat} {Q : Exit → Act → World → Prop} {a : Act} {w : World} (hnd : noDefer ops = true) (hm : P.follows .mixedOrders = true) (hB : Region.lexB .any ops = true) (hC : C { w with drawn := w.drawn + 1 })
    (h : wpQuiet P ops C (fun a' => ∀ w', C w' → Q .normal a' w') ops.toList a) : (Code.region id ops true).wpIn (Fence.wide.inRound l) n P Q a w := by
  simp only [Region.lexB, Bool.and_eq_true] at hB
  refine wpIn_region_any hm (wpAnyInR_of_quiet (Q := fun a' => ∀ w', C w' → Q .normal a' w') hnd (fun _ w' hw' h => h w' hw') _ _ _ _ hC ?_)
  have := wpAnyQ_lex (C := C) (md := .any) hB.1 ops.toList 0 (Array.replicate ops.size false) a (by simp) (by simpa using hB.2) h
  simpa using this

/-- As region_q, within a round. -/
theorem regionR_q {id : Nat} {Q : Exit → Act → World → Prop} {a : Act} {w : World} {ol : List Oper} (hm : P.follows .mixedOrders = true) (hnd : noDefer ol.toArray = true) (hB : Region.lexB .any ol.toArray = true)
    (h : wpQuiet P ol.toArray (fun w' => ∃ p : Regrown, w' = Go.Sort.grow (redrawn w p.d) p.os) (fun a' => ∀ w', Below w.heap.size w w' → Q .normal a' w') ol a) : (Code.region id ol.toArray true).wpIn (Fence.wide.inRound l) n P Q a w :=
  wpR_region_quiet (C := fun w' => ∃ p : Regrown, w' = Go.Sort.grow (redrawn w p.d) p.os) hnd hm hB ⟨⟨w.drawn + 1, #[]⟩, by rw [Go.Sort.grow_empty]; rfl⟩
    (wpQuiet_post (fun a' h' w' hw' => by obtain ⟨p, rfl⟩ := hw'; exact h' _ (below_regrown w p.d p.os)) _ _ (by simpa using h))

/-- An operation that is no call. -/
def onlyN (Q : Act → World → Prop) : Exit → Act → World → Prop
  | .normal, a, w => Q a w
  | _, _, _ => False

theorem rowsInR {row : String} {args : Array Value} {w : World} {R : Value → World → Prop} (h : Rows P row args w R) : RowsIn (Fence.wide.inRound l) n P row args w R :=
  fun c cs _ => let ⟨v, w', r, s⟩ := h c cs; ⟨v, w', r, stepsIn_wide.2 s⟩
theorem wpOpInR_of_wpOp {i : Nat} {a : Act} {K K' : Act → World → Prop} {Q0 : Act → World → Prop} {Q : Exit → Act → World → Prop} {w : World} (hnd : noDefer ops = true) (hK : ∀ a w, K a w → K' a w) (h : wpOp P ops (onlyN Q0) i K a w) :
    wpOpIn (Fence.wide.inRound l) n P ops Q i K' a w := by
  unfold wpOp at h
  unfold wpOpIn
  split
  · rename_i ho; simp only [ho] at h; exact hK _ _ h
  · rename_i o ho
    simp only [ho] at h
    split
    · rename_i hw
      simp only [hw, if_true] at h
      rcases h with h | ⟨_, a', w', h⟩
      · unfold Oper.wp at h
        unfold Oper.wpIn
        refine ⟨fun _ _ => trivial, ?_⟩
        rw [Oper.semAt_plain _ _ _ (noDefer_spec hnd ho)]
        generalize (execOp a.eval o).run P w = r at *
        cases r with
        | ok x w' =>
          cases x <;> simp only [Oper.upon] at h <;> simp only [Oper.uponIn]
          case value u => exact hK _ _ h
          case skip => exact hK _ _ h
          case defer d => exact hK _ _ h
          case enter f args =>
            refine ⟨fun k => (by cases k), Calls.useR (h.mono ?_)⟩
            intro e w'' he
            cases e with
            | returned v => exact hK _ _ he
            | panicked c => exact he.elim
            | outgrown => obtain ⟨_, _, he⟩ := he; exact he.elim
          case row r args => exact ⟨fun k => (by cases k), rowsInR (h.mono fun _ _ he => hK _ _ he)⟩
        | halt x w' => cases x <;> simp only [Oper.upon] at h <;> exact h.elim
      · exact h.elim
    · rename_i hw; simp only [hw] at h; exact ⟨fun _ _ => trivial, hK _ _ h⟩
theorem wpAnyInR_of {md : Region.Mode} {Q : Exit → Act → World → Prop} (hnd : noDefer ops = true) : ∀ (fuel : Nat) (listed : Array Bool) (a : Act) (w : World),
    wpAny P md ops (onlyN (Q .normal)) fuel listed a w → wpAnyIn (Fence.wide.inRound l) n P md ops Q fuel listed a w
  | 0, _, _, _, h => h
  | fuel + 1, _, _, _, h => ⟨h.1, fun i hi => wpOpInR_of_wpOp hnd (fun a' w' h' => wpAnyInR_of hnd fuel _ a' w' h') (h.2 i hi)⟩
/-- As wp_region_inv, within a round. -/
theorem wpR_region_inv {id : Nat} {Q : Exit → Act → World → Prop} {a : Act} {w : World} (hm : P.follows .mixedOrders = true) (hnd : noDefer ops = true) (hd : edgesDown ops = true) (I : (Nat → Bool) → Act → World → Prop)
    (h0 : I (fun _ => false) a w.drew)
    (hstep : ∀ (d : Nat → Bool) (a : Act) (w : World), I d a w → ∀ i, i < ops.size → d i = false → (∀ o, ops[i]? = some o → ∀ e ∈ o.after, Region.binds .any e = true → d e.on = true) → wpOp P ops (onlyN (Q .normal)) i (I (fun j => j == i || d j)) a w)
    (hend : ∀ (d : Nat → Bool) (a : Act) (w : World), I d a w → (∀ i, i < ops.size → d i = true) → Q .normal a w) : (Code.region id ops true).wpIn (Fence.wide.inRound l) n P Q a w := by
  refine wpIn_region_any hm (wpAnyInR_of hnd _ _ _ _ (wpAny_inv hd I hstep hend ops.size _ a _ (by simp) ?_ ?_))
  · simp
  · have e : (fun j => (Array.replicate ops.size false).getD j false) = fun _ => false := by
      funext j
      simp only [Array.getD_eq_getD_getElem?, Array.getElem?_replicate]
      split <;> rfl
    rw [e]; exact h0

/-! Reads in any order, then one operation after another; outside a round and within one. -/
section
variable {F : Fence} {w : World} {md : Region.Mode}
/-- The fence asks nothing. -/
structure AsksNone (F : Fence) : Prop where
  fn : ∀ f, F.fn f
  depth : F.depth.isSome = false
  calls : ∀ {n : Nat} {P : Program} {f : FuncId} {args : Array Value} {w : World} {R : Ending → World → Prop}, Calls P f args w R → CallsIn F n P f args w R
theorem asksNone_wide : AsksNone Fence.wide := ⟨fun _ => trivial, rfl, fun h => callsIn_wide.2 h⟩
theorem wpOpIn_of_stOp (hF : AsksNone F) (hnd : noDefer ops = true) {i : Nat} {a : Act} {K : Act → Prop} {K' : Act → World → Prop} {Q' : Exit → Act → World → Prop} (h : ∀ a, K a → K' a w) (hh : stOp P ops w i K a) : wpOpIn F n P ops Q' i K' a w := by
  unfold stOp at hh
  unfold wpOpIn
  split
  · rename_i ho; simp only [ho] at hh; exact h _ hh
  · rename_i o ho
    simp only [ho] at hh
    split
    · rename_i hw
      simp only [hw, if_true] at hh
      unfold Oper.still at hh
      unfold Oper.wpIn
      refine ⟨fun f _ => hF.fn f, ?_⟩
      rw [Oper.semAt_plain _ _ _ (noDefer_spec hnd ho)]
      generalize (execOp a.eval o).run P w = r at *
      cases r with
      | ok x w' =>
        cases x <;> simp only [Oper.stillUpon] at hh <;> simp only [Oper.uponIn]
        case enter f args =>
          obtain ⟨rfl, v, hc, hn⟩ := hh
          exact ⟨fun k => (by rw [hF.depth] at k; cases k), hF.calls (hc.mono fun e w'' ⟨he, hw⟩ => by subst he; subst hw; exact h _ hn)⟩
        all_goals (obtain ⟨rfl, h2⟩ := hh; exact h _ h2)
      | halt x w' => simp only [Oper.stillUpon] at hh
    · rename_i hw; simp only [hw] at hh; exact ⟨fun f _ => hF.fn f, h _ hh⟩

theorem wpAnyIn_of_head (hF : AsksNone F) (hnd : noDefer ops = true) {N g : Nat} {L : Array Bool → Act → Prop} {Q' : Exit → Act → World → Prop} (hL : ∀ listed a, L listed a → wpAnyIn F n P md ops Q' g listed a w) :
    ∀ (f : Nat) (listed : Array Bool) (a : Act), wpAnyL P md ops w N L f listed a → wpAnyIn F n P md ops Q' (f + g) listed a w
  | 0, listed, a, h => by rw [Nat.zero_add]; exact hL _ _ h
  | f + 1, listed, a, h => by
    rw [show f + 1 + g = (f + g) + 1 by omega]
    exact ⟨fun h0 => absurd h0 h.1, fun i hi => wpOpIn_of_stOp hF hnd (fun a' h' => wpAnyIn_of_head hF hnd hL f _ a' h') (h.2 i hi).2⟩

theorem wpAnyIn_of_seq {Q' : Exit → Act → World → Prop} : ∀ (l : List Oper) (k : Nat) (listed : Array Bool) (a : Act) (w : World), (∀ j, l[j]? = ops[k + j]?) →
    Region.seqB md ops l.length k listed = true → wpListIn F n P ops Q' l a w → wpAnyIn F n P md ops Q' l.length listed a w
  | [], _, _, _, _, _, hB, h => ⟨by simpa [Region.seqB] using hB, h⟩
  | o :: l, k, listed, a, w, hl, hB, h => by
    have h0 : ops[k]? = some o := by simpa using (hl 0).symm
    simp only [List.length_cons, Region.seqB, Bool.and_eq_true, decide_eq_true_eq] at hB
    refine ⟨fun h1 => (by rw [hB.1] at h1; cases h1), fun i hi => ?_⟩
    rw [hB.1] at hi
    have hik : i = k := by simpa using hi
    subst hik
    have hw : wpOpIn F n P ops Q' i (wpListIn F n P ops Q' l) a w := by unfold wpOpIn; simp only [h0]; exact h
    exact wpOpIn_mono (fun a' w' h' => wpAnyIn_of_seq l (i + 1) _ a' w' (fun j => by have := hl (j + 1); simpa [Nat.add_assoc, Nat.add_comm 1 j] using this) hB.2 h') hw

theorem wpIn_region_still_tail (hF : AsksNone F) {id : Nat} {Q : Exit → Act → World → Prop} {a : Act} {w : World} {l : List Oper} (N : Nat) (hm : P.follows .mixedOrders = true) (hnd : noDefer l.toArray = true) (hB : Region.lexTailB .any l.toArray N = true)
    (h : wpStill P l.toArray w.drew (fun a' => wpListIn F n P l.toArray Q (l.drop N) a' w.drew) (l.take N) a) : (Code.region id l.toArray true).wpIn F n P Q a w := by
  simp only [Region.lexTailB, Bool.and_eq_true, decide_eq_true_eq] at hB
  obtain ⟨⟨⟨⟨hsel, hn⟩, hs⟩, hc⟩, hlex⟩ := hB
  have hn' : N < l.length := by simpa using hn
  have htl : (l.take N).length = N := by simp; omega
  have hdl : (l.drop N).length = l.toArray.size - N := by simp
  have inv0 : HeadInv .any l.toArray N (Array.replicate l.toArray.size false) :=
    ⟨by simp, fun j oj _ hl => (by rw [getD_replicate_false] at hl; cases hl), fun t _ ht => getD_in (by simpa using ht) (getD_replicate_false _ _)⟩
  have H := wpAnyL_lex (md := .any) (g := l.toArray.size - N) hsel hs hc hn (l.take N) 0 _ a (fun j hj => by
    have hj' : j < N := by rw [htl] at hj; exact hj
    simp [hj']) (by simpa using htl) inv0 (by rw [htl]; exact hlex) h
  refine wpIn_region_any hm ?_
  have := wpAnyIn_of_head (n := n) (Q' := Q) hF hnd (g := l.toArray.size - N) (fun listed a' hL => by
    have := wpAnyIn_of_seq (F := F) (n := n) (md := .any) (Q' := Q) (l.drop N) N listed a' w.drew (fun j => by simp [List.getElem?_drop]) (by rw [hdl]; exact hL.1) hL.2
    rwa [hdl] at this) _ _ _ H
  rw [htl, show N + (l.toArray.size - N) = l.toArray.size by omega] at this
  exact this
theorem wpStill_of_quiet {w0 : World} {Q : Act → Prop} : ∀ (l : List Oper) (a : Act), wpQuiet P ops (fun w' => w' = w0) Q l a → wpStill P ops w0 Q l a
  | [], _, h => h
  | o :: rest, a, h => by
    unfold wpQuiet at h
    unfold wpStill
    split
    · rename_i hw
      rw [if_pos hw] at h
      obtain ⟨v, h1, h2⟩ := h
      have h3 := h1 w0 rfl
      unfold Oper.quietAt at h3
      unfold Oper.still
      generalize (execOp a.eval o).run P w0 = r at *
      cases r with
      | ok x w' =>
        cases x <;> simp only [Oper.quietUpon] at h3 <;> simp only [Oper.stillUpon]
        case value u => obtain ⟨e1, e2⟩ := h3; subst e2; exact ⟨e1, wpStill_of_quiet rest _ h2⟩
        case skip => obtain ⟨e1, e2⟩ := h3; subst e2; exact ⟨e1, wpStill_of_quiet rest _ h2⟩
        case enter f args => obtain ⟨e1, hc⟩ := h3; exact ⟨e1, v, e1 ▸ hc, wpStill_of_quiet rest _ h2⟩
      | halt x w' => simp only [Oper.quietUpon] at h3
    · rename_i hw
      rw [if_neg hw] at h
      exact wpStill_of_quiet rest _ h
/-- Reads in any order, by the cheap step; then one operation after another. -/
theorem wpIn_region_quiet_tail (hF : AsksNone F) {id : Nat} {Q : Exit → Act → World → Prop} {a : Act} {w : World} {l : List Oper} (N : Nat) (hm : P.follows .mixedOrders = true) (hnd : noDefer l.toArray = true) (hB : Region.lexTailB .any l.toArray N = true)
    (h : wpQuiet P l.toArray (fun w' => w' = w.drew) (fun a' => wpListIn F n P l.toArray Q (l.drop N) a' w.drew) (l.take N) a) : (Code.region id l.toArray true).wpIn F n P Q a w :=
  wpIn_region_still_tail hF N hm hnd hB (wpStill_of_quiet _ _ h)
end
end Go.Proofs.Ythiemglckmociaa
/- Slices that a call has made: numbers, pairs, votes; what is appended. No program in sight. No conditions. -/
namespace Go.Proofs.Ythiemglckmociaa
open Go.RowKit

def cells2 : List (Int × Int) → List Value
  | [] => []
  | p :: l => .int .i64 p.1 :: .int .i64 p.2 :: cells2 l
theorem cells2_length : ∀ l, (cells2 l).length = l.length * 2
  | [] => rfl
  | _ :: l => by simp only [cells2, List.length_cons, cells2_length l]; omega
theorem cells2_get : ∀ {l : List (Int × Int)} {i : Nat}, i < l.length → (cells2 l)[i * 2]? = some (.int .i64 (gi l (0, 0) i).1) ∧ (cells2 l)[i * 2 + 1]? = some (.int .i64 (gi l (0, 0) i).2)
  | p :: l, 0, _ => by simp [cells2, gi]
  | p :: l, i + 1, h => by
    have h' := cells2_get (l := l) (i := i) (by simpa using h)
    have e1 : (i + 1) * 2 = i * 2 + 1 + 1 := by omega
    have e2 : gi (p :: l) (0, 0) (i + 1) = gi l (0, 0) i := by simp [gi]
    rw [e1, e2]
    simpa [cells2] using h'
theorem cells2_append : ∀ l m, cells2 (l ++ m) = cells2 l ++ cells2 m
  | [], _ => rfl
  | p :: l, m => by simp [cells2, cells2_append l m]
theorem cells2_one : ∀ (l : List (Int × Int)), ∀ u ∈ cells2 l, u.oneCell' = true
  | [], u, hu => by simp [cells2] at hu
  | p :: l, u, hu => by
    simp only [cells2, List.mem_cons] at hu
    rcases hu with rfl | rfl | hu
    · rfl
    · rfl
    · exact cells2_one l u hu
theorem own_pairs {w : World} {base e : Nat} {v : Value} {l : List (Int × Int)} (h : w.ownsRow base e 2 v l.length (cells2 l)) : PairsAt w v l := by
  rcases id h with ⟨_, ⟨rfl, h0⟩ | ⟨g, cap, cur, rfl, hb, hg, hn, hm, hs, ht⟩⟩
  · rw [List.length_eq_zero_iff] at h0; subst h0; exact pairs0 _ _ _ (by decide)
  · refine ⟨_, cap, rfl, hn, by unfold maxLen at hm; omega, fun i hi => ⟨g, 0, rfl, (Array.getElem?_eq_some_iff.1 hg).1, ?_⟩⟩
    obtain ⟨h1, h2⟩ := cells2_get hi
    rw [Nat.zero_add, h.cellAt (i * 2) (by omega), h.cellAt (i * 2 + 1) (by omega)]
    exact ⟨h1, h2⟩
theorem addr_add (b o j : Nat) : (⟨b, o, none⟩ : Addr).add j = ⟨b, o + j, none⟩ := by
  unfold Addr.add
  by_cases h : j = 0
  · subst h; simp
  · simp [h]

theorem two_source {α : Type} {w : World} {b o : Nat} {l : List α} {f : List Value} (x y : Nat → Value) (hlen : f.length = l.length * 2)
    (hf : ∀ i, i < l.length → f[i * 2]? = some (x i) ∧ f[i * 2 + 1]? = some (y i)) (hc : ∀ i, i < l.length → w.cell? ⟨b, o + i * 2, none⟩ = some (x i) ∧ w.cell? ⟨b, o + i * 2 + 1, none⟩ = some (y i)) :
    ∀ j u, f[j]? = some u → w.cell? ((⟨b, o, none⟩ : Addr).add j) = some u := by
  intro j u hu
  have hj : j < l.length * 2 := by
    have := (List.getElem?_eq_some_iff.1 hu).1
    omega
  rw [addr_add]
  obtain ⟨f1, f2⟩ := hf (j / 2) (by omega)
  obtain ⟨c1, c2⟩ := hc (j / 2) (by omega)
  by_cases hp : j % 2 = 0
  · rw [show j / 2 * 2 = j by omega] at f1 c1
    rw [c1, ← f1, hu]
  · rw [show j / 2 * 2 + 1 = j by omega] at f2
    rw [show o + j / 2 * 2 + 1 = o + j by omega] at c2
    rw [c2, ← f2, hu]
theorem pairs_source {w : World} {a : Option Addr} {cap : Nat} {l : List (Int × Int)} (h : PairsAt w (.slice a l.length cap) l) (hl : 0 < l.length) :
    ∃ b o, a = some ⟨b, o, none⟩ ∧ ∀ j u, (cells2 l)[j]? = some u → w.cell? ((⟨b, o, none⟩ : Addr).add j) = some u := by
  obtain ⟨a', cap', e, _, _, hc⟩ := h
  simp only [Value.slice.injEq] at e
  obtain ⟨rfl, _, rfl⟩ := e
  obtain ⟨b, o, rfl, _, _, _⟩ := hc 0 hl
  refine ⟨b, o, rfl, two_source (l := l) (fun i => .int .i64 (gi l (0, 0) i).1) (fun i => .int .i64 (gi l (0, 0) i).2) (cells2_length l) (fun i hi => cells2_get hi) (fun i hi => ?_)⟩
  obtain ⟨b', o', e, _, h1, h2⟩ := hc i hi
  simp only [Option.some.injEq, Addr.mk.injEq, and_true] at e
  obtain ⟨rfl, rfl⟩ := e
  exact ⟨h1, h2⟩
/-- A slice of the call's own is written, or grows: what lay there when the call began lies there still. -/
theorem below_grow {a w w' : World} {row : Option Nat} (h : Below a.heap.size a w) (hg : w.grownBy w' row) (hr : ∀ k, row = some k → a.heap.size ≤ k) : Below a.heap.size a w' := h.grown hg h.size hr
end Go.Proofs.Ythiemglckmociaa
/- Appending whatever lies in memory to a row of the call's own; rows and blocks apart. No program in sight. Conditions: as said in each. -/
namespace Go.Proofs.Ythiemglckmociaa
open Go.RowKit

theorem own_slice {w : World} {base e size n : Nat} {v : Value} {xs : List Value} (h : w.ownsRow base e size v n xs) : ∃ a cap, v = .slice a n cap := by
  obtain ⟨_, ⟨h, h0⟩ | ⟨g, cap, _, h, _⟩⟩ := h
  · subst h0; exact ⟨_, _, h⟩
  · exact ⟨_, _, h⟩
theorem own_base {w : World} {base base' e size n : Nat} {v : Value} {xs : List Value} (h : w.ownsRow base e size v n xs) (hb : base' ≤ base) : w.ownsRow base' e size v n xs := by
  obtain ⟨hl, h | ⟨g, cap, cur, hv, hg, hr⟩⟩ := h
  · exact ⟨hl, .inl h⟩
  · exact ⟨hl, .inr ⟨g, cap, cur, hv, Nat.le_trans hb hg, hr⟩⟩
theorem cell_of_block {w : World} {g : Nat} {cs : Array Value} {t : TypeId} {fr : Nat × Nat} (h : w.heap[g]? = some (.cells cs t fr)) (i : Nat) : w.cell? ⟨g, i, none⟩ = cs[i]? := by
  unfold World.cell?
  rw [h]; rfl
theorem frozen_of_block {w : World} {g : Nat} {cs : Array Value} {t : TypeId} (h : w.heap[g]? = some (.cells cs t (0, 0))) (i : Nat) : w.frozen? ⟨g, i, none⟩ = false := by
  unfold World.frozen?
  rw [h]; simp
theorem grown_set (w : World) (a : Addr) (u : Value) : w.grownBy (w.setCell a u) (some a.block) :=
  ⟨rfl, rfl, rfl, by simp [World.setCell], fun k _ hne => Below.heap_setCell _ _ _ _ (fun e => hne (by rw [e]))⟩
theorem grown_trans {a b c : World} {r : Option Nat} (h : a.grownBy b r) (k : b.grownBy c r) : a.grownBy c r :=
  ⟨k.os.trans h.os, k.tape.trans h.tape, k.output.trans h.output, Nat.le_trans h.size k.size, fun i hi hne => (k.block i (Nat.lt_of_lt_of_le hi h.size) hne).trans (h.block i hi hne)⟩
theorem block_set {w : World} {g : Nat} {cs : Array Value} {t : TypeId} {fr : Nat × Nat} (h : w.heap[g]? = some (.cells cs t fr)) (i : Nat) (v : Value) : (w.setCell ⟨g, i, none⟩ v).heap[g]? = some (.cells (cs.setIfInBounds i v) t fr) := by
  simp [World.setCell, Array.getElem?_modify, h]
theorem not_both {a : Bool} {P : Prop} (h : a = true) (h' : a = false) : P := by rw [h] at h'; cases h'
/-- A block below is the same block. -/
theorem blk_below {x x' : World} {g : Nat} {o : Obj} (h : x.heap[g]? = some o) (hb : Below x.heap.size x x') : x'.heap[g]? = some o := (hb.block g (Array.getElem?_eq_some_iff.1 h).1).trans h
theorem ne_old {x : World} {base e size n : Nat} {v : Value} {xs : List Value} (h : x.ownsRow base e size v n xs) {g : Nat} (hg : g < base) : v.ownBlock ≠ some g := by
  intro hk
  have := (h.lt g hk).1; omega
/-- m elements that can be appended: none at all, or cells that lie somewhere. -/
def SrcAt (w : World) (x : Value) (m size : Nat) (news : List Value) : Prop :=
  news.length = m * size ∧ (∀ u ∈ news, u.oneCell' = true) ∧ ((∃ c, x = .slice none m c ∧ m = 0) ∨ ∃ ad c, x = .slice (some ad) m c ∧ ∀ j u, news[j]? = some u → w.cell? (ad.add j) = some u)
theorem SrcAt.below {w w' : World} {x : Value} {m size : Nat} {news : List Value} (h : SrcAt w x m size news) (hb : Below w.heap.size w w') : SrcAt w' x m size news := by
  obtain ⟨h1, h2, h | ⟨ad, c, e, h⟩⟩ := h
  · exact ⟨h1, h2, .inl h⟩
  · exact ⟨h1, h2, .inr ⟨ad, c, e, fun j u hu => (hb.cell (block_lt_of_cell (h j u hu))).trans (h j u hu)⟩⟩
theorem pairs_src {w : World} {v : Value} {l : List (Int × Int)} (h : PairsAt w v l) : SrcAt w v l.length 2 (cells2 l) := by
  refine ⟨cells2_length l, cells2_one l, ?_⟩
  obtain ⟨a, cap, rfl, _⟩ := id h
  rcases Nat.eq_zero_or_pos l.length with h0 | hpos
  · cases a with
    | none => exact .inl ⟨_, rfl, h0⟩
    | some ad => exact .inr ⟨ad, _, rfl, fun j u hu => by rw [List.eq_nil_of_length_eq_zero h0] at hu; simp [cells2] at hu⟩
  · obtain ⟨b, o, rfl, hc⟩ := pairs_source h hpos
    exact .inr ⟨_, _, rfl, hc⟩

section
variable {P : Program} {w : World}
theorem run_append_any (base : Nat) (t ty e : TypeId) (i : TypeInfo) (z : Value) (size bytes : Nat) (ht : P.underlying t = some (.slice e)) (hi : P.info? e = some i) (hz : i.zero = some z)
    (hsize : i.size = size) (hby : i.bytes = bytes) (hzs : z.cells.size = size) (hsz : 0 < size)
    (v : Value) (n : Nat) (xs : List Value) (hown : w.ownsRow base e size v n xs)
    (x : Value) (m : Nat) (news : List Value) (hsrc : SrcAt w x m size news)
    (h63 : n + m ≤ maxLen) (hbytes : (n + m) * bytes ≤ 140737488355328) (hbase : base ≤ w.heap.size) :
    ∃ v' w', (Builtin.append_ #[t, t] ty #[v, x]).run P w = .ok v' w' ∧ w'.ownsRow base e size v' (n + m) (xs ++ news) ∧ w.grownBy w' v.ownBlock ∧ (v'.ownBlock = v.ownBlock ∨ v'.ownBlock = some w.heap.size) := by
  obtain ⟨hl, h1, ⟨c, rfl, rfl⟩ | ⟨ad, c, rfl, hnews⟩⟩ := hsrc
  · have hnil : news = [] := List.eq_nil_of_length_eq_zero (by omega)
    subst hnil
    refine ⟨v, w, ?_, by simpa using hown, ⟨rfl, rfl, rfl, Nat.le_refl _, fun _ _ _ => rfl⟩, .inl rfl⟩
    rcases hown.2 with ⟨rfl, rfl⟩ | ⟨g, cap, cur, rfl, _, _, hnc, _⟩
    · simp [Builtin.append_, run_underlying ht, sizeOf, typeInfo, hi, Builtin.lenOf, Builtin.firstCells]
    · simp [Builtin.append_, run_underlying ht, sizeOf, typeInfo, hi, Builtin.lenOf, Builtin.firstCells, hnc, storeCells]
  · obtain ⟨v', w', hr, h2, h3, _, h5⟩ := run_append_own_at (P := P) w base t ty e i z size bytes ht hi hz hsize hby hzs hsz v n xs hown ad m c news hl hnews h1 h63 hbytes hbase
    exact ⟨v', w', hr, h2, h3, h5⟩

theorem wp_append_any {o : Oper} {a : Act} {K : Act → World → Prop} {Q : Exit → Act → World → Prop} (s x : Operand) (t : TypeId)
    (ho : o.op = .call { callee := .builtin .append, args := #[s, x], argTypes := #[t, t] })
    (base : Nat) (e : TypeId) (i : TypeInfo) (z : Value) (size bytes : Nat) (ht : P.underlying t = some (.slice e)) (hi : P.info? e = some i) (hz : i.zero = some z)
    (hsize : i.size = size) (hby : i.bytes = bytes) (hzs : z.cells.size = size) (hsz : 0 < size)
    (v : Value) (n : Nat) (xs : List Value) (hs : a.eval s = v) (hown : w.ownsRow base e size v n xs)
    (xv : Value) (m : Nat) (news : List Value) (hx : a.eval x = xv) (hsrc : SrcAt w xv m size news)
    (h63 : n + m ≤ maxLen) (hbytes : (n + m) * bytes ≤ 140737488355328) (hbase : base ≤ w.heap.size)
    (h : ∀ v' w', w'.ownsRow base e size v' (n + m) (xs ++ news) → w.grownBy w' v.ownBlock → (v'.ownBlock = v.ownBlock ∨ v'.ownBlock = some w.heap.size) → K (a.put o.dst v') w') : o.wp P a w K Q := by
  obtain ⟨v', w', hr, h2, h3, h4⟩ := run_append_any (P := P) (w := w) base t o.type e i z size bytes ht hi hz hsize hby hzs hsz v n xs hown xv m news hsrc h63 hbytes hbase
  unfold Oper.wp execOp
  simp only [ho, resolve, invoke, builtin, Sem.run_bind, Sem.run_pure, Result.andThen_ok, List.map_toArray, List.map_cons, List.map_nil, hs, hx, hr]
  exact h v' w' h2 h3 h4
theorem wpList_append_any {ops : Array Oper} {rest : List Oper} {o : Oper} {a : Act} {Q : Exit → Act → World → Prop} (hgd : o.guard = none) (s x : Operand) (t : TypeId)
    (ho : o.op = .call { callee := .builtin .append, args := #[s, x], argTypes := #[t, t] })
    (base : Nat) (e : TypeId) (i : TypeInfo) (z : Value) (size bytes : Nat) (ht : P.underlying t = some (.slice e)) (hi : P.info? e = some i) (hz : i.zero = some z)
    (hsize : i.size = size) (hby : i.bytes = bytes) (hzs : z.cells.size = size) (hsz : 0 < size)
    (v : Value) (n : Nat) (xs : List Value) (hs : a.eval s = v) (hown : w.ownsRow base e size v n xs)
    (xv : Value) (m : Nat) (news : List Value) (hx : a.eval x = xv) (hsrc : SrcAt w xv m size news)
    (h63 : n + m ≤ maxLen) (hbytes : (n + m) * bytes ≤ 140737488355328) (hbase : base ≤ w.heap.size)
    (h : ∀ v' w', w'.ownsRow base e size v' (n + m) (xs ++ news) → w.grownBy w' v.ownBlock → (v'.ownBlock = v.ownBlock ∨ v'.ownBlock = some w.heap.size) → wpList P ops Q rest (a.put o.dst v') w') : wpList P ops Q (o :: rest) a w :=
  wpList_plain hgd fun _ hK => wp_append_any s x t ho base e i z size bytes ht hi hz hsize hby hzs hsz v n xs hs hown xv m news hx hsrc h63 hbytes hbase fun v' w' h2 h3 h4 => hK _ _ (h v' w' h2 h3 h4)
end
end Go.Proofs.Ythiemglckmociaa
