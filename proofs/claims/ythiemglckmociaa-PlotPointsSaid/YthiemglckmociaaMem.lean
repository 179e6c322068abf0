/- Plain words for what a walk reads: slices of numbers, of pairs of numbers, of votes; calls that give one value and leave what lay there. No program in sight. No conditions. -/
import Derived.WalkKit
import Derived.Lib.Hide
import Derived.Lib.QuietBelow
import Derived.BigQuiet
namespace Go.Proofs.Ythiemglckmociaa
open Go.RowKit

/-- The i-th element, d beyond the end. (A plain def: simp does not look inside.) -/
def gi {α : Type} (l : List α) (d : α) (i : Nat) : α := l[i]?.getD d
theorem gi_lt {α : Type} {l : List α} {d : α} {i : Nat} (h : i < l.length) : gi l d i = l[i] := by simp [gi, h]

/-- Is x in l? (A plain def.) -/
def hasB (l : List Int) (x : Int) : Bool := l.contains x
theorem hasB_iff {l : List Int} {x : Int} : hasB l x = true ↔ x ∈ l := by simp [hasB]

/-- v is a slice whose elements are the numbers l, in memory that is there. -/
def IntsAt (w : World) (v : Value) (l : List Int) : Prop :=
  ∃ (a : Option Addr) (cap : Nat), v = .slice a l.length cap ∧ l.length ≤ cap ∧ cap ≤ 9223372036854775807 ∧
    ∀ i, i < l.length → ∃ b o, a = some ⟨b, o, none⟩ ∧ b < w.heap.size ∧ w.cell? ⟨b, o + i, none⟩ = some (.int .i64 (gi l 0 i))

/-- v is a slice whose elements are structs of two numbers. -/
def PairsAt (w : World) (v : Value) (l : List (Int × Int)) : Prop :=
  ∃ (a : Option Addr) (cap : Nat), v = .slice a l.length cap ∧ l.length ≤ cap ∧ cap ≤ 9223372036854775807 ∧
    ∀ i, i < l.length → ∃ b o, a = some ⟨b, o, none⟩ ∧ b < w.heap.size ∧ w.cell? ⟨b, o + i * 2, none⟩ = some (.int .i64 (gi l (0, 0) i).1) ∧
      w.cell? ⟨b, o + i * 2 + 1, none⟩ = some (.int .i64 (gi l (0, 0) i).2)

/-- v is a slice whose elements are structs of a number and a bool. -/
def VotesAt (w : World) (v : Value) (l : List (Int × Bool)) : Prop :=
  ∃ (a : Option Addr) (cap : Nat), v = .slice a l.length cap ∧ l.length ≤ cap ∧ cap ≤ 9223372036854775807 ∧
    ∀ i, i < l.length → ∃ b o, a = some ⟨b, o, none⟩ ∧ b < w.heap.size ∧ w.cell? ⟨b, o + i * 2, none⟩ = some (.int .i64 (gi l (0, false) i).1) ∧
      w.cell? ⟨b, o + i * 2 + 1, none⟩ = some (.bool (gi l (0, false) i).2)

theorem IntsAt.below {w w' : World} {v : Value} {l : List Int} (h : IntsAt w v l) (hb : Below w.heap.size w w') : IntsAt w' v l := by
  obtain ⟨a, cap, hv, h1, h2, h3⟩ := h
  refine ⟨a, cap, hv, h1, h2, fun i hi => ?_⟩
  obtain ⟨b, o, ha, hlt, hc⟩ := h3 i hi
  exact ⟨b, o, ha, Nat.lt_of_lt_of_le hlt hb.size, (hb.cell (p := ⟨b, o + i, none⟩) hlt).trans hc⟩
/-- A slice that has just been built out of one, two, three numbers. -/
theorem ints1 {w : World} {a : Int} {t : TypeId} {n : Nat} (hn : n = w.heap.size) : IntsAt (w.alloc (.cells #[.int .i64 a] t)) (.slice (some ⟨n, 0, none⟩) 1 1) [a] := by
  subst hn
  refine ⟨_, _, rfl, Nat.le_refl _, by decide, fun i hi => ⟨_, _, rfl, by simp, ?_⟩⟩
  match i, hi with
  | 0, _ => simp [gi]
theorem ints2 {w : World} {a b : Int} {t : TypeId} {n : Nat} (hn : n = w.heap.size) : IntsAt (w.alloc (.cells #[.int .i64 a, .int .i64 b] t)) (.slice (some ⟨n, 0, none⟩) 2 2) [a, b] := by
  subst hn
  refine ⟨_, _, rfl, Nat.le_refl _, by decide, fun i hi => ⟨_, _, rfl, by simp, ?_⟩⟩
  match i, hi with
  | 0, _ => simp [gi]
  | 1, _ => simp [gi]
theorem ints3 {w : World} {a b c : Int} {t : TypeId} {n : Nat} (hn : n = w.heap.size) : IntsAt (w.alloc (.cells #[.int .i64 a, .int .i64 b, .int .i64 c] t)) (.slice (some ⟨n, 0, none⟩) 3 3) [a, b, c] := by
  subst hn
  refine ⟨_, _, rfl, Nat.le_refl _, by decide, fun i hi => ⟨_, _, rfl, by simp, ?_⟩⟩
  match i, hi with
  | 0, _ => simp [gi]
  | 1, _ => simp [gi]
  | 2, _ => simp [gi]
theorem ints0 (w : World) (a : Option Addr) (cap : Nat) (hc : cap ≤ 9223372036854775807) : IntsAt w (.slice a 0 cap) [] := ⟨a, cap, rfl, by simp, hc, fun i hi => absurd hi (by simp)⟩

theorem PairsAt.below {w w' : World} {v : Value} {l : List (Int × Int)} (h : PairsAt w v l) (hb : Below w.heap.size w w') : PairsAt w' v l := by
  obtain ⟨a, cap, hv, h1, h2, h3⟩ := h
  refine ⟨a, cap, hv, h1, h2, fun i hi => ?_⟩
  obtain ⟨b, o, ha, hlt, hc, hd⟩ := h3 i hi
  exact ⟨b, o, ha, Nat.lt_of_lt_of_le hlt hb.size, (hb.cell (p := ⟨b, o + i * 2, none⟩) hlt).trans hc, (hb.cell (p := ⟨b, o + i * 2 + 1, none⟩) hlt).trans hd⟩
theorem VotesAt.below {w w' : World} {v : Value} {l : List (Int × Bool)} (h : VotesAt w v l) (hb : Below w.heap.size w w') : VotesAt w' v l := by
  obtain ⟨a, cap, hv, h1, h2, h3⟩ := h
  refine ⟨a, cap, hv, h1, h2, fun i hi => ?_⟩
  obtain ⟨b, o, ha, hlt, hc, hd⟩ := h3 i hi
  exact ⟨b, o, ha, Nat.lt_of_lt_of_le hlt hb.size, (hb.cell (p := ⟨b, o + i * 2, none⟩) hlt).trans hc, (hb.cell (p := ⟨b, o + i * 2 + 1, none⟩) hlt).trans hd⟩

/-- .. with another block behind it. -/
theorem ints1b {w : World} {a : Int} {t : TypeId} {n : Nat} {o : Obj} (hn : n = w.heap.size) : IntsAt ((w.alloc (.cells #[.int .i64 a] t)).alloc o) (.slice (some ⟨n, 0, none⟩) 1 1) [a] :=
  (ints1 hn).below ((Below.refl _ _).alloc (Nat.le_refl _) o)
theorem ints2b {w : World} {a b : Int} {t : TypeId} {n : Nat} {o : Obj} (hn : n = w.heap.size) : IntsAt ((w.alloc (.cells #[.int .i64 a, .int .i64 b] t)).alloc o) (.slice (some ⟨n, 0, none⟩) 2 2) [a, b] :=
  (ints2 hn).below ((Below.refl _ _).alloc (Nat.le_refl _) o)

theorem pairs0 (w : World) (a : Option Addr) (cap : Nat) (hc : cap ≤ 9223372036854775807) : PairsAt w (.slice a 0 cap) [] := ⟨a, cap, rfl, by simp, hc, fun i hi => absurd hi (by simp)⟩
theorem pairs1 {w : World} {a b : Int} {t : TypeId} {n : Nat} (hn : n = w.heap.size) : PairsAt (w.alloc (.cells #[.int .i64 a, .int .i64 b] t)) (.slice (some ⟨n, 0, none⟩) 1 1) [(a, b)] := by
  subst hn
  refine ⟨_, _, rfl, Nat.le_refl _, by decide, fun i hi => ⟨_, _, rfl, by simp, ?_⟩⟩
  match i, hi with
  | 0, _ => exact ⟨by simp [gi], by simp [gi]⟩

/-- The call gives v, and leaves what lay there. -/
def Gives (P : Program) (f : FuncId) (args : Array Value) (w : World) (v : Value) : Prop :=
  Calls P f args w fun e w' => e = .returned v ∧ Below w.heap.size w w'

/-- What a later world w1 keeps of w: the form in which a walk goes on. -/
theorem Gives.use {P : Program} {f : FuncId} {args : Array Value} {w : World} {v : Value} {R : Ending → World → Prop} (h : Gives P f args w v)
    (k : ∀ w1, Below w.heap.size w w1 → w.heap.size ≤ w1.heap.size → (∀ b o, b < w.heap.size → w1.cell? ⟨b, o, none⟩ = w.cell? ⟨b, o, none⟩) →
      (∀ b o, b < w.heap.size → w1.frozen? ⟨b, o, none⟩ = w.frozen? ⟨b, o, none⟩) → R (.returned v) w1) : Calls P f args w R :=
  h.mono fun _ w1 ⟨he, hb⟩ => he ▸ k w1 hb hb.size (fun b o h => hb.cell (p := ⟨b, o, none⟩) h) (fun b o h => hb.frozen (p := ⟨b, o, none⟩) h)

theorem Gives.of_same {P : Program} {f : FuncId} {args : Array Value} {w : World} {v : Value} (h : Calls P f args w fun e w' => e = .returned v ∧ w = w') : Gives P f args w v :=
  h.mono fun _ _ ⟨he, hw⟩ => ⟨he, hw ▸ Below.refl _ _⟩

/-- Steps of 'what lay there when a began lies there still'. -/
theorem below_tail {a b c : World} (k : Below b.heap.size b c) (h : Below a.heap.size a b) : Below a.heap.size a c := h.trans (k.mono h.size)
theorem below_new {a w : World} (h : Below a.heap.size a w) (o : Obj) : Below a.heap.size a (w.alloc o) := h.alloc h.size o
theorem below_set {a w : World} {p : Addr} (h : Below a.heap.size a w) (hp : a.heap.size ≤ p.block) (u : Value) : Below a.heap.size a (w.setCell p u) := h.setCell hp u
theorem below_draw {a w : World} (h : Below a.heap.size a w) : Below a.heap.size a w.drew := h.drew

theorem wpQuiet_post {P : Program} {ops : Array Oper} {C : World → Prop} {Q Q' : Act → Prop} (hq : ∀ a, Q a → Q' a) : ∀ (l : List Oper) (a : Act), wpQuiet P ops C Q l a → wpQuiet P ops C Q' l a
  | [], _, h => hq _ h
  | o :: rest, a, h => by
    unfold wpQuiet at h ⊢
    split
    · rename_i hw
      rw [if_pos hw] at h
      exact Oper.quiet_mono (wpQuiet_post hq rest) h
    · rename_i hw
      rw [if_neg hw] at h
      exact wpQuiet_post hq rest _ h
/-- A region that draws its order: read in the order of the text; behind it some world that keeps what lay there. -/
theorem region_q {P : Program} {id : Nat} {Q : Exit → Act → World → Prop} {a : Act} {w : World} {l : List Oper} (hm : P.follows .mixedOrders = true) (hB : Region.lexB .any l.toArray = true)
    (h : wpQuiet P l.toArray (fun w' => ∃ p : Regrown, w' = Go.Sort.grow (redrawn w p.d) p.os) (fun a' => ∀ w', Below w.heap.size w w' → Q .normal a' w') l a) : (Code.region id l.toArray true).wp P Q a w :=
  wp_region_quiet (C := fun w' => ∃ p : Regrown, w' = Go.Sort.grow (redrawn w p.d) p.os) hm hB ⟨⟨w.drawn + 1, #[]⟩, by rw [Go.Sort.grow_empty]; rfl⟩
    (wpQuiet_post (fun a' h' w' hw' => by obtain ⟨p, rfl⟩ := hw'; exact h' _ (below_regrown w p.d p.os)) _ _ (by simpa using h))

theorem ret_int {k : IntKind} {a b : Int} (h : a = b) : Ending.returned (.int k a) = .returned (.int k b) := by rw [h]
theorem ret_bool {a b : Bool} (h : a = b) : Ending.returned (.bool a) = .returned (.bool b) := by rw [h]
end Go.Proofs.Ythiemglckmociaa
