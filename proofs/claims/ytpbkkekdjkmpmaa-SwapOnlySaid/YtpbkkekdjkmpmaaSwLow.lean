/- Rows of rows in memory; what slices.Index, Contains, IndexFunc and ContainsFunc give. Conditions: the slice lies in memory as said. -/
import Derived.Test.YtpbkkekdjkmpmaaProg
import Derived.Test.YtpbkkekdjkmpmaaKit
import Derived.WalkSpells
import Derived.WalkLawsBesides
import Derived.BigGuardPart
import Derived.BigQuiet
import Derived.Deep.QuietTactic
import Derived.WalkSmall
import Derived.Laws.Rows
namespace Go.Proofs.Ytpbkkekdjkmpmaa
open Go.RowKit

theorem mixed : Try.prog.follows .mixedOrders = true := by kernel_rfl
/-- v is a slice whose elements are slices of numbers. -/
def TableAt (w : World) (v : Value) (L : List (List Int)) : Prop :=
  ∃ (a : Option Addr) (cap : Nat), v = .slice a L.length cap ∧ L.length ≤ cap ∧ cap ≤ 9223372036854775807 ∧
    ∀ i, i < L.length → ∃ b o u, a = some ⟨b, o, none⟩ ∧ b < w.heap.size ∧ w.cell? ⟨b, o + i, none⟩ = some u ∧ IntsAt w u (gi L [] i)
theorem TableAt.below {w w' : World} {v : Value} {L : List (List Int)} (h : TableAt w v L) (hb : Below w.heap.size w w') : TableAt w' v L := by
  obtain ⟨a, cap, hv, h1, h2, h3⟩ := h
  refine ⟨a, cap, hv, h1, h2, fun i hi => ?_⟩
  obtain ⟨b, o, u, ha, hlt, hc, hu⟩ := h3 i hi
  exact ⟨b, o, u, ha, Nat.lt_of_lt_of_le hlt hb.size, (hb.cell (p := ⟨b, o + i, none⟩) hlt).trans hc, hu.below hb⟩
theorem TableAt.row {w : World} {a : Option Addr} {n cap : Nat} {L : List (List Int)} (h : TableAt w (.slice a n cap) L) {m : Nat} (hm : m < L.length) :
    ∃ b o u, a = some ⟨b, o, none⟩ ∧ b < w.heap.size ∧ w.cell? ⟨b, o + m, none⟩ = some u ∧ IntsAt w u (gi L [] m) := by
  obtain ⟨a', cap', hv, _, _, h3⟩ := h
  cases hv
  exact h3 m hm
theorem IntsAt.cellAt {w : World} {a : Option Addr} {n cap : Nat} {l : List Int} (h : IntsAt w (.slice a n cap) l) {m : Nat} (hm : m < l.length) :
    ∃ b o, a = some ⟨b, o, none⟩ ∧ b < w.heap.size ∧ w.cell? ⟨b, o + m, none⟩ = some (.int .i64 (gi l 0 m)) := by
  obtain ⟨a', cap', hv, _, _, h3⟩ := h
  cases hv
  exact h3 m hm

/-- v is a slice of bools. -/
def BoolsAt (w : World) (v : Value) (l : List Bool) : Prop :=
  ∃ (a : Option Addr) (cap : Nat), v = .slice a l.length cap ∧ l.length ≤ cap ∧ cap ≤ 9223372036854775807 ∧
    ∀ i, i < l.length → ∃ b o, a = some ⟨b, o, none⟩ ∧ b < w.heap.size ∧ w.cell? ⟨b, o + i, none⟩ = some (.bool (gi l false i))
theorem BoolsAt.cellAt {w : World} {a : Option Addr} {n cap : Nat} {l : List Bool} (h : BoolsAt w (.slice a n cap) l) {m : Nat} (hm : m < l.length) :
    ∃ b o, a = some ⟨b, o, none⟩ ∧ b < w.heap.size ∧ w.cell? ⟨b, o + m, none⟩ = some (.bool (gi l false m)) := by
  obtain ⟨a', cap', hv, _, _, h3⟩ := h
  cases hv
  exact h3 m hm

/-- The call gives v, and the world stays. -/
def Same (P : Program) (f : FuncId) (args : Array Value) (w : World) (v : Value) : Prop := Calls P f args w fun e w' => e = .returned v ∧ w = w'
theorem Same.gives {P : Program} {f : FuncId} {args : Array Value} {w : World} {v : Value} (h : Same P f args w v) : Gives P f args w v := Gives.of_same h
theorem Same.use {P : Program} {f : FuncId} {args : Array Value} {w : World} {v : Value} {R : Ending → World → Prop} (h : Same P f args w v) (k : R (.returned v) w) : Calls P f args w R :=
  h.mono fun _ _ ⟨he, hw⟩ => he ▸ hw ▸ k

theorem Same.regrown {P : Program} {f : FuncId} {args : Array Value} {w : World} {d : Nat} {os : Array Obj} {v : Value} (h : Same P f args (Go.Sort.grow (redrawn w d) os) v) :
    Calls P f args (Go.Sort.grow (redrawn w d) os) fun e w'' => e = .returned v ∧ ∃ p : Regrown, w'' = Go.Sort.grow (redrawn w p.d) p.os := Calls.regrown_of h.gives
theorem Gives.regrown {P : Program} {f : FuncId} {args : Array Value} {w : World} {d : Nat} {os : Array Obj} {v : Value} (h : Gives P f args (Go.Sort.grow (redrawn w d) os) v) :
    Calls P f args (Go.Sort.grow (redrawn w d) os) fun e w'' => e = .returned v ∧ ∃ p : Regrown, w'' = Go.Sort.grow (redrawn w p.d) p.os := Calls.regrown_of h
/-- The place of the first element for which p holds, where the first has the place k; else -1. -/
def idxGo {α : Type} (p : α → Bool) : List α → Nat → Int
  | [], _ => -1
  | a :: t, k => if p a then k else idxGo p t (k + 1)
/-- The place of the first element from k on for which p holds, else -1. -/
def idxFrom {α : Type} (l : List α) (p : α → Bool) (_ : α) (k : Nat) : Int := idxGo p (l.drop k) k
theorem drop_gi {α : Type} {l : List α} {d : α} {k : Nat} (h : k < l.length) : l.drop k = gi l d k :: l.drop (k + 1) := by rw [List.drop_eq_getElem_cons h]; simp [gi, h]
theorem idxFrom_yes {α : Type} {l : List α} {p : α → Bool} {d : α} {k : Nat} (h : k < l.length) (hp : p (gi l d k) = true) : idxFrom l p d k = k := by
  unfold idxFrom; rw [drop_gi (d := d) h]; unfold idxGo; rw [if_pos hp]
theorem idxFrom_no {α : Type} {l : List α} {p : α → Bool} {d : α} {k : Nat} (h : k < l.length) (hp : p (gi l d k) = false) : idxFrom l p d k = idxFrom l p d (k + 1) := by
  unfold idxFrom; rw [drop_gi (d := d) h]; conv => lhs; unfold idxGo
  rw [if_neg (by simp [hp])]
theorem idxFrom_end {α : Type} {l : List α} {p : α → Bool} {d : α} {k : Nat} (h : ¬ k < l.length) : idxFrom l p d k = -1 := by
  unfold idxFrom; rw [List.drop_eq_nil_of_le (by omega)]; rfl
theorem idxFrom_nonneg {α : Type} (l : List α) (p : α → Bool) (d : α) (k : Nat) : (decide (0 ≤ idxFrom l p d k)) = (l.drop k).any p := by
  generalize hn : l.length - k = n
  induction n generalizing k with
  | zero =>
    have : ¬ k < l.length := by omega
    rw [idxFrom_end this, List.drop_eq_nil_of_le (by omega)]; rfl
  | succ n ih =>
    have h : k < l.length := by omega
    have e : l.drop k = gi l d k :: l.drop (k + 1) := by rw [List.drop_eq_getElem_cons h]; simp [gi, h]
    by_cases hp : p (gi l d k) = true
    · rw [idxFrom_yes h hp, e, List.any_cons, hp]; simp
    · rw [idxFrom_no h (by simpa using hp), ih (k + 1) (by omega), e, List.any_cons]; simp [hp]
/-- Where the number x lies in l. -/
def ixF (l : List Int) (x : Int) (k : Nat) : Int := idxFrom l (fun y => x == y) 0 k
theorem ixF_has (l : List Int) (x : Int) : (decide (0 ≤ ixF l x 0)) = hasB l x := by
  unfold hasB ixF
  rw [idxFrom_nonneg, List.drop_zero, List.contains_eq_any_beq]
theorem ixF_yes {l : List Int} {x : Int} {k : Nat} (h : k < l.length) (hp : (x == gi l 0 k) = true) : ixF l x k = k := idxFrom_yes h hp
theorem ixF_no {l : List Int} {x : Int} {k : Nat} (h : k < l.length) (hp : (x == gi l 0 k) = false) : ixF l x k = ixF l x (k + 1) := idxFrom_no h hp
theorem ixF_end {l : List Int} {x : Int} {k : Nat} (h : ¬ k < l.length) : ixF l x k = -1 := idxFrom_end h
/-- Where the bool x lies in l. -/
def ixB (l : List Bool) (x : Bool) (k : Nat) : Int := idxFrom l (fun y => x == y) false k
theorem ixB_has (l : List Bool) (x : Bool) : (decide (0 ≤ ixB l x 0)) = l.contains x := by
  unfold ixB
  rw [idxFrom_nonneg, List.drop_zero, List.contains_eq_any_beq]
theorem ixB_yes {l : List Bool} {x : Bool} {k : Nat} (h : k < l.length) (hp : (x == gi l false k) = true) : ixB l x k = k := idxFrom_yes h hp
theorem ixB_no {l : List Bool} {x : Bool} {k : Nat} (h : k < l.length) (hp : (x == gi l false k) = false) : ixB l x k = ixB l x (k + 1) := idxFrom_no h hp
theorem ixB_end {l : List Bool} {x : Bool} {k : Nat} (h : ¬ k < l.length) : ixB l x k = -1 := idxFrom_end h

set_option maxHeartbeats 400000 in
theorem index_ints (v : Value) (l : List Int) (x : Int) (w : World) (h : IntsAt w v l) :
    Same Try.prog 50 #[v, .int .i64 x] w (.int .i64 (ixF l x 0)) := by
  obtain ⟨a, cap, rfl, hlc, hcm, hc⟩ := h
  have HC := Lib.hid hc
  clear hc
  unfold Same
  go_enter Try.func50, Try.ntmps50
  go_wp2
  go_loop [8] (fun i => ∃ k : Nat, k ≤ l.length ∧ i = .int .i64 k ∧ Hid (ixF l x 0 = ixF l x k)) (fun i => l.length - (intOf i).toNat)
  case atStart => exact ⟨0, Nat.zero_le _, rfl, rfl⟩
  case round =>
    obtain ⟨k, hk, rfl, hr⟩ := hrel
    by_cases hlt : k < l.length
    · obtain ⟨b, o, rfl, hB, hcell⟩ := HC.out k hlt
      cases hx : (x == gi l 0 k)
      · have H1 := Lib.hid (ixF_no hlt hx)
        go_wp2
        go_round
        case rel => exact ⟨k + 1, by omega, by go_num, by unfold Hid; rw [hr.out, H1.out]⟩
        case measure => simp [intOf]; omega
      · have H1 := Lib.hid (ixF_yes hlt hx)
        go_wp2
        go_ret
        exact ⟨ret_int (by rw [hr.out, H1.out]), rfl⟩
    · have H1 := Lib.hid (ixF_end (x := x) hlt)
      go_wp2
      go_ret
      exact ⟨ret_int (by rw [hr.out, H1.out]), rfl⟩

set_option maxHeartbeats 400000 in
theorem index_bools (v : Value) (l : List Bool) (x : Bool) (w : World) (h : BoolsAt w v l) :
    Same Try.prog 67 #[v, .bool x] w (.int .i64 (ixB l x 0)) := by
  obtain ⟨a, cap, rfl, hlc, hcm, hc⟩ := h
  have HC := Lib.hid hc
  clear hc
  unfold Same
  go_enter Try.func67, Try.ntmps67
  go_wp2
  go_loop [8] (fun i => ∃ k : Nat, k ≤ l.length ∧ i = .int .i64 k ∧ Hid (ixB l x 0 = ixB l x k)) (fun i => l.length - (intOf i).toNat)
  case atStart => exact ⟨0, Nat.zero_le _, rfl, rfl⟩
  case round =>
    obtain ⟨k, hk, rfl, hr⟩ := hrel
    by_cases hlt : k < l.length
    · obtain ⟨b, o, rfl, hB, hcell⟩ := HC.out k hlt
      cases hx : (x == gi l false k)
      · have H1 := Lib.hid (ixB_no hlt hx)
        go_wp2
        go_round
        case rel => exact ⟨k + 1, by omega, by go_num, by unfold Hid; rw [hr.out, H1.out]⟩
        case measure => simp [intOf]; omega
      · have H1 := Lib.hid (ixB_yes hlt hx)
        go_wp2
        go_ret
        exact ⟨ret_int (by rw [hr.out, H1.out]), rfl⟩
    · have H1 := Lib.hid (ixB_end (x := x) hlt)
      go_wp2
      go_ret
      exact ⟨ret_int (by rw [hr.out, H1.out]), rfl⟩

set_option maxHeartbeats 400000 in
theorem contains_ints (v : Value) (l : List Int) (x : Int) (w : World) (h : IntsAt w v l) :
    Same Try.prog 52 #[v, .int .i64 x] w (.bool (hasB l x)) := by
  have H := Lib.hid (ixF_has l x)
  unfold Same
  go_enter Try.func52, Try.ntmps52
  go_wp2_with (go_at_call 50; refine (index_ints _ l _ _ h).use ?_)
  go_ret
  exact ⟨ret_bool (by rw [← H.out]), rfl⟩

set_option maxHeartbeats 400000 in
theorem contains_bools (v : Value) (l : List Bool) (x : Bool) (w : World) (h : BoolsAt w v l) :
    Same Try.prog 55 #[v, .bool x] w (.bool (l.contains x)) := by
  have H := Lib.hid (ixB_has l x)
  unfold Same
  go_enter Try.func55, Try.ntmps55
  go_wp2_with (go_at_call 67; refine (index_bools _ l _ _ h).use ?_)
  go_ret
  exact ⟨ret_bool (by rw [← H.out]), rfl⟩

set_option maxHeartbeats 400000 in
theorem indexFunc_ints (v : Value) (l : List Int) (g : Nat) (cap : Array Value) (p : Int → Bool) (w : World) (h : IntsAt w v l)
    (eg : ∀ args w, (callFunc g args).run Try.prog w = .ok (.enter g args) w)
    (hp : ∀ i, i < l.length → Same Try.prog g (#[.int .i64 (gi l 0 i)] ++ cap) w (.bool (p (gi l 0 i)))) :
    Same Try.prog 56 #[v, .func (.func g) #[] cap] w (.int .i64 (idxFrom l p 0 0)) := by
  obtain ⟨a, cp, rfl, hlc, hcm, hc⟩ := h
  have HC := Lib.hid hc
  have HP := Lib.hid hp
  clear hc hp
  unfold Same
  go_enter Try.func56, Try.ntmps56
  go_wp2
  go_loop [8] (fun i => ∃ k : Nat, k ≤ l.length ∧ i = .int .i64 k ∧ Hid (idxFrom l p 0 0 = idxFrom l p 0 k)) (fun i => l.length - (intOf i).toNat)
  case atStart => exact ⟨0, Nat.zero_le _, rfl, rfl⟩
  case round =>
    obtain ⟨k, hk, rfl, hr⟩ := hrel
    by_cases hlt : k < l.length
    · obtain ⟨b, o, rfl, hB, hcell⟩ := HC.out k hlt
      have HW := Lib.hid (HP.out k hlt)
      cases hx : p (gi l 0 k)
      · have H1 := Lib.hid (idxFrom_no (d := (0 : Int)) (p := p) hlt hx)
        rw [hx] at HW
        go_wp2_with (refine HW.out.use ?_)
        go_round
        case rel => exact ⟨k + 1, by omega, by go_num, by unfold Hid; rw [hr.out, H1.out]⟩
        case measure => simp [intOf]; omega
      · have H1 := Lib.hid (idxFrom_yes (d := (0 : Int)) (p := p) hlt hx)
        rw [hx] at HW
        go_wp2_with (refine HW.out.use ?_)
        go_ret
        exact ⟨ret_int (by rw [hr.out, H1.out]), rfl⟩
    · have H1 := Lib.hid (idxFrom_end (d := (0 : Int)) (p := p) hlt)
      go_wp2
      go_ret
      exact ⟨ret_int (by rw [hr.out, H1.out]), rfl⟩

set_option maxHeartbeats 400000 in
theorem indexFunc_rows (v : Value) (L : List (List Int)) (g : Nat) (cap : Array Value) (p : List Int → Bool) (w : World) (h : TableAt w v L)
    (eg : ∀ args w, (callFunc g args).run Try.prog w = .ok (.enter g args) w)
    (hp : ∀ i u, i < L.length → IntsAt w u (gi L [] i) → Same Try.prog g (#[u] ++ cap) w (.bool (p (gi L [] i)))) :
    Same Try.prog 51 #[v, .func (.func g) #[] cap] w (.int .i64 (idxFrom L p [] 0)) := by
  obtain ⟨a, cp, rfl, hlc, hcm, hc⟩ := h
  have HC := Lib.hid hc
  have HP := Lib.hid hp
  clear hc hp
  unfold Same
  go_enter Try.func51, Try.ntmps51
  go_wp2
  go_loop [8] (fun i => ∃ k : Nat, k ≤ L.length ∧ i = .int .i64 k ∧ Hid (idxFrom L p [] 0 = idxFrom L p [] k)) (fun i => L.length - (intOf i).toNat)
  case atStart => exact ⟨0, Nat.zero_le _, rfl, rfl⟩
  case round =>
    obtain ⟨k, hk, rfl, hr⟩ := hrel
    by_cases hlt : k < L.length
    · obtain ⟨b, o, u, rfl, hB, hcell, hu⟩ := HC.out k hlt
      obtain ⟨ua, uc, rfl, -⟩ := id hu
      have HW := Lib.hid (HP.out k _ hlt hu)
      clear hu
      cases hx : p (gi L [] k)
      · have H1 := Lib.hid (idxFrom_no (d := ([] : List Int)) (p := p) hlt hx)
        rw [hx] at HW
        go_wp2_with (refine HW.out.use ?_)
        go_round
        case rel => exact ⟨k + 1, by omega, by go_num, by unfold Hid; rw [hr.out, H1.out]⟩
        case measure => simp [intOf]; omega
      · have H1 := Lib.hid (idxFrom_yes (d := ([] : List Int)) (p := p) hlt hx)
        rw [hx] at HW
        go_wp2_with (refine HW.out.use ?_)
        go_ret
        exact ⟨ret_int (by rw [hr.out, H1.out]), rfl⟩
    · have H1 := Lib.hid (idxFrom_end (d := ([] : List Int)) (p := p) hlt)
      go_wp2
      go_ret
      exact ⟨ret_int (by rw [hr.out, H1.out]), rfl⟩

set_option maxHeartbeats 400000 in
theorem containsFunc_rows (v : Value) (L : List (List Int)) (g : Nat) (cap : Array Value) (p : List Int → Bool) (w : World) (h : TableAt w v L)
    (eg : ∀ args w, (callFunc g args).run Try.prog w = .ok (.enter g args) w)
    (hp : ∀ i u, i < L.length → IntsAt w u (gi L [] i) → Same Try.prog g (#[u] ++ cap) w (.bool (p (gi L [] i)))) :
    Same Try.prog 32 #[v, .func (.func g) #[] cap] w (.bool (L.any p)) := by
  have H := Lib.hid (idxFrom_nonneg L p [] 0)
  have HP := Lib.hid (indexFunc_rows v L g cap p w h eg hp)
  clear hp
  unfold Same
  go_enter Try.func32, Try.ntmps32
  go_wp2_with (refine HP.out.use ?_)
  go_ret
  exact ⟨ret_bool (by rw [H.out, List.drop_zero]), rfl⟩
end Go.Proofs.Ytpbkkekdjkmpmaa
