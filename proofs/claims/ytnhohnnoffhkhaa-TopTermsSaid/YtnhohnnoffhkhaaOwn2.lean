/- A call that gives a list and an error; a list grows by one; two equal lists are the same. Conditions: lists lie in memory as said. -/
import Derived.Test.YtnhohnnoffhkhaaOwn
import Derived.Test.YtnhohnnoffhkhaaTermValidR
namespace Go.Proofs.Ytnhohnnoffhkhaa
open Go.RowKit

/-- The call gives a list of numbers and an error. -/
def GivesL (P : Program) (f : FuncId) (args : Array Value) (w : World) (l : List Int) (err : Int) : Prop :=
  Calls P f args w fun e w' => ∃ v, e = .returned (.tuple #[v, .int .i64 err]) ∧ IntsAt w' v l ∧ Below w.heap.size w w'
theorem GivesL.use {P : Program} {f : FuncId} {args : Array Value} {w : World} {l : List Int} {err : Int} {R : Ending → World → Prop} (h : GivesL P f args w l err)
    (k : ∀ a cap w1, Below w.heap.size w w1 → w.heap.size ≤ w1.heap.size → (∀ b o, b < w.heap.size → w1.cell? ⟨b, o, none⟩ = w.cell? ⟨b, o, none⟩) →
      (∀ b o, b < w.heap.size → w1.frozen? ⟨b, o, none⟩ = w.frozen? ⟨b, o, none⟩) → Hid (IntsAt w1 (.slice a l.length cap) l) → R (.returned (.tuple #[.slice a l.length cap, .int .i64 err])) w1) : Calls P f args w R :=
  h.mono fun _ w1 ⟨v, he, hi, hb⟩ => by
    obtain ⟨a, cap, rfl, _⟩ := id hi
    exact he ▸ k a cap w1 hb hb.size (fun b o h => hb.cell (p := ⟨b, o, none⟩) h) (fun b o h => hb.frozen (p := ⟨b, o, none⟩) h) hi

theorem own_below {w w' : World} {base e size n : Nat} {v : Value} {xs : List Value} (h : w.ownsRow base e size v n xs) (hb : Below w.heap.size w w') : w'.ownsRow base e size v n xs := by
  obtain ⟨hl, h | ⟨g, cap, cur, hv, hg, hh, hr⟩⟩ := h
  · exact ⟨hl, .inl h⟩
  · refine ⟨hl, .inr ⟨g, cap, cur, hv, hg, ?_, hr⟩⟩
    rw [hb.block g (Array.getElem?_eq_some_iff.1 hh).1]; exact hh
/-- The one number that is appended lies in a block of its own. -/
theorem app_src (w : World) (x : Int) (t : TypeId) : ∀ j u, (cells1 [x])[j]? = some u → (w.alloc (.cells #[.int .i64 x] t)).cell? ((⟨w.heap.size, 0, none⟩ : Addr).add j) = some u := by
  intro j u hj
  match j, hj with
  | 0, hj => simp [cells1] at hj; subst hj; simp [Addr.add]
theorem own_block_le {w : World} {base e size n : Nat} {v : Value} {xs : List Value} (h : w.ownsRow base e size v n xs) : ∀ k, v.ownBlock = some k → base ≤ k := fun k hk => (h.lt k hk).1
theorem infoInt : (Try.prog.info? 3).map (fun i => (i.zero, i.size, i.bytes)) = some (some (.int .i64 0), 1, 8) := by kernel_rfl
theorem own_more {w : World} {base e : Nat} {v : Value} {l : List Int} {x : Int} {n : Nat} (h : w.ownsRow base e 1 v n (cells1 l ++ cells1 [x])) (hn : n = l.length + 1) : w.ownsRow base e 1 v (l ++ [x]).length (cells1 (l ++ [x])) := by
  rw [cells1_append, List.length_append, List.length_singleton, ← hn]; exact h

set_option maxHeartbeats 400000 in
theorem sameInts_calls (a b : Value) (l : List Int) (w : World) (ha : IntsAt w a l) (hb : IntsAt w b l) :
    Gives Try.prog 24 #[a, b] w (.bool true) := by
  have HA := Lib.hid ha
  have HB := Lib.hid hb
  obtain ⟨aa, ac, rfl, hal, ham, _⟩ := ha
  obtain ⟨ba, bc, rfl, hbl, hbm, _⟩ := hb
  unfold Gives
  have h1 : ((l.length : Int) != (l.length : Int)) = false := by simp
  go_enter Try.func24, Try.ntmps24
  go_wp2
  go_loopw [5] (fun i wr => ∃ k : Nat, k ≤ l.length ∧ i = .int .i64 k ∧ Below w.heap.size w wr) (fun i _ => l.length - (intOf i).toNat)
  case atStart => exact ⟨0, Nat.zero_le _, rfl, Below.refl _ _⟩
  case round =>
    obtain ⟨k, hk, rfl, hb⟩ := hrel
    by_cases hlt : k < l.length
    · have hg : decide ((k : Int) < (l.length : Int)) = true := by simpa using hlt
      obtain ⟨aa', ac', e1, _, _, hcell0⟩ := HA.out.below hb
      simp only [Value.slice.injEq] at e1
      obtain ⟨rfl, _, rfl⟩ := e1
      obtain ⟨ab, ao, rfl, hA, hcella⟩ := hcell0 k hlt
      obtain ⟨ba', bc', e2, _, _, hcell1⟩ := HB.out.below hb
      simp only [Value.slice.injEq] at e2
      obtain ⟨rfl, _, rfl⟩ := e2
      obtain ⟨bb, bo, rfl, hB, hcellb⟩ := hcell1 k hlt
      clear hcell0 hcell1
      have hs : (gi l 0 k != gi l 0 k) = false := by simp
      have q0 := fun d os => cell_regrown hcella d os
      have q1 := fun d os => cell_regrown hcellb d os
      go_wp2
      refine region_q mixed (by kernel_rfl) ?_
      repeat (go_big_quiet_step (fail))
      refine wpQuiet_nil ?_
      intro wq hbq
      clear q0 q1
      go_wp2
      go_roundw
      case rel => exact ⟨k + 1, by omega, by go_num, by (repeat' (first | exact Below.refl _ _ | assumption | refine below_new ?_ _ | refine below_draw ?_ | refine below_tail (by assumption) ?_ | refine below_set ?_ (by first | omega | (simp <;> omega)) _))⟩
      case measure => simp [intOf]; omega
    · have hg : decide ((k : Int) < (l.length : Int)) = false := by simpa using hlt
      go_wp2
      go_ret
      exact ⟨rfl, hb⟩
end Go.Proofs.Ytnhohnnoffhkhaa
