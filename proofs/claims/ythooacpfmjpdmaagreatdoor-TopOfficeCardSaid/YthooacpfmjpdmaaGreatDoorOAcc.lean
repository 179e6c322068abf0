/- What an office tells. Conditions: the office lies in memory as said. -/
import Derived.Test.YthooacpfmjpdmaaGreatDoorONew
namespace Go.Proofs.YthooacpfmjpdmaaGreatDoor
open Go.RowKit Go.MuLone

/-- The call gives numbers in new memory. -/
def GivesI (f : FuncId) (args : Array Value) (w : World) (l : List Int) : Prop := Calls Tryz.prog f args w fun e w' => ∃ v, e = .returned v ∧ IntsT w.heap.size w' v l ∧ Below w.heap.size w w'
set_option maxRecDepth 100000 in
set_option maxHeartbeats 4000000 in
theorem Day_calls (m : Nat) (w : World) (B n : Nat) (x : Off) (ov : Value) (h : OffIn m w B n x ov) : Gives Tryz.prog 42 #[.pointer (some ⟨B, 0, none⟩)] w (.int .i64 x.s.day) := by
  have HL := Lib.hid (look_calls m w B n x ov h)
  clear h
  unfold LookR stW at HL
  unfold Gives
  go_enter Tryz.func42, Tryz.ntmps42
  go_wp2_with (go_at_call 58; refine HL.out.mono ?_; rintro e1 w1 ⟨h1, d1, h2, d2, h3, d3, rfl, hs1, hb1⟩; have HS1 := Lib.hid hs1; clear hs1; have hz1 : w.heap.size ≤ w1.heap.size := hb1.size)
  go_ret
  exact ⟨rfl, by (repeat' (first | exact Below.refl _ _ | assumption | refine below_new ?_ _ | refine below_draw ?_ | refine below_tail (by assumption) ?_ | refine below_set ?_ (by first | omega | (simp <;> omega)) _))⟩
set_option maxRecDepth 100000 in
set_option maxHeartbeats 4000000 in
theorem Entered_calls (m : Nat) (w : World) (B n : Nat) (x : Off) (ov : Value) (h : OffIn m w B n x ov) : Gives Tryz.prog 36 #[.pointer (some ⟨B, 0, none⟩)] w (.bool x.s.ent) := by
  have HL := Lib.hid (look_calls m w B n x ov h)
  clear h
  unfold LookR stW at HL
  unfold Gives
  go_enter Tryz.func36, Tryz.ntmps36
  go_wp2_with (go_at_call 58; refine HL.out.mono ?_; rintro e1 w1 ⟨h1, d1, h2, d2, h3, d3, rfl, hs1, hb1⟩; have HS1 := Lib.hid hs1; clear hs1; have hz1 : w.heap.size ≤ w1.heap.size := hb1.size)
  go_ret
  exact ⟨rfl, by (repeat' (first | exact Below.refl _ _ | assumption | refine below_new ?_ _ | refine below_draw ?_ | refine below_tail (by assumption) ?_ | refine below_set ?_ (by first | omega | (simp <;> omega)) _))⟩
set_option maxRecDepth 100000 in
set_option maxHeartbeats 4000000 in
theorem Part_calls (m : Nat) (w : World) (B n : Nat) (x : Off) (ov : Value) (h : OffIn m w B n x ov) : Gives Tryz.prog 32 #[.pointer (some ⟨B, 0, none⟩)] w (.tuple #[.int .i64 x.s.part, .bool x.s.fixed]) := by
  have HL := Lib.hid (look_calls m w B n x ov h)
  clear h
  unfold LookR stW at HL
  unfold Gives
  have hmx := mixed
  go_enter Tryz.func32, Tryz.ntmps32
  go_upto_region 2 with (go_at_call 58; refine HL.out.mono ?_; rintro e1 w1 ⟨h1, d1, h2, d2, h3, d3, rfl, hs1, hb1⟩; have HS1 := Lib.hid hs1; clear hs1; have hz1 : w.heap.size ≤ w1.heap.size := hb1.size)
  go_big_region_o
  go_wp2
  go_ret2
  exact ⟨rfl, by (repeat' (first | exact Below.refl _ _ | assumption | refine below_new ?_ _ | refine below_draw ?_ | refine below_tail (by assumption) ?_ | refine below_set ?_ (by first | omega | (simp <;> omega)) _))⟩
set_option maxRecDepth 100000 in
set_option maxHeartbeats 4000000 in
theorem End_calls (m : Nat) (w : World) (B n : Nat) (x : Off) (ov : Value) (h : OffIn m w B n x ov) : Gives Tryz.prog 33 #[.pointer (some ⟨B, 0, none⟩)] w (.tuple #[.int .i64 x.s.stop, .bool x.s.heard]) := by
  have HL := Lib.hid (look_calls m w B n x ov h)
  clear h
  unfold LookR stW at HL
  unfold Gives
  have hmx := mixed
  go_enter Tryz.func33, Tryz.ntmps33
  go_upto_region 2 with (go_at_call 58; refine HL.out.mono ?_; rintro e1 w1 ⟨h1, d1, h2, d2, h3, d3, rfl, hs1, hb1⟩; have HS1 := Lib.hid hs1; clear hs1; have hz1 : w.heap.size ≤ w1.heap.size := hb1.size)
  go_big_region_o
  go_wp2
  go_ret2
  exact ⟨rfl, by (repeat' (first | exact Below.refl _ _ | assumption | refine below_new ?_ _ | refine below_draw ?_ | refine below_tail (by assumption) ?_ | refine below_set ?_ (by first | omega | (simp <;> omega)) _))⟩
set_option maxRecDepth 100000 in
set_option maxHeartbeats 4000000 in
theorem Strips_calls (m : Nat) (w : World) (B n : Nat) (x : Off) (ov : Value) (h : OffIn m w B n x ov) : GivesI 44 #[.pointer (some ⟨B, 0, none⟩)] w x.s.strips := by
  have HL := Lib.hid (look_calls m w B n x ov h)
  clear h
  unfold LookR stW at HL
  unfold GivesI
  go_enter Tryz.func44, Tryz.ntmps44
  go_wp2_with (go_at_call 58; refine HL.out.mono ?_; rintro e1 w1 ⟨h1, d1, h2, d2, h3, d3, rfl, hs1, hb1⟩; have HS1 := Lib.hid hs1; clear hs1; have hz1 : w.heap.size ≤ w1.heap.size := hb1.size)
  go_ret
  refine ⟨_, rfl, ?_, by (repeat' (first | exact Below.refl _ _ | assumption | refine below_new ?_ _ | refine below_draw ?_ | refine below_tail (by assumption) ?_ | refine below_set ?_ (by first | omega | (simp <;> omega)) _))⟩
  have h0 := (HS1.out.r1.below (w' := _) (Below.refl _ _)).intsT (m := w.heap.size) HS1.out.m1
  rw [HS1.out.l1] at h0
  exact h0.keep (KeepT.of_below (by (repeat' (first | exact Below.refl _ _ | assumption | refine below_new ?_ _ | refine below_draw ?_ | refine below_tail (by assumption) ?_ | refine below_set ?_ (by first | omega | (simp <;> omega)) _))))
set_option maxRecDepth 100000 in
set_option maxHeartbeats 4000000 in
theorem Laid_calls (m : Nat) (w : World) (B n : Nat) (x : Off) (ov : Value) (h : OffIn m w B n x ov) : GivesI 31 #[.pointer (some ⟨B, 0, none⟩)] w x.s.laid := by
  have HL := Lib.hid (look_calls m w B n x ov h)
  clear h
  unfold LookR stW at HL
  unfold GivesI
  go_enter Tryz.func31, Tryz.ntmps31
  go_wp2_with (go_at_call 58; refine HL.out.mono ?_; rintro e1 w1 ⟨h1, d1, h2, d2, h3, d3, rfl, hs1, hb1⟩; have HS1 := Lib.hid hs1; clear hs1; have hz1 : w.heap.size ≤ w1.heap.size := hb1.size)
  go_ret
  refine ⟨_, rfl, ?_, by (repeat' (first | exact Below.refl _ _ | assumption | refine below_new ?_ _ | refine below_draw ?_ | refine below_tail (by assumption) ?_ | refine below_set ?_ (by first | omega | (simp <;> omega)) _))⟩
  have h0 := (HS1.out.r2.below (w' := _) (Below.refl _ _)).intsT (m := w.heap.size) HS1.out.m2
  rw [HS1.out.l2] at h0
  exact h0.keep (KeepT.of_below (by (repeat' (first | exact Below.refl _ _ | assumption | refine below_new ?_ _ | refine below_draw ?_ | refine below_tail (by assumption) ?_ | refine below_set ?_ (by first | omega | (simp <;> omega)) _))))
set_option maxRecDepth 100000 in
set_option maxHeartbeats 4000000 in
theorem Claims_calls (m : Nat) (w : World) (B n : Nat) (x : Off) (ov : Value) (h : OffIn m w B n x ov) (hg : Good x.s) : GivesI 30 #[.pointer (some ⟨B, 0, none⟩)] w (clmF x.s) := by
  have HL := Lib.hid (look_calls m w B n x ov h)
  clear h
  unfold LookR stW at HL
  have HG := Lib.hid hg
  clear hg
  unfold GivesI
  go_enter Tryz.func30, Tryz.ntmps30
  go_wp2_with (first
    | (go_at_call 58; refine HL.out.mono ?_; rintro e1 w1 ⟨h1, d1, h2, d2, h3, d3, rfl, hs1, hb1⟩; have HS1 := Lib.hid hs1; clear hs1; have hz1 : w.heap.size ≤ w1.heap.size := hb1.size)
    | (go_at_call 66; refine (claims_calls w.heap.size _ n x.s h1 d1 h2 d2 h3 d3 (HS1.out.below (by (repeat' (first | exact Below.refl _ _ | assumption | refine below_new ?_ _ | refine below_draw ?_ | refine below_tail (by assumption) ?_ | refine below_set ?_ (by first | omega | (simp <;> omega)) _)))) HG.out).mono ?_; rintro e2 w2 ⟨v2, rfl, hi2, hb2⟩; have HI2 := Lib.hid hi2; obtain ⟨⟨va, vc, rfl, -⟩, -⟩ := hi2))
  go_ret
  refine ⟨_, rfl, ?_, by (repeat' (first | exact Below.refl _ _ | assumption | refine below_new ?_ _ | refine below_draw ?_ | refine below_tail (by assumption) ?_ | refine below_set ?_ (by first | omega | (simp <;> omega)) _))⟩
  exact HI2.out.mono (by simp; omega)
set_option maxRecDepth 100000 in
set_option maxHeartbeats 4000000 in
theorem Open_calls (m : Nat) (w : World) (B n : Nat) (x : Off) (ov : Value) (h : OffIn m w B n x ov) : GivesI 35 #[.pointer (some ⟨B, 0, none⟩)] w (opnF x.s.opn) := by
  have HL := Lib.hid (look_calls m w B n x ov h)
  clear h
  unfold LookR stW at HL
  unfold GivesI
  go_enter Tryz.func35, Tryz.ntmps35
  go_wp2_with (first
    | (go_at_call 58; refine HL.out.mono ?_; rintro e1 w1 ⟨h1, d1, h2, d2, h3, d3, rfl, hs1, hb1⟩; have HS1 := Lib.hid hs1; clear hs1; have hz1 : w.heap.size ≤ w1.heap.size := hb1.size)
    | (go_at_call 67; refine (opened_calls w.heap.size _ n x.s h1 d1 h2 d2 h3 d3 (HS1.out.below (by (repeat' (first | exact Below.refl _ _ | assumption | refine below_new ?_ _ | refine below_draw ?_ | refine below_tail (by assumption) ?_ | refine below_set ?_ (by first | omega | (simp <;> omega)) _))))).mono ?_; rintro e2 w2 ⟨v2, rfl, hi2, hb2⟩; have HI2 := Lib.hid hi2; obtain ⟨⟨va, vc, rfl, -⟩, -⟩ := hi2))
  go_ret
  refine ⟨_, rfl, ?_, by (repeat' (first | exact Below.refl _ _ | assumption | refine below_new ?_ _ | refine below_draw ?_ | refine below_tail (by assumption) ?_ | refine below_set ?_ (by first | omega | (simp <;> omega)) _))⟩
  exact HI2.out.mono (by simp; omega)
end Go.Proofs.YthooacpfmjpdmaaGreatDoor
