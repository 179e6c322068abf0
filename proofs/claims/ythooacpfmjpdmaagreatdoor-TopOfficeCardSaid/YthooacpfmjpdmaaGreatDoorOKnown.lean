/- One order at an office; the laws' small office. Conditions: the library's variables read as they were laid. -/
import Derived.Test.YthooacpfmjpdmaaGreatDoorOPay
namespace Go.Proofs.YthooacpfmjpdmaaGreatDoor
open Go.RowKit Go.MuLone

/-- What every world holds in which an office works. -/
structure Base (w : World) : Prop where
  env : Env w
  nine : 9 ≤ w.heap.size
theorem Base.below {w w' : World} (h : Base w) (hb : Below w.heap.size w w') : Base w' := ⟨h.env.below hb, Nat.le_trans h.nine hb.size⟩
theorem Base.low {m : Nat} {w w' : World} (h : Base w) (hm : 9 ≤ m) (hb : Below m w w') : Base w' := ⟨h.env.low (hb.mono hm), Nat.le_trans h.nine hb.size⟩
/-- An office at block B. -/
def OffS (m : Nat) (w : World) (B n : Nat) (x : Off) : Prop := (∃ ov, OffIn m w B n x ov) ∧ Made n x
theorem OffS.below {m : Nat} {w w' : World} {B n : Nat} {x : Off} (h : OffS m w B n x) (hb : Below w.heap.size w w') : OffS m w' B n x := by
  obtain ⟨⟨ov, h⟩, hm⟩ := h
  exact ⟨⟨ov, h.below hb⟩, hm⟩
theorem OffS.lt {m : Nat} {w : World} {B n : Nat} {x : Off} (h : OffS m w B n x) : m ≤ B ∧ B < w.heap.size := by
  obtain ⟨⟨ov, h⟩, hm⟩ := h
  exact ⟨h.facts.1, h.facts.2.1⟩
def StepR (m : Nat) (w : World) (B n : Nat) (x : Off) (o : ByteArray) (e : Ending) (w' : World) : Prop := e = .returned (.int .i64 (stepE x o)) ∧ OffS m w' B n (stepO x o) ∧ Below m w w' ∧ KeepT 0 3 w w' ∧ KeepT 0 66 w w'
theorem only_keep {m B n : Nat} {w w' : World} {x : Off} {ov : Value} {t : TypeId} (h : OffIn m w B n x ov) (ho : Only B ov w w') (h1 : t ≠ 99) (h2 : t ≠ 9) : KeepT 0 t w w' := by
  obtain ⟨fv, sv, g1, c1, g2, c2, g3, c3, h⟩ := h
  refine ⟨ho.size, fun b cs fr _ hb => ?_⟩
  refine (ho.block b (Array.getElem?_eq_some_iff.1 hb).1 (ty_ne hb h.box h1) (fun e => ?_)).trans hb
  obtain ⟨ds, hd⟩ := own_ty h.od e
  exact ty_ne hb hd h2 rfl
theorem Do_step {m : Nat} {w : World} {B n : Nat} {x : Off} (o : ByteArray) (h : OffS m w B n x) (hm : 9 ≤ m) (he : Base w) :
    Calls Tryz.prog 21 #[.pointer (some ⟨B, 0, none⟩), .string o] w (StepR m w B n x o) := by
  obtain ⟨⟨ov, h⟩, hmk⟩ := h
  refine (Do_calls m w B n x ov o h hmk hm he.env).mono fun e w' hd => ?_
  obtain ⟨he1, hon, ov', ho', _⟩ := id hd
  exact ⟨he1, ⟨⟨ov', ho'⟩, hmk.step o⟩, DoO.below h hd, only_keep h hon (by decide) (by decide), only_keep h hon (by decide) (by decide)⟩
theorem New_step (k : Int) (v : Value) (c : Cal) (w : World) (h : CalAt w v c) (hz : NewE k c = 0) :
    Calls Tryz.prog 19 #[.int .i64 k, v] w fun e w' => ∃ B, e = .returned (.tuple #[.pointer (some ⟨B, 0, none⟩), .int .i64 0]) ∧ OffS w.heap.size w' B k.toNat (newO k.toNat c) ∧ Below w.heap.size w w' := by
  refine (New_calls k v c w h).mono fun e w' hn => ?_
  obtain ⟨hb, _, hy⟩ := hn
  obtain ⟨B, he, ho⟩ := hy hz
  have hr : ¬ (k < 1 ∨ 8 < k) := by intro hh; unfold NewE at hz; rw [if_pos hh] at hz; cases hz
  have hv : validF c = 0 := by unfold NewE at hz; rwa [if_neg hr] at hz
  exact ⟨B, he, ⟨⟨_, ho⟩, Made.new (by omega) (by omega) hv⟩, hb⟩
theorem New_bad (k : Int) (v : Value) (c : Cal) (w : World) (h : CalAt w v c) (r : Int) (hr : NewE k c = r) (hz : r ≠ 0) :
    Gives Tryz.prog 19 #[.int .i64 k, v] w (.tuple #[.pointer none, .int .i64 r]) := by
  subst hr
  exact (New_calls k v c w h).mono fun e w' hn => ⟨hn.2.1 hz, hn.1⟩
def kc : Cal := ⟨0, [], []⟩
theorem kc_at (w : World) : CalAt w (.agg #[.int .i64 0, .slice none 0 0, .slice none 0 0]) kc := ⟨_, _, rfl, ints0 _ _ _ (by decide), pairs0 _ _ _ (by decide)⟩
def kx0 : Off := newO 2 kc
def kx1 : Off := stepO kx0 ⟨#[115, 116, 114, 105, 112, 32, 48, 32, 49, 48, 48]⟩
theorem ke1 : stepE kx0 ⟨#[115, 116, 114, 105, 112, 32, 48, 32, 49, 48, 48]⟩ = 0 := by kernel_rfl
def kx2 : Off := stepO kx1 ⟨#[115, 116, 114, 105, 112, 32, 49, 32, 53, 48]⟩
theorem ke2 : stepE kx1 ⟨#[115, 116, 114, 105, 112, 32, 49, 32, 53, 48]⟩ = 0 := by kernel_rfl
def kx3 : Off := stepO kx2 ⟨#[100, 101, 100, 117, 99, 116, 32, 49, 48]⟩
theorem ke3 : stepE kx2 ⟨#[100, 101, 100, 117, 99, 116, 32, 49, 48]⟩ = 0 := by kernel_rfl
def kx4 : Off := stepO kx3 ⟨#[108, 97, 121, 32, 48, 32, 57, 50]⟩
theorem ke4 : stepE kx3 ⟨#[108, 97, 121, 32, 48, 32, 57, 50]⟩ = 0 := by kernel_rfl
def kx5 : Off := stepO kx4 ⟨#[108, 97, 121, 32, 49, 32, 52, 51]⟩
theorem ke5 : stepE kx4 ⟨#[108, 97, 121, 32, 49, 32, 52, 51]⟩ = 0 := by kernel_rfl
def kx6 : Off := stepO kx5 ⟨#[104, 101, 97, 114, 32, 49, 52]⟩
theorem ke6 : stepE kx5 ⟨#[104, 101, 97, 114, 32, 49, 52]⟩ = 0 := by kernel_rfl
theorem kn0 : NewE 2 kc = 0 := by kernel_rfl
theorem kp6 : payE kx6 2 = 0 := by kernel_rfl
theorem kl6 : payL kx6 2 = [-4, 4] := by kernel_rfl
theorem pay_four (w : World) {b : Nat} (hb : b = w.heap.size) : IntsAt (w.alloc (.cells #[.int .i64 (-4), .int .i64 4] 3)) (.slice (some ⟨b, 0, none⟩) 2 2) [-4, 4] := by
  subst hb
  refine ⟨_, 2, rfl, by simp, by decide, fun i hi => ⟨w.heap.size, 0, rfl, by simp, ?_⟩⟩
  have hi' : i < 2 := hi
  rcases (show i = 0 ∨ i = 1 by omega) with rfl | rfl <;> simp [gi]
end Go.Proofs.YthooacpfmjpdmaaGreatDoor
