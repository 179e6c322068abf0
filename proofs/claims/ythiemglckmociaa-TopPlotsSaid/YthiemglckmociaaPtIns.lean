/- What Inside of package plot, and OnBorder and Inside of its reference, give. Conditions: the list lies in memory as said. -/
import Derived.Test.YthiemglckmociaaPtGcd
namespace Go.Proofs.Ythiemglckmociaa
open Go.RowKit

/-- Points of a column, and of columns, that have f. -/
def cY (f : Int × Int → Bool) (i : Nat) (j : Nat) : Int := sumN (fun j => if f ((i : Int) - 30, (j : Int) - 30) = true then 1 else 0) j
def cX (f : Int × Int → Bool) (i : Nat) : Int := sumN (fun i => cY f i 61) i
theorem cY_yes {f : Int × Int → Bool} {i j : Nat} (h : f ((i : Int) - 30, (j : Int) - 30) = true) : cY f i (j + 1) = cY f i j + 1 := by
  show sumN _ j + (if _ then 1 else 0) = _
  rw [if_pos h]; rfl
theorem cY_no {f : Int × Int → Bool} {i j : Nat} (h : f ((i : Int) - 30, (j : Int) - 30) = false) : cY f i (j + 1) = cY f i j := by
  show sumN _ j + (if _ then 1 else 0) = _
  rw [if_neg (by rw [h]; simp)]; exact Int.add_zero _
theorem cX_succ (f : Int × Int → Bool) (i : Nat) : cX f (i + 1) = cX f i + cY f i 61 := rfl
theorem cY_bd (f : Int × Int → Bool) (i : Nat) : ∀ j : Nat, 0 ≤ cY f i j ∧ cY f i j ≤ j
  | 0 => by simp [cY, sumN]
  | j + 1 => by
    have := cY_bd f i j
    cases h : f ((i : Int) - 30, (j : Int) - 30)
    · rw [cY_no h]; omega
    · rw [cY_yes h]; omega
theorem cX_bd (f : Int × Int → Bool) : ∀ i : Nat, 0 ≤ cX f i ∧ cX f i ≤ 61 * i
  | 0 => by simp [cX, sumN]
  | i + 1 => by
    have := cX_bd f i
    have := cY_bd f i 61
    rw [cX_succ]; omega
theorem grid_bd (i j : Nat) (hi : i < 61) (hj : j < 61) : bdP ((i : Int) - 30, (j : Int) - 30) := by unfold bdP; simp only; omega
theorem vint {k : IntKind} {a b : Int} (h : a = b) : Value.int k a = Value.int k b := by rw [h]
def pointsF (l : List (Int × Int)) (s : Int) : Int := cX (fun x => sideF l x == s) 61
def insideF (l : List (Int × Int)) : Int := if validF l = 0 then cX (fun x => whereP l x == 1) 61 else 0
def rinsideF (l : List (Int × Int)) : Int := if validF l = 0 then pointsF l 1 else 0
def rborderF (l : List (Int × Int)) : Int := if validF l = 0 then pointsF l 0 else 0

set_option maxHeartbeats 4000000 in
theorem Inside_calls (v : Value) (l : List (Int × Int)) (w : World) (h : PairsAt w v l) :
    Gives Try.prog 21 #[v] w (.tuple #[.int .i64 (insideF l), .int .i64 (validF l)]) := by
  have HP := Lib.hid h
  obtain ⟨sa, cap, rfl, hlc, hcm, _⟩ := h
  have HR : Hid (insideF l = if validF l = 0 then cX (fun x => whereP l x == 1) 61 else 0) := rfl
  unfold Gives
  obtain ⟨e, he⟩ : ∃ e, validF l = e := ⟨_, rfl⟩
  have HE := Lib.hid he
  clear he
  by_cases hz : e = 0
  · have HZ := Lib.hid (HE.out.trans hz)
    have HV := Lib.hid (valid_iff.1 HZ.out)
    subst hz
    go_enter Try.func21, Try.ntmps21
    go_wp2_with (go_at_call 27; (with_reducible refine (validate_is _ (HP.out.below (by (repeat' (first | exact Below.refl _ _ | assumption | refine below_new ?_ _ | refine below_draw ?_ | refine below_tail (by assumption) ?_ | refine below_set ?_ (by first | omega | (simp <;> omega)) _)))) HE.out).use ?_); intro w1 hb1 hz1 hc1 hf1; (try simp at hz1); clear hc1 hf1)
    have hB1 : Below w.heap.size w w1 := by (repeat' (first | exact Below.refl _ _ | assumption | refine below_new ?_ _ | refine below_draw ?_ | refine below_tail (by assumption) ?_ | refine below_set ?_ (by first | omega | (simp <;> omega)) _))
    clear hb1 hz1
    go_loopw [5, 6] (fun n x wr => ∃ i : Nat, i ≤ 61 ∧ x = .int .i64 ((i : Int) - 30) ∧ n = .int .i64 (cX (fun x => whereP l x == 1) i) ∧ Below w.heap.size w wr) (fun _ x _ => (30 - intOf x + 1).toNat)
    case atStart => exact ⟨0, by omega, rfl, rfl, hB1⟩
    case round =>
      clear hB1
      obtain ⟨i, hi, rfl, rfl, hB⟩ := hrel
      have hcx := cX_bd (fun x => whereP l x == 1) i
      have HCS := Lib.hid (cX_succ (fun x => whereP l x == 1) i)
      obtain ⟨cx, hcxe⟩ : ∃ c, cX (fun x => whereP l x == 1) i = c := ⟨_, rfl⟩
      rw [hcxe] at hcx
      rw [hcxe]
      have HCX := Lib.hid hcxe
      clear hcxe
      by_cases hlt : i < 61
      · have x0 : decide ((i : Int) - 30 ≤ 30) = true := decide_eq_true (by omega)
        go_wp2
        obtain ⟨wo, rfl⟩ : ∃ wo : World, wo = wr := ⟨_, rfl⟩
        go_loopw [5, 7] (fun n y wr => ∃ j : Nat, j ≤ 61 ∧ y = .int .i64 ((j : Int) - 30) ∧ n = .int .i64 (cx + cY (fun x => whereP l x == 1) i j) ∧ Below w.heap.size w wr) (fun _ y _ => (30 - intOf y + 1).toNat)
        case atStart => exact ⟨0, by omega, rfl, by simp [cY, sumN], hB⟩
        case round =>
          clear hB
          obtain ⟨j, hj, rfl, rfl, hB⟩ := hrel
          have hcy := cY_bd (fun x => whereP l x == 1) i j
          have HY := Lib.hid (cY_yes (f := (fun x => whereP l x == 1)) (i := i) (j := j))
          have HN := Lib.hid (cY_no (f := (fun x => whereP l x == 1)) (i := i) (j := j))
          obtain ⟨cy, hcye⟩ : ∃ c, cY (fun x => whereP l x == 1) i j = c := ⟨_, rfl⟩
          rw [hcye] at hcy
          rw [hcye]
          have HCY := Lib.hid hcye
          clear hcye
          by_cases hlt2 : j < 61
          · have y0 : decide ((j : Int) - 30 ≤ 30) = true := decide_eq_true (by omega)
            have HGB := Lib.hid (grid_bd i j hlt hlt2)
            obtain ⟨s, hs⟩ : ∃ s, whereP l ((i : Int) - 30, (j : Int) - 30) = s := ⟨_, rfl⟩
            have HS := Lib.hid hs
            clear hs
            by_cases hs1 : s = 1
            · have x1 : (s == 1) = true := by simpa using hs1
              have HY2 : Hid (cY (fun x => whereP l x == 1) i (j + 1) = cy + 1) := by unfold Hid; rw [HY.out (by rw [HS.out]; exact x1), HCY.out]
              have HS1 := Lib.hid hs1
              clear hs1
              go_wp2_with (go_at_call 59; refine (where_is (x := ((i : Int) - 30, (j : Int) - 30)) _ (HP.out.below hB) HV.out HGB.out HS.out).use ?_; intro w5 hb5 hz5 hc5 hf5; clear hc5 hf5)
              go_roundw
              case rel => exact ⟨j + 1, by omega, vint (by omega), by rw [HY2.out]; exact vint (by omega), by (repeat' (first | exact Below.refl _ _ | assumption | refine below_new ?_ _ | refine below_draw ?_ | refine below_tail (by assumption) ?_ | refine below_set ?_ (by first | omega | (simp <;> omega)) _))⟩
              case measure => simp [intOf]; omega
            · have x1 : (s == 1) = false := by simpa using hs1
              have HN2 : Hid (cY (fun x => whereP l x == 1) i (j + 1) = cy) := by unfold Hid; rw [HN.out (by rw [HS.out]; exact x1), HCY.out]
              have HS1 := Lib.hid hs1
              clear hs1
              go_wp2_with (go_at_call 59; refine (where_is (x := ((i : Int) - 30, (j : Int) - 30)) _ (HP.out.below hB) HV.out HGB.out HS.out).use ?_; intro w5 hb5 hz5 hc5 hf5; clear hc5 hf5)
              go_roundw
              case rel => exact ⟨j + 1, by omega, vint (by omega), by rw [HN2.out], by (repeat' (first | exact Below.refl _ _ | assumption | refine below_new ?_ _ | refine below_draw ?_ | refine below_tail (by assumption) ?_ | refine below_set ?_ (by first | omega | (simp <;> omega)) _))⟩
              case measure => simp [intOf]; omega
          · obtain rfl : j = 61 := by omega
            have y0 : decide (((61 : Nat) : Int) - 30 ≤ 30) = false := by decide
            go_wp2
            go_roundw
            case rel => exact ⟨i + 1, by omega, vint (by omega), by rw [HCS.out, HCX.out, HCY.out], hB⟩
            case measure => simp [intOf]; omega
      · obtain rfl : i = 61 := by omega
        go_wp2
        go_ret2
        exact ⟨by rw [HR.out, if_pos HZ.out, HE.out, HCX.out]; rfl, hB⟩
  · have h1 : (e == 0) = false := by simpa using hz
    have h2 : (e != 0) = true := by simpa using hz
    have HZ := Lib.hid hz
    clear hz
    go_enter Try.func21, Try.ntmps21
    go_wp2_with (go_at_call 27; (with_reducible refine (validate_is _ (HP.out.below (by (repeat' (first | exact Below.refl _ _ | assumption | refine below_new ?_ _ | refine below_draw ?_ | refine below_tail (by assumption) ?_ | refine below_set ?_ (by first | omega | (simp <;> omega)) _)))) HE.out).use ?_); intro w1 hb1 hz1 hc1 hf1; (try simp at hz1); clear hc1 hf1)
    go_ret2
    exact ⟨by rw [HR.out, if_neg (by rw [HE.out]; exact HZ.out), HE.out]; rfl, by (repeat' (first | exact Below.refl _ _ | assumption | refine below_new ?_ _ | refine below_draw ?_ | refine below_tail (by assumption) ?_ | refine below_set ?_ (by first | omega | (simp <;> omega)) _))⟩

end Go.Proofs.Ythiemglckmociaa
