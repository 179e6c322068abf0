/- What Twice, TurnsLeft and Side of package plot, and of its reference, give. Conditions: the list lies in memory as said. -/
import Derived.Test.YthiemglckmociaaPtValidate
namespace Go.Proofs.Ythiemglckmociaa
open Go.RowKit

def twiceF (l : List (Int × Int)) : Int := if validF l = 0 then max (areaK l l.length) (-(areaK l l.length)) else 0
def farB (x : Int × Int) : Bool := !(withinL 1000 [x.1, x.2])
theorem farB_betw (x : Int × Int) : farB x = !(betw (-1000) x.1 1000 && betw (-1000) x.2 1000) := by
  unfold farB withinL betw
  simp only [List.any_cons, List.any_nil, Bool.or_false, Bool.not_or]
  rw [Bool.eq_iff_iff]; simp
def sideE (l : List (Int × Int)) (x : Int × Int) : Int := if validF l = 0 then (if farB x = true then 1 else 0) else validF l
theorem farB_bd {x : Int × Int} (h : farB x = false) : bdP x := by
  rw [farB_betw] at h
  simp [betw] at h
  unfold bdP; omega

theorem sum_is {v : Value} {l : List (Int × Int)} {s : Int} (w : World) (h : PairsAt w v l) (hv : Valid l) (hs : areaK l l.length = s) :
    Gives Try.prog 60 #[v] w (.int .i64 s) := hs ▸ sum_calls v l w h (by have := hv.lo; omega) (by have := hv.hi; omega) hv.bd
set_option maxHeartbeats 1000000 in
theorem Twice_calls (v : Value) (l : List (Int × Int)) (w : World) (h : PairsAt w v l) :
    Gives Try.prog 23 #[v] w (.tuple #[.int .i64 (twiceF l), .int .i64 (validF l)]) := by
  have HP := Lib.hid h
  obtain ⟨sa, cap, rfl, hlc, hcm, _⟩ := h
  have HR : Hid (twiceF l = if validF l = 0 then max (areaK l l.length) (-(areaK l l.length)) else 0) := rfl
  unfold Gives
  obtain ⟨e, he⟩ : ∃ e, validF l = e := ⟨_, rfl⟩
  have HE := Lib.hid he
  clear he
  by_cases hz : e = 0
  · have HZ := Lib.hid (HE.out.trans hz)
    have hv := valid_iff.1 HZ.out
    have hlo := hv.lo
    have hhi := hv.hi
    have HV := Lib.hid hv
    have hab := areaK_bd hv.bd l.length
    obtain ⟨s, hs⟩ : ∃ s, areaK l l.length = s := ⟨_, rfl⟩
    rw [hs] at hab
    have HS := Lib.hid hs
    subst hz
    clear hv hs
    rcases Int.lt_or_le 0 s with hp | hp
    · have hm : max s (-s) = s := by omega
      have HM := Lib.hid hm
      clear hm
      go_enter Try.func23, Try.ntmps23
      go_wp2_with (first | (go_at_call 27; (with_reducible refine (validate_is _ (HP.out.below (by (repeat' (first | exact Below.refl _ _ | assumption | refine below_new ?_ _ | refine below_draw ?_ | refine below_tail (by assumption) ?_ | refine below_set ?_ (by first | omega | (simp <;> omega)) _)))) HE.out).use ?_); intro w1 hb1 hz1 hc1 hf1; (try simp at hz1); clear hc1 hf1) | (go_at_call 60; (with_reducible refine (sum_is _ (HP.out.below (by (repeat' (first | exact Below.refl _ _ | assumption | refine below_new ?_ _ | refine below_draw ?_ | refine below_tail (by assumption) ?_ | refine below_set ?_ (by first | omega | (simp <;> omega)) _)))) HV.out HS.out).use ?_); intro w2 hb2 hz2 hc2 hf2; clear hc2 hf2))
      go_ret2
      exact ⟨by rw [HR.out, if_pos HZ.out, HS.out, HM.out, HE.out]; rfl, by (repeat' (first | exact Below.refl _ _ | assumption | refine below_new ?_ _ | refine below_draw ?_ | refine below_tail (by assumption) ?_ | refine below_set ?_ (by first | omega | (simp <;> omega)) _))⟩
    · have hm : max s (-s) = -s := by omega
      have HM := Lib.hid hm
      clear hm
      go_enter Try.func23, Try.ntmps23
      go_wp2_with (first | (go_at_call 27; (with_reducible refine (validate_is _ (HP.out.below (by (repeat' (first | exact Below.refl _ _ | assumption | refine below_new ?_ _ | refine below_draw ?_ | refine below_tail (by assumption) ?_ | refine below_set ?_ (by first | omega | (simp <;> omega)) _)))) HE.out).use ?_); intro w1 hb1 hz1 hc1 hf1; (try simp at hz1); clear hc1 hf1) | (go_at_call 60; (with_reducible refine (sum_is _ (HP.out.below (by (repeat' (first | exact Below.refl _ _ | assumption | refine below_new ?_ _ | refine below_draw ?_ | refine below_tail (by assumption) ?_ | refine below_set ?_ (by first | omega | (simp <;> omega)) _)))) HV.out HS.out).use ?_); intro w2 hb2 hz2 hc2 hf2; clear hc2 hf2))
      all_goals
        go_ret2
        have hs0 : s = 0 ∨ s < 0 := by omega
        exact ⟨by rw [HR.out, if_pos HZ.out, HS.out, HM.out, HE.out]; first | rfl | (rcases hs0 with h | h <;> first | omega | (subst h; rfl)), by (repeat' (first | exact Below.refl _ _ | assumption | refine below_new ?_ _ | refine below_draw ?_ | refine below_tail (by assumption) ?_ | refine below_set ?_ (by first | omega | (simp <;> omega)) _))⟩
  · have h1 : (e == 0) = false := by simpa using hz
    have h2 : (e != 0) = true := by simpa using hz
    have HZ := Lib.hid hz
    clear hz
    go_enter Try.func23, Try.ntmps23
    go_wp2_with (go_at_call 27; (with_reducible refine (validate_is _ (HP.out.below (by (repeat' (first | exact Below.refl _ _ | assumption | refine below_new ?_ _ | refine below_draw ?_ | refine below_tail (by assumption) ?_ | refine below_set ?_ (by first | omega | (simp <;> omega)) _)))) HE.out).use ?_); intro w1 hb1 hz1 hc1 hf1; (try simp at hz1); clear hc1 hf1)
    go_ret2
    exact ⟨by rw [HR.out, if_neg (by rw [HE.out]; exact HZ.out), HE.out]; rfl, by (repeat' (first | exact Below.refl _ _ | assumption | refine below_new ?_ _ | refine below_draw ?_ | refine below_tail (by assumption) ?_ | refine below_set ?_ (by first | omega | (simp <;> omega)) _))⟩

theorem where_is {v : Value} {l : List (Int × Int)} {x : Int × Int} {s : Int} (w : World) (h : PairsAt w v l) (hv : Valid l) (hx : bdP x) (hs : whereP l x = s) :
    Gives Try.prog 59 #[v, .agg #[.int .i64 x.1, .int .i64 x.2]] w (.int .i64 s) := hs ▸ where_calls v l x w h (by have := hv.lo; omega) (by have := hv.hi; omega) hv.bd hx
theorem within_is {v : Value} {m : Int} {l : List Int} {t : Bool} (w : World) (h : IntsAt w v l) (h1 : 0 ≤ m) (h2 : m ≤ 4000) (ht : withinL m l = t) : Gives Try.prog 64 #[.int .i64 m, v] w (.bool t) := ht ▸ within_calls v m l w h h1 h2

def sideP (l : List (Int × Int)) (x : Int × Int) : Int := if sideE l x = 0 then whereP l x else 0
set_option maxHeartbeats 1000000 in
theorem Side_calls (v : Value) (l : List (Int × Int)) (x : Int × Int) (w : World) (h : PairsAt w v l) :
    Gives Try.prog 29 #[v, .agg #[.int .i64 x.1, .int .i64 x.2]] w (.tuple #[.int .i64 (sideP l x), .int .i64 (sideE l x)]) := by
  have HP := Lib.hid h
  obtain ⟨sa, cap, rfl, hlc, hcm, _⟩ := h
  have HR : Hid (sideP l x = if sideE l x = 0 then whereP l x else 0) := rfl
  have HRE : Hid (sideE l x = if validF l = 0 then (if farB x = true then 1 else 0) else validF l) := rfl
  unfold Gives
  obtain ⟨e, he⟩ : ∃ e, validF l = e := ⟨_, rfl⟩
  have HE := Lib.hid he
  clear he
  by_cases hz : e = 0
  · have HZ := Lib.hid (HE.out.trans hz)
    have HV := Lib.hid (valid_iff.1 HZ.out)
    obtain ⟨s, hs⟩ : ∃ s, whereP l x = s := ⟨_, rfl⟩
    have HWV := Lib.hid hs
    subst hz
    clear hs
    obtain ⟨b, hb⟩ : ∃ b, withinL 1000 [x.1, x.2] = b := ⟨_, rfl⟩
    have hfb : farB x = !b := by unfold farB; rw [hb]
    have HFB := Lib.hid hfb
    have HB := Lib.hid hb
    clear hb hfb
    cases b
    · go_enter Try.func29, Try.ntmps29
      go_wp2_with (first | (go_at_call 27; (with_reducible refine (validate_is _ (HP.out.below (by (repeat' (first | exact Below.refl _ _ | assumption | refine below_new ?_ _ | refine below_draw ?_ | refine below_tail (by assumption) ?_ | refine below_set ?_ (by first | omega | (simp <;> omega)) _)))) HE.out).use ?_); intro w1 hb1 hz1 hc1 hf1; (try simp at hz1); have hy1 : w.heap.size < w1.heap.size := (by omega); have hx10 := fun o => hc1 (w.heap.size) o (by first | omega | (simp <;> omega)); clear hc1 hf1) | (go_at_call 64; (with_reducible refine (within_is _ (ints2 (by simp)) (by omega) (by omega) HB.out).use ?_); intro w2 hb2 hz2 hc2 hf2; (try simp at hz2); have hy2 : w.heap.size < w2.heap.size := (by omega); have hx20 := fun o => hc2 w.heap.size o (by first | omega | (simp <;> omega)); clear hc2 hf2))
      go_ret2
      exact ⟨by rw [HR.out, HRE.out, if_pos HZ.out, HFB.out]; rfl, by (repeat' (first | exact Below.refl _ _ | assumption | refine below_new ?_ _ | refine below_draw ?_ | refine below_tail (by assumption) ?_ | refine below_set ?_ (by first | omega | (simp <;> omega)) _))⟩
    · have hx := farB_bd HFB.out
      have HX := Lib.hid hx
      clear hx
      go_enter Try.func29, Try.ntmps29
      go_wp2_with (first | (go_at_call 27; (with_reducible refine (validate_is _ (HP.out.below (by (repeat' (first | exact Below.refl _ _ | assumption | refine below_new ?_ _ | refine below_draw ?_ | refine below_tail (by assumption) ?_ | refine below_set ?_ (by first | omega | (simp <;> omega)) _)))) HE.out).use ?_); intro w1 hb1 hz1 hc1 hf1; (try simp at hz1); have hy1 : w.heap.size < w1.heap.size := (by omega); have hx10 := fun o => hc1 (w.heap.size) o (by first | omega | (simp <;> omega)); clear hc1 hf1) | (go_at_call 64; (with_reducible refine (within_is _ (ints2 (by simp)) (by omega) (by omega) HB.out).use ?_); intro w2 hb2 hz2 hc2 hf2; (try simp at hz2); have hy2 : w.heap.size < w2.heap.size := (by omega); have hx20 := fun o => hc2 w.heap.size o (by first | omega | (simp <;> omega)); clear hc2 hf2) | (go_at_call 59; (with_reducible refine (where_is _ (HP.out.below (by (repeat' (first | exact Below.refl _ _ | assumption | refine below_new ?_ _ | refine below_draw ?_ | refine below_tail (by assumption) ?_ | refine below_set ?_ (by first | omega | (simp <;> omega)) _)))) HV.out HX.out HWV.out).use ?_); intro w5 hb5 hz5 hc5 hf5; clear hc5 hf5))
      go_ret2
      exact ⟨by rw [HR.out, HRE.out, if_pos HZ.out, HFB.out, HWV.out]; rfl, by (repeat' (first | exact Below.refl _ _ | assumption | refine below_new ?_ _ | refine below_draw ?_ | refine below_tail (by assumption) ?_ | refine below_set ?_ (by first | omega | (simp <;> omega)) _))⟩
  · have h1 : (e == 0) = false := by simpa using hz
    have h2 : (e != 0) = true := by simpa using hz
    have HZ := Lib.hid hz
    clear hz
    go_enter Try.func29, Try.ntmps29
    go_wp2_with (go_at_call 27; (with_reducible refine (validate_is _ (HP.out.below (by (repeat' (first | exact Below.refl _ _ | assumption | refine below_new ?_ _ | refine below_draw ?_ | refine below_tail (by assumption) ?_ | refine below_set ?_ (by first | omega | (simp <;> omega)) _)))) HE.out).use ?_); intro w1 hb1 hz1 hc1 hf1; (try simp at hz1); have hy1 : w.heap.size < w1.heap.size := (by omega); have hx10 := fun o => hc1 (w.heap.size) o (by first | omega | (simp <;> omega)); clear hc1 hf1)
    go_ret2
    have hse : sideE l x = e := by rw [HRE.out, if_neg (by rw [HE.out]; exact HZ.out), HE.out]
    exact ⟨by rw [HR.out, hse, if_neg HZ.out]; rfl, by (repeat' (first | exact Below.refl _ _ | assumption | refine below_new ?_ _ | refine below_draw ?_ | refine below_tail (by assumption) ?_ | refine below_set ?_ (by first | omega | (simp <;> omega)) _))⟩

end Go.Proofs.Ythiemglckmociaa
