/- What the errors of a question give: asked, ordered, termed. Conditions: a calendar lies in memory as said. -/
import Derived.Test.YtnhohnnoffhkhaaTermRef2
namespace Go.Proofs.Ytnhohnnoffhkhaa
open Go.RowKit

set_option maxHeartbeats 1000000 in
theorem termed_calls (v tv : Value) (c : Cal) (d : Int) (ts : List Int) (w : World) (h : CalAt w v c) (ht : IntsAt w tv ts) :
    Gives Try.prog 55 #[v, .int .i64 d, tv] w (.int .i64 (askedF c [d] ts)) := by
  obtain ⟨fa, fc, sa, sc, rfl, hf, hs, hfc, hsc, hfl, hsl⟩ := h.cells
  have HT := Lib.hid ht
  obtain ⟨ta, tc, rfl, _, _, _⟩ := ht
  have HCal := Lib.hid h
  clear h hf hs
  unfold Gives
  go_enter Try.func55, Try.ntmps55
  go_wp2_with (first
    | (go_at_call 40; refine (validate_calls _ c _ (HCal.out.below (by (repeat' (first | exact Below.refl _ _ | assumption | refine below_new ?_ _ | refine below_draw ?_ | refine below_tail (by assumption) ?_ | refine below_set ?_ (by first | omega | (simp <;> omega)) _))))).use ?_; intro w1 hb1 hz1 hc1 hf1; (try simp at hz1); have hy1 : w.heap.size < w1.heap.size := (by omega); have hx1 := fun o => hc1 w.heap.size o (by first | omega | (simp <;> omega)))
    | (go_at_call 73; refine (areDays_calls _ [d] _ (ints1 (by simp))).use ?_; intro w2 hb2 hz2 hc2 hf2; (try simp at hz2); have hy2 : w.heap.size < w2.heap.size := (by omega); have hx2 := fun o => hc2 w.heap.size o (by first | omega | (simp <;> omega)))
    | (go_at_call 74; refine (areTerms_calls _ ts _ (HT.out.below (by (repeat' (first | exact Below.refl _ _ | assumption | refine below_new ?_ _ | refine below_draw ?_ | refine below_tail (by assumption) ?_ | refine below_set ?_ (by first | omega | (simp <;> omega)) _))))).use ?_; intro w3 hb3 hz3 hc3 hf3; (try simp at hz3); have hy3 : w.heap.size < w3.heap.size := (by omega); have hx3 := fun o => hc3 w.heap.size o (by first | omega | (simp <;> omega)))
    | (go_at_call 72; refine (or_is _ [validF c, daysF [d], termsF ts] (askedF c [d] ts) _ (ints3 (by simp)) (by rw [orFrom_3]; rfl)).mono ?_; rintro e w' ⟨rfl, rfl⟩))
  go_ret
  exact ⟨rfl, by (repeat' (first | exact Below.refl _ _ | assumption | refine below_new ?_ _ | refine below_draw ?_ | refine below_tail (by assumption) ?_ | refine below_set ?_ (by first | omega | (simp <;> omega)) _))⟩

set_option maxHeartbeats 1000000 in
theorem ordered_calls (v : Value) (c : Cal) (a b : Int) (w : World) (h : CalAt w v c) :
    Gives Try.prog 77 #[v, .int .i64 a, .int .i64 b] w (.int .i64 (orderedF c a b)) := by
  obtain ⟨fa, fc, sa, sc, rfl, hf, hs, hfc, hsc, hfl, hsl⟩ := h.cells
  have HCal := Lib.hid h
  clear h hf hs
  unfold Gives
  have HO : Hid (orderedF c a b = if askedF c [a, b] [] = 0 then (if b < a then 1 else 0) else askedF c [a, b] []) := rfl
  by_cases hz : askedF c [a, b] [] = 0
  · have Hz := Lib.hid hz
    have hz' : (askedF c [a, b] [] == 0) = true := by simpa using hz
    clear hz
    by_cases hab : b < a
    · go_enter Try.func77, Try.ntmps77
      go_wp2_with (first
        | (go_at_call 40; refine (validate_calls _ c _ (HCal.out.below (by (repeat' (first | exact Below.refl _ _ | assumption | refine below_new ?_ _ | refine below_draw ?_ | refine below_tail (by assumption) ?_ | refine below_set ?_ (by first | omega | (simp <;> omega)) _))))).use ?_; intro w1 hb1 hz1 hc1 hf1; (try simp at hz1); have hy1 : w.heap.size < w1.heap.size := (by omega); have hx1 := fun o => hc1 w.heap.size o (by first | omega | (simp <;> omega)))
        | (go_at_call 73; refine (areDays_calls _ [a, b] _ (ints2 (by simp))).use ?_; intro w2 hb2 hz2 hc2 hf2)
        | (go_at_call 72; refine (or_is _ [validF c, daysF [a, b]] (askedF c [a, b] []) _ (ints2 (by simp)) (by rw [orFrom_2, askedF_days])).mono ?_; rintro e w' ⟨rfl, rfl⟩))
      go_ret
      exact ⟨ret_int (by rw [HO.out, if_pos Hz.out, if_pos (by omega)]), by (repeat' (first | exact Below.refl _ _ | assumption | refine below_new ?_ _ | refine below_draw ?_ | refine below_tail (by assumption) ?_ | refine below_set ?_ (by first | omega | (simp <;> omega)) _))⟩
    · go_enter Try.func77, Try.ntmps77
      go_wp2_with (first
        | (go_at_call 40; refine (validate_calls _ c _ (HCal.out.below (by (repeat' (first | exact Below.refl _ _ | assumption | refine below_new ?_ _ | refine below_draw ?_ | refine below_tail (by assumption) ?_ | refine below_set ?_ (by first | omega | (simp <;> omega)) _))))).use ?_; intro w1 hb1 hz1 hc1 hf1; (try simp at hz1); have hy1 : w.heap.size < w1.heap.size := (by omega); have hx1 := fun o => hc1 w.heap.size o (by first | omega | (simp <;> omega)))
        | (go_at_call 73; refine (areDays_calls _ [a, b] _ (ints2 (by simp))).use ?_; intro w2 hb2 hz2 hc2 hf2)
        | (go_at_call 72; refine (or_is _ [validF c, daysF [a, b]] (askedF c [a, b] []) _ (ints2 (by simp)) (by rw [orFrom_2, askedF_days])).mono ?_; rintro e w' ⟨rfl, rfl⟩))
      go_ret
      exact ⟨ret_int (by rw [HO.out, if_pos Hz.out, if_neg (by omega)]), by (repeat' (first | exact Below.refl _ _ | assumption | refine below_new ?_ _ | refine below_draw ?_ | refine below_tail (by assumption) ?_ | refine below_set ?_ (by first | omega | (simp <;> omega)) _))⟩
  · have Hz := Lib.hid hz
    have hz' : (askedF c [a, b] [] == 0) = false := by simpa using hz
    clear hz
    go_enter Try.func77, Try.ntmps77
    go_wp2_with (first
      | (go_at_call 40; refine (validate_calls _ c _ (HCal.out.below (by (repeat' (first | exact Below.refl _ _ | assumption | refine below_new ?_ _ | refine below_draw ?_ | refine below_tail (by assumption) ?_ | refine below_set ?_ (by first | omega | (simp <;> omega)) _))))).use ?_; intro w1 hb1 hz1 hc1 hf1; (try simp at hz1); have hy1 : w.heap.size < w1.heap.size := (by omega); have hx1 := fun o => hc1 w.heap.size o (by first | omega | (simp <;> omega)))
      | (go_at_call 73; refine (areDays_calls _ [a, b] _ (ints2 (by simp))).use ?_; intro w2 hb2 hz2 hc2 hf2)
      | (go_at_call 72; refine (or_is _ [validF c, daysF [a, b]] (askedF c [a, b] []) _ (ints2 (by simp)) (by rw [orFrom_2, askedF_days])).mono ?_; rintro e w' ⟨rfl, rfl⟩))
    go_ret
    exact ⟨ret_int (by rw [HO.out, if_neg Hz.out]), by (repeat' (first | exact Below.refl _ _ | assumption | refine below_new ?_ _ | refine below_draw ?_ | refine below_tail (by assumption) ?_ | refine below_set ?_ (by first | omega | (simp <;> omega)) _))⟩

set_option maxHeartbeats 1000000 in
theorem asked_calls (v dv tv : Value) (c : Cal) (ds ts : List Int) (w : World) (h : CalAt w v c) (hd : IntsAt w dv ds) (ht : IntsAt w tv ts) :
    Gives Try.prog 62 #[v, dv, tv] w (.int .i64 (askedF c ds ts)) := by
  obtain ⟨fa, fc, sa, sc, rfl, hf, hs, hfc, hsc, hfl, hsl⟩ := h.cells
  have HT := Lib.hid ht
  have HD := Lib.hid hd
  obtain ⟨ta, tc, rfl, htl, htc, _⟩ := ht
  obtain ⟨da, dc, rfl, hdl, hdc, _⟩ := hd
  have HCal := Lib.hid h
  clear h hf hs
  unfold Gives
  have HA : Hid (askedF c ds ts = if validF c = 0 then (if daysF ds = 0 then termsF ts else daysF ds) else validF c) := rfl
  have HDf := Lib.hid (daysF_some ds)
  have HTf := Lib.hid (termsF_some ts)
  by_cases hz : validF c = 0
  · have Hz := Lib.hid hz
    have hz' : (validF c == 0) = true := by simpa using hz
    have hz2 : (validF c != 0) = false := by simpa using hz
    clear hz
    go_enter Try.func62, Try.ntmps62
    go_wp2_with (first
      | (go_at_call 41; refine (rvalidate_calls _ c _ (HCal.out.below (by (repeat' (first | exact Below.refl _ _ | assumption | refine below_new ?_ _ | refine below_draw ?_ | refine below_tail (by assumption) ?_ | refine below_set ?_ (by first | omega | (simp <;> omega)) _))))).use ?_; intro w1 hb1 hz1 hc1 hf1))
    go_loop [8] (fun i => ∃ k : Nat, k ≤ ds.length ∧ i = .int .i64 k ∧ Hid (someFrom (fun i => !(dayB (gi ds 0 i))) ds.length 0 = someFrom (fun i => !(dayB (gi ds 0 i))) ds.length k)) (fun i => ds.length - (intOf i).toNat)
    case atStart => exact ⟨0, Nat.zero_le _, rfl, rfl⟩
    case round =>
      obtain ⟨k, hk, rfl, hr⟩ := hrel
      by_cases hlt : k < ds.length
      · obtain ⟨da', dc', e1, _, _, hcell0⟩ := HD.out.below (w' := w1) (by (repeat' (first | exact Below.refl _ _ | assumption | refine below_new ?_ _ | refine below_draw ?_ | refine below_tail (by assumption) ?_ | refine below_set ?_ (by first | omega | (simp <;> omega)) _)))
        simp only [Value.slice.injEq] at e1
        obtain ⟨rfl, _, rfl⟩ := e1
        obtain ⟨b, o, rfl, hB, hcell⟩ := hcell0 k hlt
        clear hcell0
        have HH : Hid (dayB (gi ds 0 k) = withinB (gi ds 0 k) 0 10000) := rfl
        cases hx : withinB (gi ds 0 k) 0 10000
        · have H1 := Lib.hid (someFrom_yes (p := fun i => !(dayB (gi ds 0 i))) hlt (by rw [HH.out, hx]; rfl))
          go_wp2_with (go_at_call 83; refine (rwithin_calls _ _ _ _).mono ?_; rintro e w' ⟨rfl, rfl⟩)
          go_ret
          exact ⟨ret_int (by rw [HA.out, if_pos Hz.out, HDf.out, hr.out, H1.out]; rfl), by (repeat' (first | exact Below.refl _ _ | assumption | refine below_new ?_ _ | refine below_draw ?_ | refine below_tail (by assumption) ?_ | refine below_set ?_ (by first | omega | (simp <;> omega)) _))⟩
        · have H1 := Lib.hid (someFrom_no (p := fun i => !(dayB (gi ds 0 i))) hlt (by rw [HH.out, hx]; rfl))
          go_wp2_with (go_at_call 83; refine (rwithin_calls _ _ _ _).mono ?_; rintro e w' ⟨rfl, rfl⟩)
          go_round
          case rel => exact ⟨k + 1, by omega, by go_num, by unfold Hid; rw [hr.out, H1.out]⟩
          case measure => simp [intOf]; omega
      · have H1 := Lib.hid (hr.out.trans (someFrom_end (p := fun i => !(dayB (gi ds 0 i))) hlt))
        clear hr
        go_wp2
        go_loop [9] (fun i => ∃ k : Nat, k ≤ ts.length ∧ i = .int .i64 k ∧ Hid (someFrom (fun i => !(termB (gi ts 0 i))) ts.length 0 = someFrom (fun i => !(termB (gi ts 0 i))) ts.length k)) (fun i => ts.length - (intOf i).toNat)
        case atStart => exact ⟨0, Nat.zero_le _, rfl, rfl⟩
        case round =>
          obtain ⟨j, hj, rfl, hr⟩ := hrel
          have hres : Hid (askedF c ds ts = if someFrom (fun i => !(termB (gi ts 0 i))) ts.length j then 1 else 0) := by
            unfold Hid
            have e1 : daysF ds = 0 := by rw [HDf.out, H1.out]; rfl
            rw [HA.out, if_pos Hz.out, if_pos e1, HTf.out, hr.out]
          by_cases hjl : j < ts.length
          · obtain ⟨ta', tc', e1, _, _, hcell0⟩ := HT.out.below (w' := w1) (by (repeat' (first | exact Below.refl _ _ | assumption | refine below_new ?_ _ | refine below_draw ?_ | refine below_tail (by assumption) ?_ | refine below_set ?_ (by first | omega | (simp <;> omega)) _)))
            simp only [Value.slice.injEq] at e1
            obtain ⟨rfl, _, rfl⟩ := e1
            obtain ⟨b, o, rfl, hB, hcell⟩ := hcell0 j hjl
            clear hcell0
            have HH : Hid (termB (gi ts 0 j) = withinB (gi ts 0 j) 0 400) := rfl
            cases hx : withinB (gi ts 0 j) 0 400
            · have H2 := Lib.hid (someFrom_yes (p := fun i => !(termB (gi ts 0 i))) hjl (by rw [HH.out, hx]; rfl))
              go_wp2_with (go_at_call 83; refine (rwithin_calls _ _ _ _).mono ?_; rintro e w' ⟨rfl, rfl⟩)
              go_ret
              exact ⟨ret_int (by rw [hres.out, H2.out]; rfl), by (repeat' (first | exact Below.refl _ _ | assumption | refine below_new ?_ _ | refine below_draw ?_ | refine below_tail (by assumption) ?_ | refine below_set ?_ (by first | omega | (simp <;> omega)) _))⟩
            · have H2 := Lib.hid (someFrom_no (p := fun i => !(termB (gi ts 0 i))) hjl (by rw [HH.out, hx]; rfl))
              go_wp2_with (go_at_call 83; refine (rwithin_calls _ _ _ _).mono ?_; rintro e w' ⟨rfl, rfl⟩)
              go_round
              case rel => exact ⟨j + 1, by omega, by go_num, by unfold Hid; rw [hr.out, H2.out]⟩
              case measure => simp [intOf]; omega
          · have H2 := Lib.hid (someFrom_end (p := fun i => !(termB (gi ts 0 i))) hjl)
            go_wp2
            go_ret
            exact ⟨ret_int (by rw [hres.out, H2.out]; rfl), by (repeat' (first | exact Below.refl _ _ | assumption | refine below_new ?_ _ | refine below_draw ?_ | refine below_tail (by assumption) ?_ | refine below_set ?_ (by first | omega | (simp <;> omega)) _))⟩
  · have Hz := Lib.hid hz
    have hz' : (validF c == 0) = false := by simpa using hz
    clear hz
    go_enter Try.func62, Try.ntmps62
    go_wp2_with (first
      | (go_at_call 41; refine (rvalidate_calls _ c _ (HCal.out.below (by (repeat' (first | exact Below.refl _ _ | assumption | refine below_new ?_ _ | refine below_draw ?_ | refine below_tail (by assumption) ?_ | refine below_set ?_ (by first | omega | (simp <;> omega)) _))))).use ?_; intro w1 hb1 hz1 hc1 hf1))
    go_ret
    exact ⟨ret_int (by rw [HA.out, if_neg Hz.out]), by (repeat' (first | exact Below.refl _ _ | assumption | refine below_new ?_ _ | refine below_draw ?_ | refine below_tail (by assumption) ?_ | refine below_set ?_ (by first | omega | (simp <;> omega)) _))⟩
end Go.Proofs.Ytnhohnnoffhkhaa
