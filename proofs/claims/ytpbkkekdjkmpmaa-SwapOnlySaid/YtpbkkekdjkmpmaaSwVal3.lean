/- The document's check of lists; long lists; what an owner would rather have. Conditions: the lists lie in memory as said. -/
import Derived.Test.YtpbkkekdjkmpmaaSwVal2
namespace Go.Proofs.Ytpbkkekdjkmpmaa
open Go.RowKit

theorem within_to {n lo hi : Int} {t : Bool} {w : World} (ht : (decide (lo ≤ n) && decide (n ≤ hi)) = t) :
    Same Try.prog 30 #[.int .i64 n, .int .i64 lo, .int .i64 hi] w (.bool t) := ht ▸ within_is n lo hi w

set_option maxHeartbeats 1000000 in
theorem rOrder_is (v : Value) (l : List Int) (n : Nat) (w : World) (h : IntsAt w v l) (hn : n ≤ 5) :
    Gives Try.prog 35 #[v, .int .i64 n] w (.bool (ordB l n)) := by
  have HL := Lib.hid h
  obtain ⟨a, cap, rfl, hlc, hcm, -⟩ := h
  unfold Gives
  by_cases hl : l.length = n
  · subst hl
    have H0 : Hid (ordB l l.length = goodB l l.length 0) := by show ordB l l.length = _; unfold ordB; rw [decide_eq_true rfl, Bool.true_and, ord_good rfl]
    have t1 : ((l.length : Int) != (l.length : Int)) = false := by simp
    go_enter Try.func35, Try.ntmps35
    go_wp2
    go_loopw [5] (fun i wr => ∃ k : Nat, k ≤ l.length ∧ i = .int .i64 k ∧ Hid (goodB l l.length 0 = goodB l l.length k) ∧ Below w.heap.size w wr) (fun i _ => l.length - (intOf i).toNat)
    case atStart => exact ⟨0, Nat.zero_le _, rfl, rfl, by (repeat' (first | exact Below.refl _ _ | assumption | refine below_new ?_ _ | refine below_draw ?_ | refine below_tail (by assumption) ?_ | refine below_set ?_ (by first | omega | (simp <;> omega)) _))⟩
    case round =>
      obtain ⟨k, hk, rfl, hr, hb⟩ := hrel
      by_cases hlt : k < l.length
      · obtain ⟨b, o, rfl, hB, hcell0⟩ := (HL.out.below hb).cellAt hlt
        cases hx : (decide (0 ≤ gi l 0 k) && decide (gi l 0 k ≤ (l.length : Int) - 1))
        · have H1 := Lib.hid (goodB_no hlt hx)
          have HX := Lib.hid hx
          clear hx
          go_wp2_with (go_at_call 30; refine (within_to HX.out).use ?_)
          go_ret
          exact ⟨ret_bool (by rw [H0.out, hr.out, H1.out]), by (repeat' (first | exact Below.refl _ _ | assumption | refine below_new ?_ _ | refine below_draw ?_ | refine below_tail (by assumption) ?_ | refine below_set ?_ (by first | omega | (simp <;> omega)) _))⟩
        · have HX := Lib.hid hx
          clear hx
          go_wp2_with (go_at_call 30; refine (within_to HX.out).use ?_)
          go_loopw [6] (fun i w2 => ∃ m : Nat, m ≤ k ∧ i = .int .i64 m ∧ Hid (freshB l k 0 = freshB l k m) ∧ Below w.heap.size w w2) (fun i _ => k - (intOf i).toNat)
          case atStart => exact ⟨0, Nat.zero_le _, rfl, rfl, hb⟩
          case round =>
            obtain ⟨m, hm, rfl, hr2, hb2⟩ := hrel
            by_cases hmk : m < k
            · obtain ⟨b1, o1, e1, -, c1⟩ := (HL.out.below hb2).cellAt hlt
              obtain ⟨b2, o2, e2, -, c2⟩ := (HL.out.below hb2).cellAt (m := m) (by omega)
              cases e1
              cases e2
              cases hy : (gi l 0 m == gi l 0 k)
              · have H2 := Lib.hid (freshB_yes hy)
                go_wp2
                go_quiet (fail)
                go_wp2
                go_roundw
                case rel => exact ⟨m + 1, by omega, by go_num, by unfold Hid; rw [hr2.out, H2.out], below_drewN hb2 _⟩
                case measure => simp [intOf]; omega
              · have H2 := Lib.hid (goodB_no2 hlt (by rw [hr2.out, freshB_no hmk hy]))
                go_wp2
                go_quiet (fail)
                go_wp2
                go_ret
                exact ⟨ret_bool (by rw [H0.out, hr.out, H2.out]), below_drewN hb2 _⟩
            · obtain rfl : m = k := by omega
              have H2 := Lib.hid (goodB_yes (n := l.length) HX.out (by rw [hr2.out, freshB_end]))
              go_wp2
              go_roundw
              case rel => exact ⟨m + 1, by omega, by go_num, by unfold Hid; rw [hr.out, H2.out], hb2⟩
              case measure => simp [intOf]; omega
      · obtain rfl : k = l.length := by omega
        have H1 := Lib.hid (goodB_end (l := l) (n := l.length))
        go_wp2
        go_ret
        exact ⟨ret_bool (by rw [H0.out, hr.out, H1.out]), hb⟩
  · have H0 : Hid (ordB l n = false) := by show ordB l n = _; unfold ordB; rw [decide_eq_false hl, Bool.false_and]
    have t1 : ((l.length : Int) != (n : Int)) = true := by simp; omega
    clear hl
    go_enter Try.func35, Try.ntmps35
    go_wp2
    go_ret
    exact ⟨ret_bool H0.out.symm, by (repeat' (first | exact Below.refl _ _ | assumption | refine below_new ?_ _ | refine below_draw ?_ | refine below_tail (by assumption) ?_ | refine below_set ?_ (by first | omega | (simp <;> omega)) _))⟩
theorem rOrder_to {v : Value} {l : List Int} {n : Nat} {t : Bool} {w : World} (h : IntsAt w v l) (hn : n ≤ 5) (ht : ordB l n = t) :
    Gives Try.prog 35 #[v, .int .i64 n] w (.bool t) := ht ▸ rOrder_is v l n w h hn

set_option maxHeartbeats 400000 in
theorem rvalidate_calls (v : Value) (L : List (List Int)) (w : World) (h : TableAt w v L) :
    Gives Try.prog 13 #[v] w (.int .i64 (vE L)) := by
  have HT := Lib.hid h
  obtain ⟨a, cap, rfl, hlc, hcm, -⟩ := h
  unfold Gives
  by_cases h1 : 1 ≤ L.length ∧ L.length ≤ 5
  · obtain ⟨h1, h5⟩ := h1
    have t1 : (decide ((1 : Int) ≤ (L.length : Int)) && decide ((L.length : Int) ≤ 5)) = true := by simp; omega
    have HT1 := Lib.hid t1
    clear t1
    go_enter Try.func13, Try.ntmps13
    go_wp2_with (go_at_call 30; refine (within_to HT1.out).use ?_)
    go_loopw [3] (fun i wr => ∃ k : Nat, k ≤ L.length ∧ i = .int .i64 k ∧ Hid (restB L 0 = restB L k) ∧ Below w.heap.size w wr) (fun i _ => L.length - (intOf i).toNat)
    case atStart => exact ⟨0, Nat.zero_le _, rfl, rfl, by (repeat' (first | exact Below.refl _ _ | assumption | refine below_new ?_ _ | refine below_draw ?_ | refine below_tail (by assumption) ?_ | refine below_set ?_ (by first | omega | (simp <;> omega)) _))⟩
    case round =>
      obtain ⟨k, hk, rfl, hr, hb⟩ := hrel
      by_cases hlt : k < L.length
      · obtain ⟨b, o, u, rfl, hB, hcell0, hu⟩ := (HT.out.below hb).row hlt
        have HU := Lib.hid hu
        obtain ⟨ua, uc, rfl, -⟩ := hu
        cases hx : ordB (gi L [] k) L.length
        · have H1 := Lib.hid (restB_no hlt hx)
          have HX := Lib.hid hx
          clear hx
          have H2 := Lib.hid (vE_rest h1 h5 (by rw [hr.out, H1.out] : restB L 0 = false))
          go_wp2_with (go_at_call 35; refine (rOrder_to HU.out h5 HX.out).use ?_; intro w1 hb1 hz1 hc1 hf1; clear hc1 hf1)
          go_ret
          exact ⟨ret_int H2.out.symm, by (repeat' (first | exact Below.refl _ _ | assumption | refine below_new ?_ _ | refine below_draw ?_ | refine below_tail (by assumption) ?_ | refine below_set ?_ (by first | omega | (simp <;> omega)) _))⟩
        · have H1 := Lib.hid (restB_yes hx)
          have HX := Lib.hid hx
          clear hx
          go_wp2_with (go_at_call 35; refine (rOrder_to HU.out h5 HX.out).use ?_; intro w1 hb1 hz1 hc1 hf1; clear hc1 hf1)
          go_roundw
          case rel => exact ⟨k + 1, by omega, by go_num, by unfold Hid; rw [hr.out, H1.out], by (repeat' (first | exact Below.refl _ _ | assumption | refine below_new ?_ _ | refine below_draw ?_ | refine below_tail (by assumption) ?_ | refine below_set ?_ (by first | omega | (simp <;> omega)) _))⟩
          case measure => simp [intOf]; omega
      · obtain rfl : k = L.length := by omega
        have H2 := Lib.hid (vE_rest h1 h5 (by rw [hr.out, restB_end] : restB L 0 = true))
        go_wp2
        go_ret
        exact ⟨ret_int H2.out.symm, hb⟩
  · have t1 : (decide ((1 : Int) ≤ (L.length : Int)) && decide ((L.length : Int) ≤ 5)) = false := by simp; omega
    have HT1 := Lib.hid t1
    clear t1
    have H : Hid (vE L = 1) := by
      show vE L = 1
      by_cases h2 : L.length < 1
      · exact vE_lo h2
      · exact vE_hi (by omega)
    clear h1
    go_enter Try.func13, Try.ntmps13
    go_wp2_with (go_at_call 30; refine (within_to HT1.out).use ?_)
    go_ret
    exact ⟨ret_int H.out.symm, by (repeat' (first | exact Below.refl _ _ | assumption | refine below_new ?_ _ | refine below_draw ?_ | refine below_tail (by assumption) ?_ | refine below_set ?_ (by first | omega | (simp <;> omega)) _))⟩

theorem validate_is {v : Value} {L : List (List Int)} {e : Int} {w : World} (h : TableAt w v L) (he : vE L = e) : Gives Try.prog 12 #[v] w (.int .i64 e) := he ▸ validate_calls v L w h
theorem rvalidate_is {v : Value} {L : List (List Int)} {e : Int} {w : World} (h : TableAt w v L) (he : vE L = e) : Gives Try.prog 13 #[v] w (.int .i64 e) := he ▸ rvalidate_calls v L w h

set_option maxHeartbeats 400000 in
theorem many_is {v : Value} {l : List Int} {t : Bool} {w : World} (h : IntsAt w v l) (ht : decide (40 < (l.length : Int)) = t) :
    Same Try.prog 22 #[v] w (.bool t) := by
  obtain ⟨a, cap, rfl, -⟩ := h
  have H := Lib.hid ht
  clear ht
  unfold Same
  go_enter Try.func22, Try.ntmps22
  go_wp2
  go_ret
  exact ⟨ret_bool H.out, rfl⟩
/-- A list is long, from the k-th on, or there are many. -/
def longB (L : List (List Int)) (k : Nat) : Bool := decide (∃ i, i < L.length ∧ k ≤ i ∧ 40 < (gi L [] i).length) || decide (40 < (L.length : Int))
theorem longB_yes {L : List (List Int)} {k : Nat} (hk : k < L.length) (h : decide (40 < ((gi L [] k).length : Int)) = true) : longB L k = true := by
  rw [decide_eq_true_iff] at h
  unfold longB
  rw [decide_eq_true (show ∃ i, i < L.length ∧ k ≤ i ∧ 40 < (gi L [] i).length from ⟨k, hk, Nat.le_refl _, by omega⟩)]; rfl
theorem longB_no {L : List (List Int)} {k : Nat} (h : decide (40 < ((gi L [] k).length : Int)) = false) : longB L k = longB L (k + 1) := by
  rw [decide_eq_false_iff_not] at h
  unfold longB
  congr 1
  rw [decide_eq_decide]
  refine ⟨fun ⟨i, h1, h2, h3⟩ => ⟨i, h1, ?_, h3⟩, fun ⟨i, h1, h2, h3⟩ => ⟨i, h1, by omega, h3⟩⟩
  have : i ≠ k := fun e => by subst e; omega
  omega
theorem longB_end {L : List (List Int)} : longB L L.length = decide (40 < (L.length : Int)) := by
  unfold longB
  rw [decide_eq_false (fun ⟨i, h1, h2, _⟩ => by omega : ¬ ∃ i, i < L.length ∧ L.length ≤ i ∧ 40 < (gi L [] i).length), Bool.false_or]
set_option maxHeartbeats 400000 in
theorem long_is {v : Value} {L : List (List Int)} {t : Bool} {w : World} (h : TableAt w v L) (ht : longB L 0 = t) :
    Same Try.prog 8 #[v] w (.bool t) := by
  have HT := Lib.hid h
  have H := Lib.hid ht
  clear ht
  obtain ⟨a, cap, rfl, hlc, hcm, -⟩ := h
  unfold Same
  go_enter Try.func8, Try.ntmps8
  go_wp2
  go_loop [3] (fun i => ∃ k : Nat, k ≤ L.length ∧ i = .int .i64 k ∧ Hid (longB L 0 = longB L k)) (fun i => L.length - (intOf i).toNat)
  case atStart => exact ⟨0, Nat.zero_le _, rfl, rfl⟩
  case round =>
    obtain ⟨k, hk, rfl, hr⟩ := hrel
    by_cases hlt : k < L.length
    · obtain ⟨b, o, u, rfl, hB, hcell, hu⟩ := HT.out.row hlt
      have HU := Lib.hid hu
      obtain ⟨ua, uc, rfl, -⟩ := hu
      cases hx : decide (40 < ((gi L [] k).length : Int))
      · have H1 := Lib.hid (longB_no hx)
        have HX := Lib.hid hx
        clear hx
        go_wp2_with (go_at_call 22; refine (many_is HU.out HX.out).use ?_)
        go_round
        case rel => exact ⟨k + 1, by omega, by go_num, by unfold Hid; rw [hr.out, H1.out]⟩
        case measure => simp [intOf]; omega
      · have H1 := Lib.hid (longB_yes hlt hx)
        have HX := Lib.hid hx
        clear hx
        go_wp2_with (go_at_call 22; refine (many_is HU.out HX.out).use ?_)
        go_ret
        exact ⟨ret_bool (by rw [← H.out, hr.out, H1.out]), rfl⟩
    · obtain rfl : k = L.length := by omega
      have H1 := Lib.hid (longB_end (L := L))
      go_wp2
      go_ret
      exact ⟨ret_bool (by rw [← H.out, hr.out, H1.out]), rfl⟩
end Go.Proofs.Ytpbkkekdjkmpmaa
