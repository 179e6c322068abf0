/- For all lists the law SwapFirst returns true. Conditions: the lists lie in memory as said. -/
import Derived.Test.YtpbkkekdjkmpmaaSwColl
namespace Go.Proofs.Ytpbkkekdjkmpmaa
open Go.RowKit

/-- At first each owner points to the plot that he likes best. -/
theorem pt_first {L : List (List Int)} (hv : vB L = true) {i : Nat} (hi : i < L.length) : gi (gi L [] i) 0 0 = (ptN L (lfN L 0) i : Int) := by
  obtain ⟨m, h1, h2, h3, h4, h5, h6⟩ := pt_spec hv hi (anyL_iff.2 ⟨i, hi, (rfl : lfN L 0 i = true)⟩)
  by_cases h0 : m = 0
  · subst h0; exact h3
  · have := h6 0 (by omega)
    exact absurd this (by simp [lfN, lfR])
theorem nrN_pos {L : List (List Int)} (hv : vB L = true) : 0 < nrN L := (nrN_iff hv).2 (anyL_iff.2 ⟨0, by have := (vB_len hv).1; omega, rfl⟩)
theorem own_first {L : List (List Int)} (hv : vB L = true) {i : Nat} (hi : i < L.length) (hr : rdN L i = 0) : (ownN L i : Int) = gi (gi L [] i) 0 0 := by
  rw [pt_first hv hi]
  unfold ownN ownR
  rw [show rdR (ptN L) L.length i = 0 from hr]; rfl
theorem own_self {L : List (List Int)} (hv : vB L = true) {i : Nat} (hi : i < L.length) (ht : gi (gi L [] i) 0 0 = i) : (ownN L i : Int) = i := by
  have hf : ptN L (lfN L 0) i = i := by have := pt_first hv hi; omega
  obtain ⟨h1, h2⟩ := round_ok (points_of hv) ((nrN_iff hv).1 (nrN_pos hv))
  have hr : rdN L i = 0 := (goes_iff (points_of hv) hi ((nrN_iff hv).1 (nrN_pos hv))).1 ((inC_iff h1 h2 hi).2 ⟨rfl, 1, Nat.le_refl _, hf⟩)
  rw [own_first hv hi hr, ht]
theorem own_cycle {L : List (List Int)} (hv : vB L = true) {c : List Nat} (hc : c ∈ cyN L 0) {o : Nat} (ho : o ∈ c) : o < L.length ∧ (ownN L o : Int) = gi (gi L [] o) 0 0 := by
  have hol := (round_cyc hv (nrN_pos hv) hc).2.1 o ho
  refine ⟨hol, own_first hv hol ?_⟩
  have := round_goes hv (nrN_pos hv) hol
  rw [show (cyN L 0).flatten.contains o = true by rw [List.contains_iff_mem, List.mem_flatten]; exact ⟨c, hc, ho⟩] at this
  exact of_decide_eq_true this.symm
theorem tradeL_get {L : List (List Int)} {i : Nat} (hi : i < L.length) : gi (tradeL L) 0 i = (ownN L i : Int) := by simp [tradeL, gi, hi]
theorem tradeL_length (L : List (List Int)) : (tradeL L).length = L.length := by simp [tradeL]
theorem topL_get {L : List (List Int)} {i : Nat} (hi : i < L.length) : gi (topL L L.length) 0 i = gi (gi L [] i) 0 0 := by simp [topL, gi, hi]
theorem Top_is {v : Value} {L : List (List Int)} {l : List Int} {e : Int} {w : World} (h : TableAt w v L) (hl : topR L = l) (he : vE L = e) :
    GivesIE Try.prog 18 #[v] w l e := hl ▸ he ▸ Top_calls v L w h
theorem Rounds_is {v : Value} {L : List (List Int)} {l : List (List (List Int))} {e : Int} {w : World} (h : TableAt w v L) (hl : roundsR L = l) (he : vE L = e) :
    GivesRE Try.prog 14 #[v] w l e := hl ▸ he ▸ Rounds_calls v L w h
theorem GivesRE.calls {P : Program} {f : FuncId} {args : Array Value} {w : World} {l : List (List (List Int))} {e : Int} (h : GivesRE P f args w l e) : Calls P f args w fun x w' => ∃ v, x = .returned (.tuple #[v, .int .i64 e]) ∧ RoundsAt w' v l ∧ Below w.heap.size w w' := h

set_option maxHeartbeats 4000000 in
set_option maxRecDepth 100000 in
theorem swapFirst_calls (v : Value) (L : List (List Int)) (w : World) (h : TableAt w v L) :
    Gives Try.prog 5 #[v] w (.bool true) := by
  have HP := Lib.hid h
  obtain ⟨sa, cap, rfl, hlc, hcm, -⟩ := h
  unfold Gives
  obtain ⟨lg, hlg⟩ : ∃ t, longB L 0 = t := ⟨_, rfl⟩
  have HLO := Lib.hid hlg
  clear hlg
  cases lg
  · obtain ⟨e, he⟩ : ∃ t, vE L = t := ⟨_, rfl⟩
    have HE := Lib.hid he
    obtain ⟨lo, hlo⟩ : ∃ l, tradeR L = l := ⟨_, rfl⟩
    obtain ⟨lr, hlr⟩ : ∃ l, roundsR L = l := ⟨_, rfl⟩
    obtain ⟨lt, hlt⟩ : ∃ l, topR L = l := ⟨_, rfl⟩
    have HO := Lib.hid hlo
    have HR := Lib.hid hlr
    have HT := Lib.hid hlt
    by_cases hz : e = 0
    · subst hz
      have hv := vE_0 he
      have hlo' : lo = tradeL L := by rw [← hlo]; exact if_pos he
      have hlr' : lr = rndK L (nrN L) := by rw [← hlr]; exact if_pos he
      have hlt' : lt = topL L L.length := by rw [← hlt]; exact if_pos he
      have HV := Lib.hid hv
      have HOG : Hid (∀ i, i < L.length → gi lo 0 i = (ownN L i : Int)) := by show ∀ i, _ → _; rw [hlo']; exact fun i hi => tradeL_get hi
      have HTG : Hid (∀ i, i < L.length → gi lt 0 i = gi (gi L [] i) 0 0) := by show ∀ i, _ → _; rw [hlt']; exact fun i hi => topL_get hi
      have hol : Hid (lo.length = L.length) := by show _ = _; rw [hlo', tradeL_length]
      have htl : Hid (lt.length = L.length) := by show _ = _; rw [hlt', topL_length]
      have hrl : 0 < lr.length := by rw [hlr', rndK_length]; exact nrN_pos hv
      have hr5 : lr.length ≤ 5 := by rw [hlr', rndK_length]; exact Nat.le_trans (nrN_le L) (vB_len hv).2
      have HR0 : Hid (gi lr [] 0 = (cyN L 0).map numsL) := by
        show _ = _
        rw [hlr']
        simp [rndK, gi, nrN_pos hv]
      have h5 := (vB_len hv).2
      have h1L := (vB_len hv).1
      have e0 : ((lr.length : Int) == 0) = false := by simp; intro e; rw [e] at hrl; exact absurd hrl (by decide)
      have e1 : ((lo.length : Int) != (L.length : Int)) = false := by rw [hol.out]; simp
      have e2 : ((lt.length : Int) != (L.length : Int)) = false := by rw [htl.out]; simp
      have hneL : L ≠ [] := fun e => by rw [e] at h1L; exact absurd h1L (by decide)
      have hner : lr ≠ [] := fun e => by rw [e] at hrl; exact absurd hrl (by decide)
      clear he hlo hlr hlt hv hlo' hlr' hlt'
      go_enter Try.func5, Try.ntmps5
      go_wp2_with (first | (go_at_call 8; (with_reducible refine (long_is (HP.out.below (by (repeat' (first | exact Below.refl _ _ | assumption | refine below_new ?_ _ | refine below_draw ?_ | refine below_tail (by assumption) ?_ | refine below_set ?_ (by first | omega | (simp <;> omega)) _)))) HLO.out).use ?_)) | (go_at_call 9; (with_reducible refine (known_calls _).use ?_); intro wk hbk hzk hck hfk; clear hck hfk) | (go_at_call 16; (with_reducible refine (Trade_is (HP.out.below (by (repeat' (first | exact Below.refl _ _ | assumption | refine below_new ?_ _ | refine below_draw ?_ | refine below_tail (by assumption) ?_ | refine below_set ?_ (by first | omega | (simp <;> omega)) _)))) HO.out HE.out).calls.mono ?_); rintro e w1 ⟨v1, rfl, hi1, hb1⟩; have HI1 := Lib.hid hi1; obtain ⟨v1a, v1c, rfl, -⟩ := hi1) | (go_at_call 14; (with_reducible refine (Rounds_is (HP.out.below (by (repeat' (first | exact Below.refl _ _ | assumption | refine below_new ?_ _ | refine below_draw ?_ | refine below_tail (by assumption) ?_ | refine below_set ?_ (by first | omega | (simp <;> omega)) _)))) HR.out HE.out).calls.mono ?_); rintro e w2 ⟨v2, rfl, hi2, hb2⟩; have HI2 := Lib.hid hi2; obtain ⟨v2a, v2c, rfl, -⟩ := hi2) | (go_at_call 18; (with_reducible refine (Top_is (HP.out.below (by (repeat' (first | exact Below.refl _ _ | assumption | refine below_new ?_ _ | refine below_draw ?_ | refine below_tail (by assumption) ?_ | refine below_set ?_ (by first | omega | (simp <;> omega)) _)))) HT.out HE.out).calls.mono ?_); rintro e w3 ⟨v3, rfl, hi3, hb3⟩; have HI3 := Lib.hid hi3; obtain ⟨v3a, v3c, rfl, -⟩ := hi3))
      have HIO : Hid (IntsAt w3 (.slice v1a lo.length v1c) lo) := HI1.out.below (by (repeat' (first | exact Below.refl _ _ | assumption | refine below_new ?_ _ | refine below_draw ?_ | refine below_tail (by assumption) ?_ | refine below_set ?_ (by first | omega | (simp <;> omega)) _)))
      have HRR : Hid (RoundsAt w3 (.slice v2a lr.length v2c) lr) := HI2.out.below (by (repeat' (first | exact Below.refl _ _ | assumption | refine below_new ?_ _ | refine below_draw ?_ | refine below_tail (by assumption) ?_ | refine below_set ?_ (by first | omega | (simp <;> omega)) _)))
      have hbw3 : Below w.heap.size w w3 := by (repeat' (first | exact Below.refl _ _ | assumption | refine below_new ?_ _ | refine below_draw ?_ | refine below_tail (by assumption) ?_ | refine below_set ?_ (by first | omega | (simp <;> omega)) _))
      clear HI1 HI2 hb1 hb2 hb3
      go_loop [9] (fun i => ∃ k : Nat, k ≤ L.length ∧ i = .int .i64 k) (fun i => L.length - (intOf i).toNat)
      case atStart => exact ⟨0, Nat.zero_le _, rfl⟩
      case round =>
        obtain ⟨k, hk, rfl⟩ := hrel
        by_cases hlk : k < L.length
        · obtain ⟨b1, o1, rfl, hB1, c1⟩ := HIO.out.cellAt (m := k) (by rw [hol.out]; exact hlk)
          obtain ⟨b3, o3, rfl, hB3, c3⟩ := HI3.out.cellAt (m := k) (by rw [htl.out]; exact hlk)
          have hko : k < lo.length := by rw [hol.out]; exact hlk
          have hkt : k < lt.length := by rw [htl.out]; exact hlk
          rw [HOG.out k hlk] at c1
          rw [HTG.out k hlk] at c3
          obtain ⟨x, hx⟩ : ∃ x, gi (gi L [] k) 0 0 = x := ⟨_, rfl⟩
          obtain ⟨y, hy⟩ : ∃ y, ownN L k = y := ⟨_, rfl⟩
          have hself := own_self HV.out hlk
          rw [hx] at c3 hself
          rw [hy] at c1 hself
          clear hx hy
          by_cases hxk : x = (k : Int)
          · have t1 : (x == (k : Int)) = true := by simpa using hxk
            have t2 : ((y : Int) != (k : Int)) = false := by rw [hself hxk]; simp
            clear hxk hself
            go_wp2
            go_round
            case rel => exact ⟨k + 1, by omega, by go_num⟩
            case measure => simp [intOf]; omega
          · have t1 : (x == (k : Int)) = false := by simpa using hxk
            clear hxk hself
            go_wp2
            go_round
            case rel => exact ⟨k + 1, by omega, by go_num⟩
            case measure => simp [intOf]; omega
        · obtain rfl : k = L.length := by omega
          obtain ⟨cs, hcs⟩ : ∃ cs, cyN L 0 = cs := ⟨_, rfl⟩
          have HCY : Hid (∀ c ∈ cs, ∀ o ∈ c, o < L.length ∧ (ownN L o : Int) = gi (gi L [] o) 0 0) := by
            show ∀ c ∈ cs, _
            rw [← hcs]
            exact fun c hc o ho => own_cycle HV.out hc ho
          rw [hcs] at HR0
          clear hcs hlk hk
          obtain ⟨b4, o4, u4, rfl, hB4, c4, hu4⟩ := HRR.out.row hrl
          rw [HR0.out] at hu4
          have HU4 := Lib.hid hu4
          obtain ⟨u4a, u4c, rfl, hul4, hum4, -⟩ := hu4
          rw [List.length_map] at hul4 c4 HU4
          rw [Nat.add_zero] at c4
          go_wp2
          go_loopw [10] (fun i wr => ∃ q : Nat, q ≤ cs.length ∧ i = .int .i64 q ∧ Below w3.heap.size w3 wr) (fun i _ => cs.length - (intOf i).toNat)
          case atStart => exact ⟨0, Nat.zero_le _, rfl, Below.refl _ _⟩
          case round =>
            obtain ⟨q, hq, rfl, hbq⟩ := hrel
            have c4q := (hbq.cell (p := ⟨b4, o4, none⟩) hB4).trans c4
            by_cases hlq : q < cs.length
            · obtain ⟨c, hc⟩ : ∃ c, cs[q] = c := ⟨_, rfl⟩
              have HCC := Lib.hid (HCY.out c (by rw [← hc]; exact List.getElem_mem _))
              have hgq : gi (cs.map numsL) [] q = numsL c := by rw [gi_lt (by rw [List.length_map]; exact hlq), List.getElem_map, hc]
              have HGQ := Lib.hid hgq
              clear hgq hc
              obtain ⟨wq, hwq⟩ : ∃ x, x = wr := ⟨_, rfl⟩
              subst hwq
              go_wp2
              go_loopw [11] (fun i wr => ∃ y : Nat, y ≤ c.length ∧ i = .int .i64 y ∧ Below w3.heap.size w3 wr) (fun i _ => c.length - (intOf i).toNat)
              case atStart => exact ⟨0, Nat.zero_le _, rfl, hbq⟩
              case round =>
                obtain ⟨y, hy, rfl, hby⟩ := hrel
                have c4y := (hby.cell (p := ⟨b4, o4, none⟩) hB4).trans c4
                obtain ⟨b5, o5, u5, rfl, hB5, c5, hu5⟩ := (HU4.out.below hby).row (m := q) (by rw [List.length_map]; exact hlq)
                rw [HGQ.out] at hu5
                have HU5 := Lib.hid hu5
                obtain ⟨u5a, u5c, rfl, hul5, hum5, -⟩ := hu5
                rw [numsL_length] at hul5 c5 HU5
                by_cases hly : y < c.length
                · obtain ⟨b6, o6, rfl, hB6, c6⟩ := HU5.out.cellAt (m := y) (by rw [numsL_length]; exact hly)
                  obtain ⟨x, hx⟩ : ∃ x, c[y] = x := ⟨_, rfl⟩
                  rw [numsL_get hly, hx] at c6
                  obtain ⟨hxl, hxo⟩ := HCC.out x (by rw [← hx]; exact List.getElem_mem _)
                  obtain ⟨b7, o7, rfl, hB7, c7⟩ := (HIO.out.below hby).cellAt (m := x) (by rw [hol.out]; exact hxl)
                  obtain ⟨b8, o8, rfl, hB8, c8⟩ := (HI3.out.below hby).cellAt (m := x) (by rw [htl.out]; exact hxl)
                  have hxlo : x < lo.length := by rw [hol.out]; exact hxl
                  have hxlt : x < lt.length := by rw [htl.out]; exact hxl
                  rw [HOG.out x hxl, hxo] at c7
                  rw [HTG.out x hxl] at c8
                  obtain ⟨z, hz⟩ : ∃ z, gi (gi L [] x) 0 0 = z := ⟨_, rfl⟩
                  rw [hz] at c7 c8
                  have t1 : (z != z) = false := by simp
                  have t2 : decide ((x : Int) < 0) = false := by simp
                  have t3 : decide (lo.length ≤ x) = false := by simp; omega
                  have g7 := fun d os => cell_regrown c7 d os
                  have g8 := fun d os => cell_regrown c8 d os
                  clear hx hxo hz c7 c8
                  go_wp2
                  refine region_q mixed (by kernel_rfl) ?_
                  repeat (go_big_quiet_step (fail))
                  refine wpQuiet_nil ?_
                  intro wq' hbq'
                  clear g7 g8
                  go_wp2
                  go_roundw
                  case rel => exact ⟨y + 1, by omega, by go_num, hby.trans (hbq'.mono hby.size)⟩
                  case measure => simp [intOf]; omega
                · obtain rfl : y = c.length := by omega
                  go_wp2
                  go_roundw
                  case rel => exact ⟨q + 1, by omega, by go_num, hby⟩
                  case measure => simp [intOf]; omega
            · obtain rfl : q = cs.length := by omega
              go_wp2_with (go_at_call 9; (with_reducible refine (known_calls _).use ?_); intro wk hbk hzk hck hfk; clear hck hfk)
              go_ret
              exact ⟨rfl, by (repeat' (first | exact Below.refl _ _ | assumption | refine below_new ?_ _ | refine below_draw ?_ | refine below_tail (by assumption) ?_ | refine below_set ?_ (by first | omega | (simp <;> omega)) _))⟩
    · have h1 : (e == 0) = false := by simpa using hz
      have h2 : (e != 0) = true := by simpa using hz
      have h3 : (e == e) = true := by simp
      clear he hlo hlr hlt hz
      go_enter Try.func5, Try.ntmps5
      go_wp2_with (first | (go_at_call 8; (with_reducible refine (long_is (HP.out.below (by (repeat' (first | exact Below.refl _ _ | assumption | refine below_new ?_ _ | refine below_draw ?_ | refine below_tail (by assumption) ?_ | refine below_set ?_ (by first | omega | (simp <;> omega)) _)))) HLO.out).use ?_)) | (go_at_call 9; (with_reducible refine (known_calls _).use ?_); intro wk hbk hzk hck hfk; clear hck hfk) | (go_at_call 16; (with_reducible refine (Trade_is (HP.out.below (by (repeat' (first | exact Below.refl _ _ | assumption | refine below_new ?_ _ | refine below_draw ?_ | refine below_tail (by assumption) ?_ | refine below_set ?_ (by first | omega | (simp <;> omega)) _)))) HO.out HE.out).calls.mono ?_); rintro e w1 ⟨v1, rfl, hi1, hb1⟩; have HI1 := Lib.hid hi1; obtain ⟨v1a, v1c, rfl, -⟩ := hi1) | (go_at_call 14; (with_reducible refine (Rounds_is (HP.out.below (by (repeat' (first | exact Below.refl _ _ | assumption | refine below_new ?_ _ | refine below_draw ?_ | refine below_tail (by assumption) ?_ | refine below_set ?_ (by first | omega | (simp <;> omega)) _)))) HR.out HE.out).calls.mono ?_); rintro e w2 ⟨v2, rfl, hi2, hb2⟩; have HI2 := Lib.hid hi2; obtain ⟨v2a, v2c, rfl, -⟩ := hi2) | (go_at_call 18; (with_reducible refine (Top_is (HP.out.below (by (repeat' (first | exact Below.refl _ _ | assumption | refine below_new ?_ _ | refine below_draw ?_ | refine below_tail (by assumption) ?_ | refine below_set ?_ (by first | omega | (simp <;> omega)) _)))) HT.out HE.out).calls.mono ?_); rintro e w3 ⟨v3, rfl, hi3, hb3⟩; have HI3 := Lib.hid hi3; obtain ⟨v3a, v3c, rfl, -⟩ := hi3))
      go_ret
      exact ⟨rfl, by (repeat' (first | exact Below.refl _ _ | assumption | refine below_new ?_ _ | refine below_draw ?_ | refine below_tail (by assumption) ?_ | refine below_set ?_ (by first | omega | (simp <;> omega)) _))⟩
  · go_enter Try.func5, Try.ntmps5
    go_wp2_with (first | (go_at_call 8; (with_reducible refine (long_is (HP.out.below (by (repeat' (first | exact Below.refl _ _ | assumption | refine below_new ?_ _ | refine below_draw ?_ | refine below_tail (by assumption) ?_ | refine below_set ?_ (by first | omega | (simp <;> omega)) _)))) HLO.out).use ?_)) | (go_at_call 9; (with_reducible refine (known_calls _).use ?_); intro wk hbk hzk hck hfk; clear hck hfk) | (go_at_call 16; (with_reducible refine (Trade_is (HP.out.below (by (repeat' (first | exact Below.refl _ _ | assumption | refine below_new ?_ _ | refine below_draw ?_ | refine below_tail (by assumption) ?_ | refine below_set ?_ (by first | omega | (simp <;> omega)) _)))) HO.out HE.out).calls.mono ?_); rintro e w1 ⟨v1, rfl, hi1, hb1⟩; have HI1 := Lib.hid hi1; obtain ⟨v1a, v1c, rfl, -⟩ := hi1) | (go_at_call 14; (with_reducible refine (Rounds_is (HP.out.below (by (repeat' (first | exact Below.refl _ _ | assumption | refine below_new ?_ _ | refine below_draw ?_ | refine below_tail (by assumption) ?_ | refine below_set ?_ (by first | omega | (simp <;> omega)) _)))) HR.out HE.out).calls.mono ?_); rintro e w2 ⟨v2, rfl, hi2, hb2⟩; have HI2 := Lib.hid hi2; obtain ⟨v2a, v2c, rfl, -⟩ := hi2) | (go_at_call 18; (with_reducible refine (Top_is (HP.out.below (by (repeat' (first | exact Below.refl _ _ | assumption | refine below_new ?_ _ | refine below_draw ?_ | refine below_tail (by assumption) ?_ | refine below_set ?_ (by first | omega | (simp <;> omega)) _)))) HT.out HE.out).calls.mono ?_); rintro e w3 ⟨v3, rfl, hi3, hb3⟩; have HI3 := Lib.hid hi3; obtain ⟨v3a, v3c, rfl, -⟩ := hi3))
    go_ret
    exact ⟨rfl, by (repeat' (first | exact Below.refl _ _ | assumption | refine below_new ?_ _ | refine below_draw ?_ | refine below_tail (by assumption) ?_ | refine below_set ?_ (by first | omega | (simp <;> omega)) _))⟩
end Go.Proofs.Ytpbkkekdjkmpmaa
