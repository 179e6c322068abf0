/- What Chain gives, in package term and in its reference: a list, and an error. Conditions: a calendar and a list lie in memory as said. -/
import Derived.Test.YtnhohnnoffhkhaaTermEx4
import Derived.Test.YtnhohnnoffhkhaaOwn2
namespace Go.Proofs.Ytnhohnnoffhkhaa
open Go.RowKit

/-- The ends of terms, one after another; none if one is no day. -/
def chainF (c : Cal) : Int → List Int → Option (List Int)
  | _, [] => some []
  | d, n :: ns => if 10000 < endsF c d n then none else (chainF c (endsF c d n) ns).map (endsF c d n :: ·)
def chainO (c : Cal) (d : Int) (ts : List Int) : Option (List Int) := if askedF c [d] ts = 0 then (if 10 < ts.length then none else chainF c d ts) else none
def chainL (c : Cal) (d : Int) (ts : List Int) : List Int := (chainO c d ts).getD []
def chainE (c : Cal) (d : Int) (ts : List Int) : Int := if askedF c [d] ts = 0 then (if 10 < ts.length then 3 else if (chainF c d ts).isSome then 0 else 10) else askedF c [d] ts
theorem asked_terms {c : Cal} {d : Int} {ts : List Int} (h : askedF c [d] ts = 0) : validF c = 0 ∧ 0 ≤ d ∧ d ≤ 10000 ∧ ∀ i, i < ts.length → 0 ≤ gi ts 0 i ∧ gi ts 0 i ≤ 400 := by
  obtain ⟨h1, h2, h3⟩ := asked_all h
  have ha := daysF_all h2 d (by simp)
  refine ⟨h1, ha.1, ha.2, fun i hi => termsF_all h3 _ ?_⟩
  unfold gi
  rw [List.getElem?_eq_getElem hi]
  exact List.getElem_mem hi
theorem gi_drop {ts : List Int} {k : Nat} (h : k < ts.length) : ts.drop k = gi ts 0 k :: ts.drop (k + 1) := by
  unfold gi
  rw [List.drop_eq_getElem_cons h, List.getElem?_eq_getElem h]; rfl
/-- What is still to be done behind k terms. -/
theorem chain_step {c : Cal} {d e : Int} {ts l : List Int} {k : Nat} (hk : k < ts.length) (h : chainF c d ts = (chainF c e (ts.drop k)).map (l ++ ·)) :
    (10000 < endsF c e (gi ts 0 k) → chainF c d ts = none) ∧ (¬ 10000 < endsF c e (gi ts 0 k) → chainF c d ts = (chainF c (endsF c e (gi ts 0 k)) (ts.drop (k + 1))).map ((l ++ [endsF c e (gi ts 0 k)]) ++ ·)) := by
  rw [gi_drop hk, chainF] at h
  refine ⟨fun hb => ?_, fun hb => ?_⟩
  · rw [if_pos hb] at h; exact h
  · rw [if_neg hb] at h
    rw [h]
    cases chainF c (endsF c e (gi ts 0 k)) (ts.drop (k + 1)) <;> simp
theorem chain_end {c : Cal} {d e : Int} {ts l : List Int} {k : Nat} (hk : ¬ k < ts.length) (h : chainF c d ts = (chainF c e (ts.drop k)).map (l ++ ·)) : chainF c d ts = some l := by
  rw [List.drop_eq_nil_of_le (by omega), chainF] at h
  simpa using h

set_option maxHeartbeats 2000000 in
set_option maxRecDepth 100000 in
theorem Chain_calls (v tv : Value) (c : Cal) (d : Int) (ts : List Int) (w : World) (h : CalAt w v c) (ht : IntsAt w tv ts) :
    GivesL Try.prog 27 #[v, .int .i64 d, tv] w (chainL c d ts) (chainE c d ts) := by
  obtain ⟨fa, fc, sa, sc, rfl, hf, hs, hfc, hsc, hfl, hsl⟩ := h.cells
  have HCal := Lib.hid h
  clear h hf hs
  unfold GivesL
  have HT := Lib.hid ht
  obtain ⟨ta, tc, rfl, htl, htm, _⟩ := ht
  have HO0 : Hid (chainL c d ts = (chainO c d ts).getD []) := rfl
  have HE0 : Hid (chainE c d ts = if askedF c [d] ts = 0 then (if 10 < ts.length then 3 else if (chainF c d ts).isSome then 0 else 10) else askedF c [d] ts) := rfl
  have HR0 : Hid (chainO c d ts = if askedF c [d] ts = 0 then (if 10 < ts.length then none else chainF c d ts) else none) := rfl
  by_cases hz : askedF c [d] ts = 0
  · have Hz := Lib.hid hz
    have hz1 : (askedF c [d] ts == 0) = true := by simpa using hz
    have hz2 : (askedF c [d] ts != 0) = false := by simpa using hz
    obtain ⟨hv, hd1, hd2, hts⟩ := asked_terms hz
    obtain ⟨hv1, hv2⟩ := valid_first hv
    have HV := Lib.hid hv
    clear hv hz
    by_cases hlen : 10 < ts.length
    · have hl : decide ((10 : Int) < (ts.length : Int)) = true := by simp; omega
      have HL : Hid (chainL c d ts = []) := by unfold Hid; rw [HO0.out, HR0.out, if_pos Hz.out, if_pos hlen]; rfl
      have HE : Hid (chainE c d ts = 3) := by unfold Hid; rw [HE0.out, if_pos Hz.out, if_pos hlen]
      go_enter Try.func27, Try.ntmps27
      go_wp2_with (first | (go_at_call 55; (with_reducible refine (termed_calls _ _ c d ts _ (HCal.out.below (by (repeat' (first | exact Below.refl _ _ | assumption | refine below_new ?_ _ | refine below_draw ?_ | refine below_tail (by assumption) ?_ | refine below_set ?_ (by first | omega | (simp <;> omega)) _)))) (HT.out.below (by (repeat' (first | exact Below.refl _ _ | assumption | refine below_new ?_ _ | refine below_draw ?_ | refine below_tail (by assumption) ?_ | refine below_set ?_ (by first | omega | (simp <;> omega)) _))))).use ?_); intro w1 hb1 hz1 hc1 hf1; (try simp at hz1); have hy1 : w.heap.size < w1.heap.size := (by omega); have hx10 := fun o => hc1 (w.heap.size) o (by first | omega | (simp <;> omega)); clear hc1 hf1))
      go_ret2
      exact ⟨_, by rw [HE.out]; rfl, by rw [HL.out]; exact ints0 _ _ _ (by decide), by (repeat' (first | exact Below.refl _ _ | assumption | refine below_new ?_ _ | refine below_draw ?_ | refine below_tail (by assumption) ?_ | refine below_set ?_ (by first | omega | (simp <;> omega)) _))⟩
    · have hl : decide ((10 : Int) < (ts.length : Int)) = false := by simp; omega
      have HC : Hid (chainO c d ts = chainF c d ts) := by unfold Hid; rw [HR0.out, if_pos Hz.out, if_neg hlen]
      have HE : Hid (chainE c d ts = if (chainF c d ts).isSome then 0 else 10) := by unfold Hid; rw [HE0.out, if_pos Hz.out, if_neg hlen]
      obtain ⟨i0, hi0, hz0, hi1, hi2⟩ := info_parts infoInt
      go_enter Try.func27, Try.ntmps27
      go_wp2_with (first | (go_at_call 55; (with_reducible refine (termed_calls _ _ c d ts _ (HCal.out.below (by (repeat' (first | exact Below.refl _ _ | assumption | refine below_new ?_ _ | refine below_draw ?_ | refine below_tail (by assumption) ?_ | refine below_set ?_ (by first | omega | (simp <;> omega)) _)))) (HT.out.below (by (repeat' (first | exact Below.refl _ _ | assumption | refine below_new ?_ _ | refine below_draw ?_ | refine below_tail (by assumption) ?_ | refine below_set ?_ (by first | omega | (simp <;> omega)) _))))).use ?_); intro w1 hb1 hz1 hc1 hf1; (try simp at hz1); have hy1 : w.heap.size < w1.heap.size := (by omega); have hx10 := fun o => hc1 (w.heap.size) o (by first | omega | (simp <;> omega)); clear hc1 hf1))
      have hw0 : Below w.heap.size w w1 := by (repeat' (first | exact Below.refl _ _ | assumption | refine below_new ?_ _ | refine below_draw ?_ | refine below_tail (by assumption) ?_ | refine below_set ?_ (by first | omega | (simp <;> omega)) _))
      have e0 : w1.cell? ⟨w.heap.size, 0, none⟩ = some (.int .i64 c.first) := by simp [hx10, go_sem]
      have e1 : w1.cell? ⟨w.heap.size, 1, none⟩ = some (.slice fa c.free.length fc) := by simp [hx10, go_sem]
      have e2 : w1.cell? ⟨w.heap.size, 2, none⟩ = some (.slice sa c.still.length sc) := by simp [hx10, go_sem]
      go_loopw [1, 9, 24] (fun dd vv kk wr => ∃ (k : Nat) (e : Int) (l : List Int), k ≤ ts.length ∧ kk = .int .i64 k ∧ dd = .int .i64 e ∧ 0 ≤ e ∧ e ≤ 10000 ∧ l.length = k ∧ wr.ownsRow w1.heap.size 3 1 vv l.length (cells1 l) ∧ Hid (chainF c d ts = (chainF c e (ts.drop k)).map (l ++ ·)) ∧ Below w1.heap.size w1 wr) (fun _ _ kk _ => ts.length - (intOf kk).toNat)
      case atStart => exact ⟨0, d, [], Nat.zero_le _, rfl, rfl, hd1, hd2, rfl, World.ownsRow_nil _ _ _ _, by unfold Hid; simp, Below.refl _ _⟩
      case round =>
        obtain ⟨k, e, l, hk, rfl, rfl, he1, he2, hlk, hown, HI, hb⟩ := hrel
        have hb0 : Below w.heap.size w wr := below_tail hb hw0
        have f0 := (hb.cell (p := ⟨w.heap.size, 0, none⟩) hy1).trans e0
        have f1 := (hb.cell (p := ⟨w.heap.size, 1, none⟩) hy1).trans e1
        have f2 := (hb.cell (p := ⟨w.heap.size, 2, none⟩) hy1).trans e2
        have hy2 : w.heap.size < wr.heap.size := Nat.lt_of_lt_of_le hy1 hb.size
        by_cases hlt : k < ts.length
        · have hg : decide ((k : Int) < (ts.length : Int)) = true := by simpa using hlt
          obtain ⟨ta', tc', e3, _, _, hcell0⟩ := HT.out.below hb0
          simp only [Value.slice.injEq] at e3
          obtain ⟨rfl, _, rfl⟩ := e3
          obtain ⟨tb, tof, rfl, hB, hcell⟩ := hcell0 k hlt
          clear hcell0
          obtain ⟨hn1, hn2⟩ := hts k hlt
          have HS := Lib.hid (chain_step hlt HI.out)
          have hge := (endsF_first HV.out (day := e) (days := gi ts 0 k) he1 hn1 (by omega)).1
          have hle := endsF_le HV.out (day := e) (days := gi ts 0 k) he1 hn1 (by omega)
          by_cases hbad : 10000 < endsF c e (gi ts 0 k)
          · have hg2 : decide (10000 < endsF c e (gi ts 0 k)) = true := by simpa using hbad
            have HN := Lib.hid (HS.out.1 hbad)
            go_wp2_with (go_at_call 56; (with_reducible refine (ends_calls _ c e (gi ts 0 k) _ (HCal.out.below (by (repeat' (first | exact Below.refl _ _ | assumption | refine below_new ?_ _ | refine below_draw ?_ | refine below_tail (by assumption) ?_ | refine below_set ?_ (by first | omega | (simp <;> omega)) _)))) HV.out hv1 hv2 he1 (by omega) hn1 (by omega)).use ?_); intro w3 hb3 hz3 hc3 hf3; have hbw := below_tail hb3 hb; have hown3 := own_below hown hb3)
            go_ret2
            exact ⟨_, by rw [HE.out, HN.out]; rfl, by rw [HO0.out, HC.out, HN.out]; exact ints0 _ _ _ (by decide), by (repeat' (first | exact Below.refl _ _ | assumption | refine below_new ?_ _ | refine below_draw ?_ | refine below_tail (by assumption) ?_ | refine below_set ?_ (by first | omega | (simp <;> omega)) _))⟩
          · have hg2 : decide (10000 < endsF c e (gi ts 0 k)) = false := by simpa using hbad
            have HN := Lib.hid (HS.out.2 hbad)
            go_wp2_with (first | (go_at_call 56; (with_reducible refine (ends_calls _ c e (gi ts 0 k) _ (HCal.out.below (by (repeat' (first | exact Below.refl _ _ | assumption | refine below_new ?_ _ | refine below_draw ?_ | refine below_tail (by assumption) ?_ | refine below_set ?_ (by first | omega | (simp <;> omega)) _)))) HV.out hv1 hv2 he1 (by omega) hn1 (by omega)).use ?_); intro w3 hb3 hz3 hc3 hf3; have hbw := below_tail hb3 hb; have hown3 := own_below hown hb3) | (at_builtin; refine wpList_append_own _ rfl _ _ 22 rfl w1.heap.size 3 i0 (.int .i64 0) 1 8 Try.underlying22 hi0 hz0 hi1 hi2 rfl (by decide) _ _ _ rfl (hown3.alloc _) ⟨w3.heap.size, 0, none⟩ 1 1 (cells1 [endsF c e (gi ts 0 k)]) rfl rfl (app_src _ _ _) (cells1_one _) (by unfold maxLen; omega) (by omega) (by have := hbw.size; simp; omega) ?_; intro v' w4 hown4 hgrow _))
            have hb4 := (hbw.alloc hbw.size _).grown hgrow (by have := hbw.size; simp; omega) (own_block_le hown3)
            go_roundw
            case rel => exact ⟨k + 1, endsF c e (gi ts 0 k), l ++ [endsF c e (gi ts 0 k)], by omega, by go_num, rfl, by omega, by omega, by simp; omega, own_more hown4 rfl, HN.out, hb4⟩
            case measure => simp [intOf]; omega
        · have hg : decide ((k : Int) < (ts.length : Int)) = false := by simpa using hlt
          have HN := Lib.hid (chain_end hlt HI.out)
          go_wp2
          go_ret2
          exact ⟨_, by rw [HE.out, HN.out]; rfl, by rw [HO0.out, HC.out, HN.out]; exact own_ints hown, hb0⟩
  · have Hz := Lib.hid hz
    have hz1 : (askedF c [d] ts == 0) = false := by simpa using hz
    have hz2 : (askedF c [d] ts != 0) = true := by simpa using hz
    clear hz
    have HL : Hid (chainL c d ts = []) := by unfold Hid; rw [HO0.out, HR0.out, if_neg Hz.out]; rfl
    have HE : Hid (chainE c d ts = askedF c [d] ts) := by unfold Hid; rw [HE0.out, if_neg Hz.out]
    go_enter Try.func27, Try.ntmps27
    go_wp2_with (first | (go_at_call 55; (with_reducible refine (termed_calls _ _ c d ts _ (HCal.out.below (by (repeat' (first | exact Below.refl _ _ | assumption | refine below_new ?_ _ | refine below_draw ?_ | refine below_tail (by assumption) ?_ | refine below_set ?_ (by first | omega | (simp <;> omega)) _)))) (HT.out.below (by (repeat' (first | exact Below.refl _ _ | assumption | refine below_new ?_ _ | refine below_draw ?_ | refine below_tail (by assumption) ?_ | refine below_set ?_ (by first | omega | (simp <;> omega)) _))))).use ?_); intro w1 hb1 hz1 hc1 hf1; (try simp at hz1); have hy1 : w.heap.size < w1.heap.size := (by omega); have hx10 := fun o => hc1 (w.heap.size) o (by first | omega | (simp <;> omega)); clear hc1 hf1))
    go_ret2
    exact ⟨_, by rw [HE.out]; rfl, by rw [HL.out]; exact ints0 _ _ _ (by decide), by (repeat' (first | exact Below.refl _ _ | assumption | refine below_new ?_ _ | refine below_draw ?_ | refine below_tail (by assumption) ?_ | refine below_set ?_ (by first | omega | (simp <;> omega)) _))⟩

set_option maxHeartbeats 2000000 in
set_option maxRecDepth 100000 in
theorem rChain_calls (v tv : Value) (c : Cal) (d : Int) (ts : List Int) (w : World) (h : CalAt w v c) (ht : IntsAt w tv ts) :
    GivesL Try.prog 28 #[v, .int .i64 d, tv] w (chainL c d ts) (chainE c d ts) := by
  obtain ⟨fa, fc, sa, sc, rfl, hf, hs, hfc, hsc, hfl, hsl⟩ := h.cells
  have HCal := Lib.hid h
  clear h hf hs
  unfold GivesL
  have HT := Lib.hid ht
  obtain ⟨ta, tc, rfl, htl, htm, _⟩ := ht
  have HO0 : Hid (chainL c d ts = (chainO c d ts).getD []) := rfl
  have HE0 : Hid (chainE c d ts = if askedF c [d] ts = 0 then (if 10 < ts.length then 3 else if (chainF c d ts).isSome then 0 else 10) else askedF c [d] ts) := rfl
  have HR0 : Hid (chainO c d ts = if askedF c [d] ts = 0 then (if 10 < ts.length then none else chainF c d ts) else none) := rfl
  by_cases hz : askedF c [d] ts = 0
  · have Hz := Lib.hid hz
    have hz1 : (askedF c [d] ts == 0) = true := by simpa using hz
    have hz2 : (askedF c [d] ts != 0) = false := by simpa using hz
    obtain ⟨hv, hd1, hd2, hts⟩ := asked_terms hz
    obtain ⟨hv1, hv2⟩ := valid_first hv
    have HV := Lib.hid hv
    clear hv hz
    by_cases hlen : 10 < ts.length
    · have hl : decide ((10 : Int) < (ts.length : Int)) = true := by simp; omega
      have HL : Hid (chainL c d ts = []) := by unfold Hid; rw [HO0.out, HR0.out, if_pos Hz.out, if_pos hlen]; rfl
      have HE : Hid (chainE c d ts = 3) := by unfold Hid; rw [HE0.out, if_pos Hz.out, if_pos hlen]
      go_enter Try.func28, Try.ntmps28
      go_wp2_with (first | (go_at_call 62; (with_reducible refine (asked_calls _ _ _ c [d] ts _ (HCal.out.below (by (repeat' (first | exact Below.refl _ _ | assumption | refine below_new ?_ _ | refine below_draw ?_ | refine below_tail (by assumption) ?_ | refine below_set ?_ (by first | omega | (simp <;> omega)) _)))) (ints1 (by simp)) (HT.out.below (by (repeat' (first | exact Below.refl _ _ | assumption | refine below_new ?_ _ | refine below_draw ?_ | refine below_tail (by assumption) ?_ | refine below_set ?_ (by first | omega | (simp <;> omega)) _))))).use ?_); intro w1 hb1 hz1 hc1 hf1; (try simp at hz1); have hy1 : w.heap.size < w1.heap.size := (by omega); have hx10 := fun o => hc1 (w.heap.size) o (by first | omega | (simp <;> omega)); clear hc1 hf1))
      go_ret2
      exact ⟨_, by rw [HE.out]; rfl, by rw [HL.out]; exact ints0 _ _ _ (by decide), by (repeat' (first | exact Below.refl _ _ | assumption | refine below_new ?_ _ | refine below_draw ?_ | refine below_tail (by assumption) ?_ | refine below_set ?_ (by first | omega | (simp <;> omega)) _))⟩
    · have hl : decide ((10 : Int) < (ts.length : Int)) = false := by simp; omega
      have HC : Hid (chainO c d ts = chainF c d ts) := by unfold Hid; rw [HR0.out, if_pos Hz.out, if_neg hlen]
      have HE : Hid (chainE c d ts = if (chainF c d ts).isSome then 0 else 10) := by unfold Hid; rw [HE0.out, if_pos Hz.out, if_neg hlen]
      obtain ⟨i0, hi0, hz0, hi1, hi2⟩ := info_parts infoInt
      go_enter Try.func28, Try.ntmps28
      go_wp2_with (first | (go_at_call 62; (with_reducible refine (asked_calls _ _ _ c [d] ts _ (HCal.out.below (by (repeat' (first | exact Below.refl _ _ | assumption | refine below_new ?_ _ | refine below_draw ?_ | refine below_tail (by assumption) ?_ | refine below_set ?_ (by first | omega | (simp <;> omega)) _)))) (ints1 (by simp)) (HT.out.below (by (repeat' (first | exact Below.refl _ _ | assumption | refine below_new ?_ _ | refine below_draw ?_ | refine below_tail (by assumption) ?_ | refine below_set ?_ (by first | omega | (simp <;> omega)) _))))).use ?_); intro w1 hb1 hz1 hc1 hf1; (try simp at hz1); have hy1 : w.heap.size < w1.heap.size := (by omega); have hx10 := fun o => hc1 (w.heap.size) o (by first | omega | (simp <;> omega)); clear hc1 hf1))
      have hw0 : Below w.heap.size w w1 := by (repeat' (first | exact Below.refl _ _ | assumption | refine below_new ?_ _ | refine below_draw ?_ | refine below_tail (by assumption) ?_ | refine below_set ?_ (by first | omega | (simp <;> omega)) _))
      have e0 : w1.cell? ⟨w.heap.size, 0, none⟩ = some (.int .i64 c.first) := by simp [hx10, go_sem]
      have e1 : w1.cell? ⟨w.heap.size, 1, none⟩ = some (.slice fa c.free.length fc) := by simp [hx10, go_sem]
      have e2 : w1.cell? ⟨w.heap.size, 2, none⟩ = some (.slice sa c.still.length sc) := by simp [hx10, go_sem]
      go_loopw [1, 9, 10] (fun dd vv kk wr => ∃ (k : Nat) (e : Int) (l : List Int), k ≤ ts.length ∧ kk = .int .i64 k ∧ dd = .int .i64 e ∧ 0 ≤ e ∧ e ≤ 10000 ∧ l.length = k ∧ wr.ownsRow w1.heap.size 3 1 vv l.length (cells1 l) ∧ Hid (chainF c d ts = (chainF c e (ts.drop k)).map (l ++ ·)) ∧ Below w1.heap.size w1 wr) (fun _ _ kk _ => ts.length - (intOf kk).toNat)
      case atStart => exact ⟨0, d, [], Nat.zero_le _, rfl, rfl, hd1, hd2, rfl, World.ownsRow_nil _ _ _ _, by unfold Hid; simp, Below.refl _ _⟩
      case round =>
        obtain ⟨k, e, l, hk, rfl, rfl, he1, he2, hlk, hown, HI, hb⟩ := hrel
        have hb0 : Below w.heap.size w wr := below_tail hb hw0
        have f0 := (hb.cell (p := ⟨w.heap.size, 0, none⟩) hy1).trans e0
        have f1 := (hb.cell (p := ⟨w.heap.size, 1, none⟩) hy1).trans e1
        have f2 := (hb.cell (p := ⟨w.heap.size, 2, none⟩) hy1).trans e2
        have hy2 : w.heap.size < wr.heap.size := Nat.lt_of_lt_of_le hy1 hb.size
        by_cases hlt : k < ts.length
        · have hg : decide ((k : Int) < (ts.length : Int)) = true := by simpa using hlt
          obtain ⟨ta', tc', e3, _, _, hcell0⟩ := HT.out.below hb0
          simp only [Value.slice.injEq] at e3
          obtain ⟨rfl, _, rfl⟩ := e3
          obtain ⟨tb, tof, rfl, hB, hcell⟩ := hcell0 k hlt
          clear hcell0
          obtain ⟨hn1, hn2⟩ := hts k hlt
          have HS := Lib.hid (chain_step hlt HI.out)
          have hge := (endsF_first HV.out (day := e) (days := gi ts 0 k) he1 hn1 (by omega)).1
          have hle := endsF_le HV.out (day := e) (days := gi ts 0 k) he1 hn1 (by omega)
          by_cases hbad : 10000 < endsF c e (gi ts 0 k)
          · have hg2 : decide (10000 < endsF c e (gi ts 0 k)) = true := by simpa using hbad
            have HN := Lib.hid (HS.out.1 hbad)
            have hcw := HCal.out.below hb0
            have q0 := fun d os => cell_regrown f0 d os
            have q1 := fun d os => cell_regrown f1 d os
            have q2 := fun d os => cell_regrown f2 d os
            have q3 := fun d os => cell_regrown hcell d os
            go_wp2
            refine region_q mixed (by kernel_rfl) ?_
            repeat (go_big_quiet_step ((go_at_call 65; exact Calls.regrown_of (rends_calls _ c e (gi ts 0 k) _ (hcw.below (below_regrown _ _ _)) HV.out hv1 hv2 he1 (by omega) hn1 (by omega)))))
            refine wpQuiet_nil ?_
            intro w3 hb3
            clear q0 q1 q2 q3
            have hbw := below_tail hb3 hb
            have hown3 := own_below hown hb3
            go_wp2
            go_ret2
            exact ⟨_, by rw [HE.out, HN.out]; rfl, by rw [HO0.out, HC.out, HN.out]; exact ints0 _ _ _ (by decide), by (repeat' (first | exact Below.refl _ _ | assumption | refine below_new ?_ _ | refine below_draw ?_ | refine below_tail (by assumption) ?_ | refine below_set ?_ (by first | omega | (simp <;> omega)) _))⟩
          · have hg2 : decide (10000 < endsF c e (gi ts 0 k)) = false := by simpa using hbad
            have HN := Lib.hid (HS.out.2 hbad)
            have hcw := HCal.out.below hb0
            have q0 := fun d os => cell_regrown f0 d os
            have q1 := fun d os => cell_regrown f1 d os
            have q2 := fun d os => cell_regrown f2 d os
            have q3 := fun d os => cell_regrown hcell d os
            go_wp2
            refine region_q mixed (by kernel_rfl) ?_
            repeat (go_big_quiet_step ((go_at_call 65; exact Calls.regrown_of (rends_calls _ c e (gi ts 0 k) _ (hcw.below (below_regrown _ _ _)) HV.out hv1 hv2 he1 (by omega) hn1 (by omega)))))
            refine wpQuiet_nil ?_
            intro w3 hb3
            clear q0 q1 q2 q3
            have hbw := below_tail hb3 hb
            have hown3 := own_below hown hb3
            go_wp2_with (first | (at_builtin; refine wpList_append_own _ rfl _ _ 22 rfl w1.heap.size 3 i0 (.int .i64 0) 1 8 Try.underlying22 hi0 hz0 hi1 hi2 rfl (by decide) _ _ _ rfl (hown3.alloc _) ⟨w3.heap.size, 0, none⟩ 1 1 (cells1 [endsF c e (gi ts 0 k)]) rfl rfl (app_src _ _ _) (cells1_one _) (by unfold maxLen; omega) (by omega) (by have := hbw.size; simp; omega) ?_; intro v' w4 hown4 hgrow _))
            have hb4 := (hbw.alloc hbw.size _).grown hgrow (by have := hbw.size; simp; omega) (own_block_le hown3)
            go_roundw
            case rel => exact ⟨k + 1, endsF c e (gi ts 0 k), l ++ [endsF c e (gi ts 0 k)], by omega, by go_num, rfl, by omega, by omega, by simp; omega, own_more hown4 rfl, HN.out, hb4⟩
            case measure => simp [intOf]; omega
        · have hg : decide ((k : Int) < (ts.length : Int)) = false := by simpa using hlt
          have HN := Lib.hid (chain_end hlt HI.out)
          go_wp2
          go_ret2
          exact ⟨_, by rw [HE.out, HN.out]; rfl, by rw [HO0.out, HC.out, HN.out]; exact own_ints hown, hb0⟩
  · have Hz := Lib.hid hz
    have hz1 : (askedF c [d] ts == 0) = false := by simpa using hz
    have hz2 : (askedF c [d] ts != 0) = true := by simpa using hz
    clear hz
    have HL : Hid (chainL c d ts = []) := by unfold Hid; rw [HO0.out, HR0.out, if_neg Hz.out]; rfl
    have HE : Hid (chainE c d ts = askedF c [d] ts) := by unfold Hid; rw [HE0.out, if_neg Hz.out]
    go_enter Try.func28, Try.ntmps28
    go_wp2_with (first | (go_at_call 62; (with_reducible refine (asked_calls _ _ _ c [d] ts _ (HCal.out.below (by (repeat' (first | exact Below.refl _ _ | assumption | refine below_new ?_ _ | refine below_draw ?_ | refine below_tail (by assumption) ?_ | refine below_set ?_ (by first | omega | (simp <;> omega)) _)))) (ints1 (by simp)) (HT.out.below (by (repeat' (first | exact Below.refl _ _ | assumption | refine below_new ?_ _ | refine below_draw ?_ | refine below_tail (by assumption) ?_ | refine below_set ?_ (by first | omega | (simp <;> omega)) _))))).use ?_); intro w1 hb1 hz1 hc1 hf1; (try simp at hz1); have hy1 : w.heap.size < w1.heap.size := (by omega); have hx10 := fun o => hc1 (w.heap.size) o (by first | omega | (simp <;> omega)); clear hc1 hf1))
    go_ret2
    exact ⟨_, by rw [HE.out]; rfl, by rw [HL.out]; exact ints0 _ _ _ (by decide), by (repeat' (first | exact Below.refl _ _ | assumption | refine below_new ?_ _ | refine below_draw ?_ | refine below_tail (by assumption) ?_ | refine below_set ?_ (by first | omega | (simp <;> omega)) _))⟩

end Go.Proofs.Ytnhohnnoffhkhaa
