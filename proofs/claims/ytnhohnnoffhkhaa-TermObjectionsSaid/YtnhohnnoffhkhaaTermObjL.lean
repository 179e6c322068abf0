/- What Objectors gives, in package term and in its reference; the law TermObjections: its walk. Conditions: a calendar and pairs lie in memory as said. -/
import Derived.Test.YtnhohnnoffhkhaaTermKnown
import Derived.Test.YtnhohnnoffhkhaaObjSpec
import Derived.Test.YtnhohnnoffhkhaaSortC
namespace Go.Proofs.Ytnhohnnoffhkhaa
open Go.RowKit

theorem dayB_is (x : Int) : withinB x 0 10000 = dayB x := rfl
theorem days2 {x y : Int} : daysF [x, y] = if !(dayB x) || !(dayB y) then 1 else 0 := by
  unfold daysF
  simp only [List.any_cons, List.any_nil, Bool.or_false]

set_option maxHeartbeats 4000000 in
set_option maxRecDepth 100000 in
theorem Objectors_calls (v pv : Value) (c : Cal) (a n : Int) (os : List (Int × Int)) (w : World) (h : CalAt w v c) (hp : PairsAt w pv os) :
    GivesL Try.prog 53 #[v, .int .i64 a, .int .i64 n, pv] w (objL c a n os) (objE c a n os) := by
  obtain ⟨fa, fc, sa, sc, rfl, hf, hs, hfc, hsc, hfl, hsl⟩ := h.cells
  have HCal := Lib.hid h
  clear h hf hs
  unfold GivesL
  have HP := Lib.hid hp
  obtain ⟨pa, pc, rfl, hpl, hpm, _⟩ := hp
  have HL0 : Hid (objL c a n os = if objE c a n os = 0 then owF (fun x => anyTo (hasObj c a n os x) os.length) 10001 else []) := rfl
  have HE0 : Hid (objE c a n os = if askedF c [a] [n] = 0 then (if 20 < os.length then 3 else if someFrom (objB os) os.length 0 then 1 else 0) else askedF c [a] [n]) := rfl
  by_cases hz : askedF c [a] [n] = 0
  · have Hz := Lib.hid hz
    have hz1 : (askedF c [a] [n] == 0) = true := by simpa using hz
    have hz2 : (askedF c [a] [n] != 0) = false := by simpa using hz
    obtain ⟨hv, hd1, hd2, hn1, hn2⟩ := asked_term hz
    obtain ⟨hv1, hv2⟩ := valid_first hv
    have HV := Lib.hid hv
    clear hv hz
    by_cases hlen : 20 < os.length
    · have hl : decide ((20 : Int) < (os.length : Int)) = true := by simp; omega
      have HE : Hid (objE c a n os = 3) := by unfold Hid; rw [HE0.out, if_pos Hz.out, if_pos hlen]
      go_enter Try.func53, Try.ntmps53
      go_wp2_with (first | (go_at_call 55; (with_reducible refine (termed_calls _ _ c a [n] _ (HCal.out.below (by (repeat' (first | exact Below.refl _ _ | assumption | refine below_new ?_ _ | refine below_draw ?_ | refine below_tail (by assumption) ?_ | refine below_set ?_ (by first | omega | (simp <;> omega)) _)))) (ints1 (by simp))).use ?_); intro w1 hb1 hz1 hc1 hf1; (try simp at hz1); have hy1 : w.heap.size < w1.heap.size := (by omega); have hx10 := fun o => hc1 (w.heap.size) o (by first | omega | (simp <;> omega)); clear hc1 hf1))
      go_ret2
      exact ⟨_, by rw [HE.out]; rfl, by rw [HL0.out, if_neg (by rw [HE.out]; decide)]; exact ints0 _ _ _ (by decide), by (repeat' (first | exact Below.refl _ _ | assumption | refine below_new ?_ _ | refine below_draw ?_ | refine below_tail (by assumption) ?_ | refine below_set ?_ (by first | omega | (simp <;> omega)) _))⟩
    · have hl : decide ((20 : Int) < (os.length : Int)) = false := by simp; omega
      have HEE : Hid (objE c a n os = if someFrom (objB os) os.length 0 then 1 else 0) := by unfold Hid; rw [HE0.out, if_pos Hz.out, if_neg hlen]
      obtain ⟨i0, hi0, hz0, hi1, hi2⟩ := info_parts infoInt
      go_enter Try.func53, Try.ntmps53
      go_wp2_with (first | (go_at_call 55; (with_reducible refine (termed_calls _ _ c a [n] _ (HCal.out.below (by (repeat' (first | exact Below.refl _ _ | assumption | refine below_new ?_ _ | refine below_draw ?_ | refine below_tail (by assumption) ?_ | refine below_set ?_ (by first | omega | (simp <;> omega)) _)))) (ints1 (by simp))).use ?_); intro w1 hb1 hz1 hc1 hf1; (try simp at hz1); have hy1 : w.heap.size < w1.heap.size := (by omega); have hx10 := fun o => hc1 (w.heap.size) o (by first | omega | (simp <;> omega)); clear hc1 hf1))
      have hw0 : Below w.heap.size w w1 := by (repeat' (first | exact Below.refl _ _ | assumption | refine below_new ?_ _ | refine below_draw ?_ | refine below_tail (by assumption) ?_ | refine below_set ?_ (by first | omega | (simp <;> omega)) _))
      have e0 : w1.cell? ⟨w.heap.size, 0, none⟩ = some (.int .i64 c.first) := by simp [hx10, go_sem]
      have e1 : w1.cell? ⟨w.heap.size, 1, none⟩ = some (.slice fa c.free.length fc) := by simp [hx10, go_sem]
      have e2 : w1.cell? ⟨w.heap.size, 2, none⟩ = some (.slice sa c.still.length sc) := by simp [hx10, go_sem]
      go_loopw [11, 28] (fun vv kk wr => ∃ k : Nat, k ≤ os.length ∧ kk = .int .i64 k ∧ wr.ownsRow w1.heap.size 3 1 vv (colF c a n os k).length (cells1 (colF c a n os k)) ∧ Hid (someFrom (objB os) os.length 0 = someFrom (objB os) os.length k) ∧ Below w1.heap.size w1 wr) (fun _ kk _ => os.length - (intOf kk).toNat)
      case atStart => exact ⟨0, Nat.zero_le _, rfl, World.ownsRow_nil _ _ _ _, rfl, Below.refl _ _⟩
      case round =>
        obtain ⟨k, hk, rfl, hown, HI, hb⟩ := hrel
        have hb0 : Below w.heap.size w wr := below_tail hb hw0
        have f0 := (hb.cell (p := ⟨w.heap.size, 0, none⟩) hy1).trans e0
        have f1 := (hb.cell (p := ⟨w.heap.size, 1, none⟩) hy1).trans e1
        have f2 := (hb.cell (p := ⟨w.heap.size, 2, none⟩) hy1).trans e2
        have hy2 : w.heap.size < wr.heap.size := Nat.lt_of_lt_of_le hy1 hb.size
        have hle := colF_le (c := c) (h := a) (n := n) (os := os) k
        by_cases hlt : k < os.length
        · have hg : decide ((k : Int) < (os.length : Int)) = true := by simpa using hlt
          have HS : Hid (colF c a n os (k + 1) = if inF c a n (gi os (0, 0) k).2 then colF c a n os k ++ [(gi os (0, 0) k).1] else colF c a n os k) := rfl
          obtain ⟨pa', pc', e3, _, _, hcell0⟩ := HP.out.below hb0
          simp only [Value.slice.injEq] at e3
          obtain ⟨rfl, _, rfl⟩ := e3
          obtain ⟨pb, pof, rfl, hB, hcell1, hcell2⟩ := hcell0 k hlt
          clear hcell0
          have hd2' := days2 (x := (gi os (0, 0) k).1) (y := (gi os (0, 0) k).2)
          have hob : objB os k = (!(dayB (gi os (0, 0) k).1) || !(dayB (gi os (0, 0) k).2)) := rfl
          rw [← hob] at hd2'
          cases hbad : objB os k
          · rw [hbad] at hd2'
            have hd3 : (daysF [(gi os (0, 0) k).1, (gi os (0, 0) k).2] == 0) = true := by rw [hd2']; rfl
            have hd4 : (daysF [(gi os (0, 0) k).1, (gi os (0, 0) k).2] != 0) = false := by rw [hd2']; rfl
            have HN := Lib.hid (someFrom_no hlt hbad)
            clear hd2' hob hbad
            cases hin : inF c a n (gi os (0, 0) k).2
            · go_wp2_with (first | (go_at_call 73; (with_reducible refine (areDays_calls _ [(gi os (0, 0) k).1, (gi os (0, 0) k).2] _ (ints2 (by simp))).use ?_); intro w3 hb3 hz3 hc3 hf3; have hb3w : Below wr.heap.size wr w3 := (by (repeat' (first | exact Below.refl _ _ | assumption | refine below_new ?_ _ | refine below_draw ?_ | refine below_tail (by assumption) ?_ | refine below_set ?_ (by first | omega | (simp <;> omega)) _))); have hs3 := hb3w.size; have hy3 : w.heap.size < w3.heap.size := (by omega); have hw3 : wr.heap.size < w3.heap.size := (by simp at hz3; omega); have hbox0 : w3.cell? ⟨wr.heap.size, 0, none⟩ = some (.int .i64 (gi os (0, 0) k).1) := (hc3 _ _ (by simp <;> omega)).trans (by simp [go_sem]); have hbox1 : w3.cell? ⟨wr.heap.size, 1, none⟩ = some (.int .i64 (gi os (0, 0) k).2) := (hc3 _ _ (by simp <;> omega)).trans (by simp [go_sem]); have f30 := (hb3w.cell (p := ⟨w.heap.size, 0, none⟩) hy2).trans f0; have f31 := (hb3w.cell (p := ⟨w.heap.size, 1, none⟩) hy2).trans f1; have f32 := (hb3w.cell (p := ⟨w.heap.size, 2, none⟩) hy2).trans f2; clear hc3 hf3) | (go_at_call 75; (with_reducible refine (inTime_calls _ c a n (gi os (0, 0) k).2 _ (HCal.out.below (below_tail hb3w hb0)) HV.out hd1 (by omega) hn1 (by omega)).use ?_); intro w4 hb4 hz4 hc4 hf4; have hb4w := below_tail hb4 hb3w; have hown4 := own_below hown hb4w; have hbw := below_tail hb4w hb; have hbox2 := (hc4 wr.heap.size 0 hw3).trans hbox0; clear hc4 hf4))
              go_roundw
              case rel => exact ⟨k + 1, by omega, by go_num, by rw [HS.out, hin]; exact hown4, by unfold Hid; rw [HI.out, HN.out], hbw⟩
              case measure => simp [intOf]; omega
            · go_wp2_with (first | (go_at_call 73; (with_reducible refine (areDays_calls _ [(gi os (0, 0) k).1, (gi os (0, 0) k).2] _ (ints2 (by simp))).use ?_); intro w3 hb3 hz3 hc3 hf3; have hb3w : Below wr.heap.size wr w3 := (by (repeat' (first | exact Below.refl _ _ | assumption | refine below_new ?_ _ | refine below_draw ?_ | refine below_tail (by assumption) ?_ | refine below_set ?_ (by first | omega | (simp <;> omega)) _))); have hs3 := hb3w.size; have hy3 : w.heap.size < w3.heap.size := (by omega); have hw3 : wr.heap.size < w3.heap.size := (by simp at hz3; omega); have hbox0 : w3.cell? ⟨wr.heap.size, 0, none⟩ = some (.int .i64 (gi os (0, 0) k).1) := (hc3 _ _ (by simp <;> omega)).trans (by simp [go_sem]); have hbox1 : w3.cell? ⟨wr.heap.size, 1, none⟩ = some (.int .i64 (gi os (0, 0) k).2) := (hc3 _ _ (by simp <;> omega)).trans (by simp [go_sem]); have f30 := (hb3w.cell (p := ⟨w.heap.size, 0, none⟩) hy2).trans f0; have f31 := (hb3w.cell (p := ⟨w.heap.size, 1, none⟩) hy2).trans f1; have f32 := (hb3w.cell (p := ⟨w.heap.size, 2, none⟩) hy2).trans f2; clear hc3 hf3) | (go_at_call 75; (with_reducible refine (inTime_calls _ c a n (gi os (0, 0) k).2 _ (HCal.out.below (below_tail hb3w hb0)) HV.out hd1 (by omega) hn1 (by omega)).use ?_); intro w4 hb4 hz4 hc4 hf4; have hb4w := below_tail hb4 hb3w; have hown4 := own_below hown hb4w; have hbw := below_tail hb4w hb; have hbox2 := (hc4 wr.heap.size 0 hw3).trans hbox0; clear hc4 hf4) | (at_builtin; refine wpList_append_own _ rfl _ _ 22 rfl w1.heap.size 3 i0 (.int .i64 0) 1 8 Try.underlying22 hi0 hz0 hi1 hi2 rfl (by decide) _ _ _ rfl (hown4.alloc _) ⟨w4.heap.size, 0, none⟩ 1 1 (cells1 [(gi os (0, 0) k).1]) rfl rfl (app_src _ _ _) (cells1_one _) (by unfold maxLen; omega) (by omega) (by have := hbw.size; simp; omega) ?_; intro v' w5 hown5 hgrow _))
              have hb5 := (hbw.alloc hbw.size _).grown hgrow (by have := hbw.size; simp; omega) (own_block_le hown4)
              go_roundw
              case rel => exact ⟨k + 1, by omega, by go_num, by rw [HS.out, hin]; exact own_more hown5 rfl, by unfold Hid; rw [HI.out, HN.out], hb5⟩
              case measure => simp [intOf]; omega
          · rw [hbad] at hd2'
            have hd2' : daysF [(gi os (0, 0) k).1, (gi os (0, 0) k).2] = 1 := hd2'
            have hd3 : (daysF [(gi os (0, 0) k).1, (gi os (0, 0) k).2] == 0) = false := by rw [hd2']; rfl
            have hd4 : (daysF [(gi os (0, 0) k).1, (gi os (0, 0) k).2] != 0) = true := by rw [hd2']; rfl
            have HN := Lib.hid (someFrom_yes hlt hbad)
            have HE : Hid (objE c a n os = 1) := by unfold Hid; rw [HEE.out, HI.out, HN.out]; rfl
            have HD := Lib.hid hd2'
            clear hd2' hob hbad
            go_wp2_with (first | (go_at_call 73; (with_reducible refine (areDays_calls _ [(gi os (0, 0) k).1, (gi os (0, 0) k).2] _ (ints2 (by simp))).use ?_); intro w3 hb3 hz3 hc3 hf3; have hb3w : Below wr.heap.size wr w3 := (by (repeat' (first | exact Below.refl _ _ | assumption | refine below_new ?_ _ | refine below_draw ?_ | refine below_tail (by assumption) ?_ | refine below_set ?_ (by first | omega | (simp <;> omega)) _))); have hs3 := hb3w.size; have hy3 : w.heap.size < w3.heap.size := (by omega); have hw3 : wr.heap.size < w3.heap.size := (by simp at hz3; omega); have hbox0 : w3.cell? ⟨wr.heap.size, 0, none⟩ = some (.int .i64 (gi os (0, 0) k).1) := (hc3 _ _ (by simp <;> omega)).trans (by simp [go_sem]); have hbox1 : w3.cell? ⟨wr.heap.size, 1, none⟩ = some (.int .i64 (gi os (0, 0) k).2) := (hc3 _ _ (by simp <;> omega)).trans (by simp [go_sem]); have f30 := (hb3w.cell (p := ⟨w.heap.size, 0, none⟩) hy2).trans f0; have f31 := (hb3w.cell (p := ⟨w.heap.size, 1, none⟩) hy2).trans f1; have f32 := (hb3w.cell (p := ⟨w.heap.size, 2, none⟩) hy2).trans f2; clear hc3 hf3))
            go_ret2
            exact ⟨_, by rw [HE.out]; rfl, by rw [HL0.out, if_neg (by rw [HE.out]; decide)]; exact ints0 _ _ _ (by decide), below_tail hb3w hb0⟩
        · have hg : decide ((k : Int) < (os.length : Int)) = false := by simpa using hlt
          have hkl : k = os.length := by omega
          have HN := Lib.hid (someFrom_end (p := objB os) hlt)
          have HE : Hid (objE c a n os = 0) := by unfold Hid; rw [HEE.out, HI.out, HN.out]; rfl
          have HD : Hid (∀ i, i < os.length → objB os i = false) := fun i hi => by
            cases hq : objB os i
            · rfl
            · have h1 := HI.out.trans HN.out
              have : someFrom (objB os) os.length 0 = true := (someFrom_iff 0).2 ⟨i, Nat.zero_le _, hi, hq⟩
              rw [h1] at this; cases this
          subst hkl
          go_wp2_with (first | (go_at_call 86; refine (sort_own hown (by omega)).mono ?_; rintro e w5 ⟨rfl, hown5, hg5⟩) | (go_at_call 87; refine (compact_own hown5 (by rw [sortI_length]; omega)).mono ?_; rintro e w6 ⟨v6, rfl, hI6, hg6⟩))
          go_ret2
          have hb5 := hb.grown hg5 hb.size (own_block_le hown)
          have hb6 := hb5.grown hg6 hb5.size (own_block_le hown5)
          exact ⟨v6, by rw [HE.out]; rfl, by rw [HL0.out, if_pos HE.out, ← obj_same HD.out]; exact hI6, below_tail hb6 hw0⟩
  · have Hz := Lib.hid hz
    have hz1 : (askedF c [a] [n] == 0) = false := by simpa using hz
    have hz2 : (askedF c [a] [n] != 0) = true := by simpa using hz
    clear hz
    have HE : Hid (objE c a n os = askedF c [a] [n]) := by unfold Hid; rw [HE0.out, if_neg Hz.out]
    go_enter Try.func53, Try.ntmps53
    go_wp2_with (first | (go_at_call 55; (with_reducible refine (termed_calls _ _ c a [n] _ (HCal.out.below (by (repeat' (first | exact Below.refl _ _ | assumption | refine below_new ?_ _ | refine below_draw ?_ | refine below_tail (by assumption) ?_ | refine below_set ?_ (by first | omega | (simp <;> omega)) _)))) (ints1 (by simp))).use ?_); intro w1 hb1 hz1 hc1 hf1; (try simp at hz1); have hy1 : w.heap.size < w1.heap.size := (by omega); have hx10 := fun o => hc1 (w.heap.size) o (by first | omega | (simp <;> omega)); clear hc1 hf1))
    go_ret2
    exact ⟨_, by rw [HE.out]; rfl, by rw [HL0.out, if_neg (by rw [HE.out]; exact Hz.out)]; exact ints0 _ _ _ (by decide), by (repeat' (first | exact Below.refl _ _ | assumption | refine below_new ?_ _ | refine below_draw ?_ | refine below_tail (by assumption) ?_ | refine below_set ?_ (by first | omega | (simp <;> omega)) _))⟩

set_option maxHeartbeats 4000000 in
set_option maxRecDepth 100000 in
theorem rObjectors_calls (v pv : Value) (c : Cal) (a n : Int) (os : List (Int × Int)) (w : World) (h : CalAt w v c) (hp : PairsAt w pv os) :
    GivesL Try.prog 54 #[v, .int .i64 a, .int .i64 n, pv] w (objL c a n os) (objE c a n os) := by
  obtain ⟨fa, fc, sa, sc, rfl, hf, hs, hfc, hsc, hfl, hsl⟩ := h.cells
  have HCal := Lib.hid h
  clear h hf hs
  unfold GivesL
  have HP := Lib.hid hp
  obtain ⟨pa, pc, rfl, hpl, hpm, _⟩ := hp
  have HL0 : Hid (objL c a n os = if objE c a n os = 0 then owF (fun x => anyTo (hasObj c a n os x) os.length) 10001 else []) := rfl
  have HE0 : Hid (objE c a n os = if askedF c [a] [n] = 0 then (if 20 < os.length then 3 else if someFrom (objB os) os.length 0 then 1 else 0) else askedF c [a] [n]) := rfl
  by_cases hz : askedF c [a] [n] = 0
  · have Hz := Lib.hid hz
    have hz1 : (askedF c [a] [n] == 0) = true := by simpa using hz
    have hz2 : (askedF c [a] [n] != 0) = false := by simpa using hz
    obtain ⟨hv, hd1, hd2, hn1, hn2⟩ := asked_term hz
    obtain ⟨hv1, hv2⟩ := valid_first hv
    have HV := Lib.hid hv
    clear hv hz
    by_cases hlen : 20 < os.length
    · have hl : decide ((20 : Int) < (os.length : Int)) = true := by simp; omega
      have HE : Hid (objE c a n os = 3) := by unfold Hid; rw [HE0.out, if_pos Hz.out, if_pos hlen]
      go_enter Try.func54, Try.ntmps54
      go_wp2_with (first | (go_at_call 62; (with_reducible refine (asked_calls _ _ _ c [a] [n] _ (HCal.out.below (by (repeat' (first | exact Below.refl _ _ | assumption | refine below_new ?_ _ | refine below_draw ?_ | refine below_tail (by assumption) ?_ | refine below_set ?_ (by first | omega | (simp <;> omega)) _)))) (ints1b (by simp)) (ints1 (by simp))).use ?_); intro w1 hb1 hz1 hc1 hf1; (try simp at hz1); have hy1 : w.heap.size < w1.heap.size := (by omega); have hx10 := fun o => hc1 (w.heap.size) o (by first | omega | (simp <;> omega)); clear hc1 hf1))
      go_ret2
      exact ⟨_, by rw [HE.out]; rfl, by rw [HL0.out, if_neg (by rw [HE.out]; decide)]; exact ints0 _ _ _ (by decide), by (repeat' (first | exact Below.refl _ _ | assumption | refine below_new ?_ _ | refine below_draw ?_ | refine below_tail (by assumption) ?_ | refine below_set ?_ (by first | omega | (simp <;> omega)) _))⟩
    · have hl : decide ((20 : Int) < (os.length : Int)) = false := by simp; omega
      have HEE : Hid (objE c a n os = if someFrom (objB os) os.length 0 then 1 else 0) := by unfold Hid; rw [HE0.out, if_pos Hz.out, if_neg hlen]
      obtain ⟨i0, hi0, hz0, hi1, hi2⟩ := info_parts infoInt
      go_enter Try.func54, Try.ntmps54
      go_wp2_with (first | (go_at_call 62; (with_reducible refine (asked_calls _ _ _ c [a] [n] _ (HCal.out.below (by (repeat' (first | exact Below.refl _ _ | assumption | refine below_new ?_ _ | refine below_draw ?_ | refine below_tail (by assumption) ?_ | refine below_set ?_ (by first | omega | (simp <;> omega)) _)))) (ints1b (by simp)) (ints1 (by simp))).use ?_); intro w1 hb1 hz1 hc1 hf1; (try simp at hz1); have hy1 : w.heap.size < w1.heap.size := (by omega); have hx10 := fun o => hc1 (w.heap.size) o (by first | omega | (simp <;> omega)); clear hc1 hf1))
      have hw0 : Below w.heap.size w w1 := by (repeat' (first | exact Below.refl _ _ | assumption | refine below_new ?_ _ | refine below_draw ?_ | refine below_tail (by assumption) ?_ | refine below_set ?_ (by first | omega | (simp <;> omega)) _))
      have e0 : w1.cell? ⟨w.heap.size, 0, none⟩ = some (.int .i64 c.first) := by simp [hx10, go_sem]
      have e1 : w1.cell? ⟨w.heap.size, 1, none⟩ = some (.slice fa c.free.length fc) := by simp [hx10, go_sem]
      have e2 : w1.cell? ⟨w.heap.size, 2, none⟩ = some (.slice sa c.still.length sc) := by simp [hx10, go_sem]
      go_loop [11] (fun kk => ∃ k : Nat, k ≤ os.length ∧ kk = .int .i64 k ∧ Hid (someFrom (objB os) os.length 0 = someFrom (objB os) os.length k)) (fun kk => os.length - (intOf kk).toNat)
      case atStart => exact ⟨0, Nat.zero_le _, rfl, rfl⟩
      case round =>
        obtain ⟨k, hk, rfl, HI⟩ := hrel
        by_cases hlt : k < os.length
        · have hg : decide ((k : Int) < (os.length : Int)) = true := by simpa using hlt
          obtain ⟨pa', pc', e3, _, _, hcell0⟩ := HP.out.below hw0
          simp only [Value.slice.injEq] at e3
          obtain ⟨rfl, _, rfl⟩ := e3
          obtain ⟨pb, pof, rfl, hB, hcell1, hcell2⟩ := hcell0 k hlt
          clear hcell0
          have hob : objB os k = (!(dayB (gi os (0, 0) k).1) || !(dayB (gi os (0, 0) k).2)) := rfl
          cases hA : dayB (gi os (0, 0) k).1
          · have hbad : objB os k = true := by rw [hob, hA]; rfl
            have HN := Lib.hid (someFrom_yes hlt hbad)
            have HE : Hid (objE c a n os = 1) := by unfold Hid; rw [HEE.out, HI.out, HN.out]; rfl
            clear hob hbad
            go_wp2_with (go_at_call 83; refine (rwithin_calls _ _ _ _).mono ?_; rintro e w' ⟨rfl, rfl⟩; rw [dayB_is, hA])
            go_ret2
            exact ⟨_, by rw [HE.out]; rfl, by rw [HL0.out, if_neg (by rw [HE.out]; decide)]; exact ints0 _ _ _ (by decide), by (repeat' (first | exact Below.refl _ _ | assumption | refine below_new ?_ _ | refine below_draw ?_ | refine below_tail (by assumption) ?_ | refine below_set ?_ (by first | omega | (simp <;> omega)) _))⟩
          · cases hBB : dayB (gi os (0, 0) k).2
            · have hbad : objB os k = true := by rw [hob, hA, hBB]; rfl
              have HN := Lib.hid (someFrom_yes hlt hbad)
              have HE : Hid (objE c a n os = 1) := by unfold Hid; rw [HEE.out, HI.out, HN.out]; rfl
              clear hob hbad
              go_wp2_with (first | (go_at_call 83; refine (rwithin_calls _ _ _ _).mono ?_; rintro e w' ⟨rfl, rfl⟩; rw [dayB_is, hA]) | (go_at_call 83; refine (rwithin_calls _ _ _ _).mono ?_; rintro e w' ⟨rfl, rfl⟩; rw [dayB_is, hBB]))
              go_ret2
              exact ⟨_, by rw [HE.out]; rfl, by rw [HL0.out, if_neg (by rw [HE.out]; decide)]; exact ints0 _ _ _ (by decide), by (repeat' (first | exact Below.refl _ _ | assumption | refine below_new ?_ _ | refine below_draw ?_ | refine below_tail (by assumption) ?_ | refine below_set ?_ (by first | omega | (simp <;> omega)) _))⟩
            · have hbad : objB os k = false := by rw [hob, hA, hBB]; rfl
              have HN := Lib.hid (someFrom_no hlt hbad)
              clear hob hbad
              go_wp2_with (first | (go_at_call 83; refine (rwithin_calls _ _ _ _).mono ?_; rintro e w' ⟨rfl, rfl⟩; rw [dayB_is, hA]) | (go_at_call 83; refine (rwithin_calls _ _ _ _).mono ?_; rintro e w' ⟨rfl, rfl⟩; rw [dayB_is, hBB]))
              go_round
              case rel => exact ⟨k + 1, by omega, by go_num, by unfold Hid; rw [HI.out, HN.out]⟩
              case measure => simp [intOf]; omega
        · have hg : decide ((k : Int) < (os.length : Int)) = false := by simpa using hlt
          have HN := Lib.hid (someFrom_end (p := objB os) hlt)
          have HE : Hid (objE c a n os = 0) := by unfold Hid; rw [HEE.out, HI.out, HN.out]; rfl
          go_wp2_with (go_at_call 65; (with_reducible refine (rends_calls _ c a n _ (HCal.out.below (by (repeat' (first | exact Below.refl _ _ | assumption | refine below_new ?_ _ | refine below_draw ?_ | refine below_tail (by assumption) ?_ | refine below_set ?_ (by first | omega | (simp <;> omega)) _)))) HV.out hv1 hv2 hd1 (by omega) hn1 (by omega)).use ?_); intro w2 hb2 hz2 hc2 hf2)
          have hw2 := below_tail hb2 hw0
          clear hc2 hf2 hlt hg
          go_loopw [13, 14] (fun vv kk wr => ∃ q : Nat, q ≤ 10001 ∧ kk = .int .i64 q ∧ wr.ownsRow w2.heap.size 3 1 vv (owF (fun x => anyTo (hasObj c a n os x) os.length) q).length (cells1 (owF (fun x => anyTo (hasObj c a n os x) os.length) q)) ∧ Below w2.heap.size w2 wr) (fun _ kk _ => 10001 - (intOf kk).toNat)
          case atStart => exact ⟨0, Nat.zero_le _, rfl, World.ownsRow_nil _ _ _ _, Below.refl _ _⟩
          case round =>
            obtain ⟨q, hq, rfl, hown, hb⟩ := hrel
            have hb0 : Below w.heap.size w wr := below_tail hb hw2
            have hle := owF_le (p := fun x => anyTo (hasObj c a n os x) os.length) q
            by_cases hqt : q ≤ 10000
            · have hg : decide ((q : Int) ≤ 10000) = true := decide_eq_true (by omega)
              have HS : Hid (owF (fun x => anyTo (hasObj c a n os x) os.length) (q + 1) = if anyTo (hasObj c a n os (q : Int)) os.length then owF (fun x => anyTo (hasObj c a n os x) os.length) q ++ [(q : Int)] else owF (fun x => anyTo (hasObj c a n os x) os.length) q) := rfl
              obtain ⟨lst, hlst⟩ : ∃ l, owF (fun x => anyTo (hasObj c a n os x) os.length) q = l := ⟨_, rfl⟩
              rw [hlst] at hown hle HS
              have HQ := Lib.hid hlst
              clear hlst
              go_wp2
              go_loop [15, 16] (fun bb kk => ∃ k : Nat, k ≤ os.length ∧ kk = .int .i64 k ∧ bb = .bool (anyTo (hasObj c a n os (q : Int)) k)) (fun _ kk => os.length - (intOf kk).toNat)
              case atStart => exact ⟨0, Nat.zero_le _, rfl, rfl⟩
              case round =>
                obtain ⟨k, hk, rfl, rfl⟩ := hrel
                by_cases hlt : k < os.length
                · have hg2 : decide ((k : Int) < (os.length : Int)) = true := by simpa using hlt
                  obtain ⟨pa', pc', e3, _, _, hcell0⟩ := HP.out.below hb0
                  simp only [Value.slice.injEq] at e3
                  obtain ⟨rfl, _, rfl⟩ := e3
                  obtain ⟨pb, pof, rfl, hB, hcell1, hcell2⟩ := hcell0 k hlt
                  clear hcell0
                  have hst : Hid (anyTo (hasObj c a n os (q : Int)) (k + 1) = (anyTo (hasObj c a n os (q : Int)) k || (((gi os (0, 0) k).1 == (q : Int)) && inF c a n (gi os (0, 0) k).2))) := rfl
                  have hif : withinB (gi os (0, 0) k).2 a (endsF c a n) = inF c a n (gi os (0, 0) k).2 := rfl
                  cases hin : anyTo (hasObj c a n os (q : Int)) k
                  · cases hA : ((gi os (0, 0) k).1 == (q : Int))
                    · go_wp2
                      go_round
                      case rel => exact ⟨k + 1, by omega, by go_num, by rw [hst.out, hin, hA]; rfl⟩
                      case measure => simp [intOf]; omega
                    · go_wp2_with (go_at_call 83; refine (rwithin_calls _ _ _ _).mono ?_; rintro e w' ⟨rfl, rfl⟩; rw [hif])
                      go_round
                      case rel => exact ⟨k + 1, by omega, by go_num, by rw [hst.out, hin, hA]; simp⟩
                      case measure => simp [intOf]; omega
                  · go_wp2
                    go_round
                    case rel => exact ⟨k + 1, by omega, by go_num, by rw [hst.out, hin]; rfl⟩
                    case measure => simp [intOf]; omega
                · have hg2 : decide ((k : Int) < (os.length : Int)) = false := by simpa using hlt
                  have hkl : k = os.length := by omega
                  subst hkl
                  cases hin : anyTo (hasObj c a n os (q : Int)) os.length
                  · go_wp2
                    go_roundw
                    case rel => exact ⟨q + 1, by omega, by go_num, by rw [HS.out, hin]; exact hown, hb⟩
                    case measure => simp [intOf]; omega
                  · go_wp2_with (at_builtin; refine wpList_append_own _ rfl _ _ 22 rfl w2.heap.size 3 i0 (.int .i64 0) 1 8 Try.underlying22 hi0 hz0 hi1 hi2 rfl (by decide) _ _ _ rfl (hown.alloc _) ⟨wr.heap.size, 0, none⟩ 1 1 (cells1 [(q : Int)]) rfl rfl (app_src _ _ _) (cells1_one _) (by unfold maxLen; omega) (by omega) (by have := hb.size; simp; omega) ?_; intro v' w5 hown5 hgrow _)
                    have hb5 := (hb.alloc hb.size _).grown hgrow (by have := hb.size; simp; omega) (own_block_le hown)
                    go_roundw
                    case rel => exact ⟨q + 1, by omega, by go_num, by rw [HS.out, hin]; exact own_more hown5 rfl, hb5⟩
                    case measure => simp [intOf]; omega
            · have hg : decide ((q : Int) ≤ 10000) = false := decide_eq_false (by omega)
              have hq2 : q = 10001 := by omega
              subst hq2
              go_wp2
              go_ret2
              exact ⟨_, by rw [HE.out]; rfl, by rw [HL0.out, if_pos HE.out]; exact own_ints hown, hb0⟩
  · have Hz := Lib.hid hz
    have hz1 : (askedF c [a] [n] == 0) = false := by simpa using hz
    have hz2 : (askedF c [a] [n] != 0) = true := by simpa using hz
    clear hz
    have HE : Hid (objE c a n os = askedF c [a] [n]) := by unfold Hid; rw [HE0.out, if_neg Hz.out]
    go_enter Try.func54, Try.ntmps54
    go_wp2_with (first | (go_at_call 62; (with_reducible refine (asked_calls _ _ _ c [a] [n] _ (HCal.out.below (by (repeat' (first | exact Below.refl _ _ | assumption | refine below_new ?_ _ | refine below_draw ?_ | refine below_tail (by assumption) ?_ | refine below_set ?_ (by first | omega | (simp <;> omega)) _)))) (ints1b (by simp)) (ints1 (by simp))).use ?_); intro w1 hb1 hz1 hc1 hf1; (try simp at hz1); have hy1 : w.heap.size < w1.heap.size := (by omega); have hx10 := fun o => hc1 (w.heap.size) o (by first | omega | (simp <;> omega)); clear hc1 hf1))
    go_ret2
    exact ⟨_, by rw [HE.out]; rfl, by rw [HL0.out, if_neg (by rw [HE.out]; exact Hz.out)]; exact ints0 _ _ _ (by decide), by (repeat' (first | exact Below.refl _ _ | assumption | refine below_new ?_ _ | refine below_draw ?_ | refine below_tail (by assumption) ?_ | refine below_set ?_ (by first | omega | (simp <;> omega)) _))⟩

set_option maxHeartbeats 4000000 in
set_option maxRecDepth 100000 in
theorem termObjections_calls (v pv : Value) (c : Cal) (a n x : Int) (os : List (Int × Int)) (w : World) (h : CalAt w v c) (hp : PairsAt w pv os) :
    Gives Try.prog 16 #[v, .agg #[.int .i64 a, .int .i64 n, .int .i64 x], pv] w (.bool true) := by
  obtain ⟨fa, fc, sa, sc, rfl, hf, hs, hfc, hsc, hfl, hsl⟩ := h.cells
  have HCal := Lib.hid h
  clear h hf hs
  unfold Gives
  have HP := Lib.hid hp
  obtain ⟨pa, pc, rfl, hpl, hpm, _⟩ := hp
  have s0 : (inR c a n x == inR c a n x) = true := by simp
  have s1 : (askedF c [a, x] [n] == askedF c [a, x] [n]) = true := by simp
  have s2 : (objE c a n os == objE c a n os) = true := by simp
  cases hL : (decide (100 < c.free.length) || decide (100 < c.still.length))
  · by_cases hlen : 100 < os.length
    · have hl : decide ((100 : Int) < (os.length : Int)) = true := by simp; omega
      go_enter Try.func16, Try.ntmps16
      go_wp2_with (first | (go_at_call 17; (with_reducible refine (long_calls _ c _ (HCal.out.below (by (repeat' (first | exact Below.refl _ _ | assumption | refine below_new ?_ _ | refine below_draw ?_ | refine below_tail (by assumption) ?_ | refine below_set ?_ (by first | omega | (simp <;> omega)) _))))).use ?_); intro w1 hb1 hz1 hc1 hf1; (try simp at hz1); have hy1 : w.heap.size + 1 < w1.heap.size := (by omega); have hx10 := fun o => hc1 (w.heap.size) o (by first | omega | (simp <;> omega)); have hx11 := fun o => hc1 (w.heap.size + 1) o (by first | omega | (simp <;> omega)); clear hc1 hf1; rw [hL]) | (go_at_call 18; (with_reducible refine (known_calls _).use ?_); intro w20 hb20 hz20 hc20 hf20; (try simp at hz20); have hy20 : w.heap.size + 1 < w20.heap.size := (by omega); have hx200 := fun o => hc20 (w.heap.size) o (by first | omega | (simp <;> omega)); have hx201 := fun o => hc20 (w.heap.size + 1) o (by first | omega | (simp <;> omega)); clear hc20 hf20))
      go_ret
      exact ⟨rfl, by (repeat' (first | exact Below.refl _ _ | assumption | refine below_new ?_ _ | refine below_draw ?_ | refine below_tail (by assumption) ?_ | refine below_set ?_ (by first | omega | (simp <;> omega)) _))⟩
    · have hl : decide ((100 : Int) < (os.length : Int)) = false := by simp; omega
      go_enter Try.func16, Try.ntmps16
      go_wp2_with (first | (go_at_call 17; (with_reducible refine (long_calls _ c _ (HCal.out.below (by (repeat' (first | exact Below.refl _ _ | assumption | refine below_new ?_ _ | refine below_draw ?_ | refine below_tail (by assumption) ?_ | refine below_set ?_ (by first | omega | (simp <;> omega)) _))))).use ?_); intro w1 hb1 hz1 hc1 hf1; (try simp at hz1); have hy1 : w.heap.size + 1 < w1.heap.size := (by omega); have hx10 := fun o => hc1 (w.heap.size) o (by first | omega | (simp <;> omega)); have hx11 := fun o => hc1 (w.heap.size + 1) o (by first | omega | (simp <;> omega)); clear hc1 hf1; rw [hL]) | (go_at_call 31; (with_reducible refine (InTime_calls _ c a n x _ (HCal.out.below (by (repeat' (first | exact Below.refl _ _ | assumption | refine below_new ?_ _ | refine below_draw ?_ | refine below_tail (by assumption) ?_ | refine below_set ?_ (by first | omega | (simp <;> omega)) _))))).use ?_); intro w2 hb2 hz2 hc2 hf2; (try simp at hz2); have hy2 : w.heap.size + 1 < w2.heap.size := (by omega); have hx20 := fun o => hc2 (w.heap.size) o (by first | omega | (simp <;> omega)); have hx21 := fun o => hc2 (w.heap.size + 1) o (by first | omega | (simp <;> omega)); clear hc2 hf2) | (go_at_call 52; (with_reducible refine (rInTime_calls _ c a n x _ (HCal.out.below (by (repeat' (first | exact Below.refl _ _ | assumption | refine below_new ?_ _ | refine below_draw ?_ | refine below_tail (by assumption) ?_ | refine below_set ?_ (by first | omega | (simp <;> omega)) _))))).use ?_); intro w3 hb3 hz3 hc3 hf3; (try simp at hz3); have hy3 : w.heap.size + 1 < w3.heap.size := (by omega); have hx30 := fun o => hc3 (w.heap.size) o (by first | omega | (simp <;> omega)); have hx31 := fun o => hc3 (w.heap.size + 1) o (by first | omega | (simp <;> omega)); clear hc3 hf3) | (go_at_call 53; (with_reducible refine (Objectors_calls _ _ c a n os _ (HCal.out.below (by (repeat' (first | exact Below.refl _ _ | assumption | refine below_new ?_ _ | refine below_draw ?_ | refine below_tail (by assumption) ?_ | refine below_set ?_ (by first | omega | (simp <;> omega)) _)))) (HP.out.below (by (repeat' (first | exact Below.refl _ _ | assumption | refine below_new ?_ _ | refine below_draw ?_ | refine below_tail (by assumption) ?_ | refine below_set ?_ (by first | omega | (simp <;> omega)) _))))).use ?_); intro a4 p4 w4 hb4 hz4 hc4 hf4 HI4; (try simp at hz4); have hy4 : w.heap.size + 1 < w4.heap.size := (by omega); have hx40 := fun o => hc4 (w.heap.size) o (by first | omega | (simp <;> omega)); have hx41 := fun o => hc4 (w.heap.size + 1) o (by first | omega | (simp <;> omega)); clear hc4 hf4) | (go_at_call 54; (with_reducible refine (rObjectors_calls _ _ c a n os _ (HCal.out.below (by (repeat' (first | exact Below.refl _ _ | assumption | refine below_new ?_ _ | refine below_draw ?_ | refine below_tail (by assumption) ?_ | refine below_set ?_ (by first | omega | (simp <;> omega)) _)))) (HP.out.below (by (repeat' (first | exact Below.refl _ _ | assumption | refine below_new ?_ _ | refine below_draw ?_ | refine below_tail (by assumption) ?_ | refine below_set ?_ (by first | omega | (simp <;> omega)) _))))).use ?_); intro a5 p5 w5 hb5 hz5 hc5 hf5 HI5; (try simp at hz5); have hy5 : w.heap.size + 1 < w5.heap.size := (by omega); have hx50 := fun o => hc5 (w.heap.size) o (by first | omega | (simp <;> omega)); have hx51 := fun o => hc5 (w.heap.size + 1) o (by first | omega | (simp <;> omega)); clear hc5 hf5) | (go_at_call 24; (with_reducible refine (sameInts_calls _ _ (objL c a n os) _ (HI4.out.below (by (repeat' (first | exact Below.refl _ _ | assumption | refine below_new ?_ _ | refine below_draw ?_ | refine below_tail (by assumption) ?_ | refine below_set ?_ (by first | omega | (simp <;> omega)) _)))) HI5.out).use ?_); intro w6 hb6 hz6 hc6 hf6; (try simp at hz6); have hy6 : w.heap.size + 1 < w6.heap.size := (by omega); have hx60 := fun o => hc6 (w.heap.size) o (by first | omega | (simp <;> omega)); have hx61 := fun o => hc6 (w.heap.size + 1) o (by first | omega | (simp <;> omega)); clear hc6 hf6) | (go_at_call 18; (with_reducible refine (known_calls _).use ?_); intro w20 hb20 hz20 hc20 hf20; (try simp at hz20); have hy20 : w.heap.size + 1 < w20.heap.size := (by omega); have hx200 := fun o => hc20 (w.heap.size) o (by first | omega | (simp <;> omega)); have hx201 := fun o => hc20 (w.heap.size + 1) o (by first | omega | (simp <;> omega)); clear hc20 hf20))
      go_ret
      exact ⟨rfl, by (repeat' (first | exact Below.refl _ _ | assumption | refine below_new ?_ _ | refine below_draw ?_ | refine below_tail (by assumption) ?_ | refine below_set ?_ (by first | omega | (simp <;> omega)) _))⟩
  · go_enter Try.func16, Try.ntmps16
    go_wp2_with (first | (go_at_call 17; (with_reducible refine (long_calls _ c _ (HCal.out.below (by (repeat' (first | exact Below.refl _ _ | assumption | refine below_new ?_ _ | refine below_draw ?_ | refine below_tail (by assumption) ?_ | refine below_set ?_ (by first | omega | (simp <;> omega)) _))))).use ?_); intro w1 hb1 hz1 hc1 hf1; (try simp at hz1); have hy1 : w.heap.size + 1 < w1.heap.size := (by omega); have hx10 := fun o => hc1 (w.heap.size) o (by first | omega | (simp <;> omega)); have hx11 := fun o => hc1 (w.heap.size + 1) o (by first | omega | (simp <;> omega)); clear hc1 hf1; rw [hL]) | (go_at_call 18; (with_reducible refine (known_calls _).use ?_); intro w20 hb20 hz20 hc20 hf20; (try simp at hz20); have hy20 : w.heap.size + 1 < w20.heap.size := (by omega); have hx200 := fun o => hc20 (w.heap.size) o (by first | omega | (simp <;> omega)); have hx201 := fun o => hc20 (w.heap.size + 1) o (by first | omega | (simp <;> omega)); clear hc20 hf20))
    go_ret
    exact ⟨rfl, by (repeat' (first | exact Below.refl _ _ | assumption | refine below_new ?_ _ | refine below_draw ?_ | refine below_tail (by assumption) ?_ | refine below_set ?_ (by first | omega | (simp <;> omega)) _))⟩
end Go.Proofs.Ytnhohnnoffhkhaa
