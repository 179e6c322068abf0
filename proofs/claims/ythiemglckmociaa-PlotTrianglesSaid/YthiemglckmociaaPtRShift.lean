/- What Shift of the document gives. Conditions: the list lies in memory as said. -/
import Derived.Test.YthiemglckmociaaPtRQuarter
namespace Go.Proofs.Ythiemglckmociaa
open Go.RowKit
theorem betw_iff {lo n hi : Int} : betw lo n hi = true ↔ lo ≤ n ∧ n ≤ hi := by unfold betw; simp
theorem near_id {n : Int} (h : betw (-60) n 60 = true) : nearF n = n := by
  have h := betw_iff.1 h
  unfold nearF; split
  · omega
  · split <;> omega
theorem near_far {n : Int} (h : betw (-60) n 60 = false) : nearF n < -60 ∨ 60 < nearF n := by
  have h : ¬ (-60 ≤ n ∧ n ≤ 60) := fun e => by rw [betw_iff.2 e] at h; cases h
  unfold nearF; split
  · omega
  · split <;> omega
theorem shift_id {d : Int × Int} (h1 : betw (-60) d.1 60 = true) (h2 : betw (-60) d.2 60 = true) : nearP d = d := by unfold nearP; rw [near_id h1, near_id h2]
theorem shift_no {l : List (Int × Int)} {d : Int × Int} (hv : Valid l) (h : betw (-60) d.1 60 = false ∨ betw (-60) d.2 60 = false) : rangedB (l.map (mov (nearP d))) = false := by
  have h3 := hv.lo
  refine ranged_no (k := 0) (by omega) ?_
  have hr := hv.rng 0
  rw [cor_lt (by omega)] at hr
  cases e : inR (mov (nearP d) (gi l (0, 0) 0))
  · rfl
  · obtain ⟨⟨e1, e2⟩, e3, e4⟩ := inR_iff.1 e
    unfold mov nearP at e1 e2 e3 e4
    simp only at e1 e2 e3 e4
    rcases h with h | h
    · have := near_far h; omega
    · have := near_far h; omega
set_option maxRecDepth 100000 in
set_option maxHeartbeats 4000000 in
theorem rShift_calls (v : Value) (l : List (Int × Int)) (d : Int × Int) (w : World) (h : PairsAt w v l) : GivesPts Try.prog 32 #[v, .agg #[.int .i64 d.1, .int .i64 d.2]] w (chL (mov (nearP d)) l) (chE (mov (nearP d)) l) := by
  have HP := Lib.hid h
  obtain ⟨sa, cap, rfl, hlc, hcm, _⟩ := h
  have HL : Hid (chL (mov (nearP d)) l = if validF l = 0 then (if rangedB (l.map (mov (nearP d))) = true then l.map (mov (nearP d)) else []) else []) := rfl
  have HQ : Hid (chE (mov (nearP d)) l = if validF l = 0 then (if rangedB (l.map (mov (nearP d))) = true then 0 else 1) else validF l) := rfl
  obtain ⟨L, hL⟩ : ∃ L, chL (mov (nearP d)) l = L := ⟨_, rfl⟩
  obtain ⟨E, hE⟩ : ∃ L, chE (mov (nearP d)) l = L := ⟨_, rfl⟩
  rw [hL, hE]
  rw [hL] at HL
  rw [hE] at HQ
  clear hL hE
  unfold GivesPts
  obtain ⟨e, he⟩ : ∃ e, validF l = e := ⟨_, rfl⟩
  have HE := Lib.hid he
  clear he
  by_cases hz : e = 0
  · have HZ := Lib.hid (HE.out.trans hz)
    have HV := Lib.hid (valid_iff.1 HZ.out)
    have hhi := HV.out.hi
    have x0 : (e != 0) = false := by simpa using hz
    clear hz
    cases hb1 : betw (-60) d.1 60
    · have HB1 := Lib.hid hb1
      have HN := Lib.hid (shift_no HV.out (.inl hb1))
      clear hb1
      go_enter Try.func32, Try.ntmps32
      cases hb2 : betw (-60) d.2 60
      all_goals
        have HB2 := Lib.hid hb2
        clear hb2
        go_wp2_with (first | (go_at_call 28; (with_reducible refine (rvalidate_is _ (HP.out.below (by (repeat' (first | exact Below.refl _ _ | assumption | refine below_new ?_ _ | refine below_draw ?_ | refine below_tail (by assumption) ?_ | refine below_set ?_ (by first | omega | (simp <;> omega)) _)))) HE.out).use ?_); intro w1 hb1 hz1 hc1 hf1; (try simp at hz1); have hy1 : w.heap.size < w1.heap.size := (by omega); have hx1 := fun o => hc1 w.heap.size o (by first | omega | (simp <;> omega)); clear hc1 hf1) | (go_at_call 69; (with_reducible refine (rWithin_is _ HB1.out).use ?_); intro v1 hv1 hvz1 hvc1 hvf1; (try simp at hvz1); have vy1 : w.heap.size < v1.heap.size := (by omega); have vx1 := fun o => hvc1 w.heap.size o (by first | omega | (simp <;> omega)); clear hvc1 hvf1) | (go_at_call 69; (with_reducible refine (rWithin_is _ HB2.out).use ?_); intro v2 hv2 hvz2 hvc2 hvf2; (try simp at hvz2); have vy2 : w.heap.size < v2.heap.size := (by omega); have vx2 := fun o => hvc2 w.heap.size o (by first | omega | (simp <;> omega)); clear hvc2 hvf2))
        go_ret2
        exact ⟨_, by rw [HQ.out, if_pos HZ.out, if_neg (by rw [HN.out]; decide)]; rfl, by rw [HL.out, if_pos HZ.out, if_neg (by rw [HN.out]; decide)]; exact World.ownsRow_nil _ _ _ _, by (repeat' (first | exact Below.refl _ _ | assumption | refine below_new ?_ _ | refine below_draw ?_ | refine below_tail (by assumption) ?_ | refine below_set ?_ (by first | omega | (simp <;> omega)) _))⟩
    · have HB1 := Lib.hid hb1
      have HX1 := Lib.hid (betw_iff.1 hb1)
      clear hb1
      cases hb2 : betw (-60) d.2 60
      · have HB2 := Lib.hid hb2
        have HN := Lib.hid (shift_no HV.out (.inr hb2))
        clear hb2
        go_enter Try.func32, Try.ntmps32
        go_wp2_with (first | (go_at_call 28; (with_reducible refine (rvalidate_is _ (HP.out.below (by (repeat' (first | exact Below.refl _ _ | assumption | refine below_new ?_ _ | refine below_draw ?_ | refine below_tail (by assumption) ?_ | refine below_set ?_ (by first | omega | (simp <;> omega)) _)))) HE.out).use ?_); intro w1 hb1 hz1 hc1 hf1; (try simp at hz1); have hy1 : w.heap.size < w1.heap.size := (by omega); have hx1 := fun o => hc1 w.heap.size o (by first | omega | (simp <;> omega)); clear hc1 hf1) | (go_at_call 69; (with_reducible refine (rWithin_is _ HB1.out).use ?_); intro v1 hv1 hvz1 hvc1 hvf1; (try simp at hvz1); have vy1 : w.heap.size < v1.heap.size := (by omega); have vx1 := fun o => hvc1 w.heap.size o (by first | omega | (simp <;> omega)); clear hvc1 hvf1) | (go_at_call 69; (with_reducible refine (rWithin_is _ HB2.out).use ?_); intro v2 hv2 hvz2 hvc2 hvf2; clear hvc2 hvf2))
        go_ret2
        exact ⟨_, by rw [HQ.out, if_pos HZ.out, if_neg (by rw [HN.out]; decide)]; rfl, by rw [HL.out, if_pos HZ.out, if_neg (by rw [HN.out]; decide)]; exact World.ownsRow_nil _ _ _ _, by (repeat' (first | exact Below.refl _ _ | assumption | refine below_new ?_ _ | refine below_draw ?_ | refine below_tail (by assumption) ?_ | refine below_set ?_ (by first | omega | (simp <;> omega)) _))⟩
      · have HB2 := Lib.hid hb2
        have HX2 := Lib.hid (betw_iff.1 hb2)
        have HI := Lib.hid (shift_id HB1.out hb2)
        clear hb2
        obtain ⟨i0, hi0, hz0, hi1, hi2⟩ := info_parts infoPoint
        go_enter Try.func32, Try.ntmps32
        go_wp2_with (first | (go_at_call 28; (with_reducible refine (rvalidate_is _ (HP.out.below (by (repeat' (first | exact Below.refl _ _ | assumption | refine below_new ?_ _ | refine below_draw ?_ | refine below_tail (by assumption) ?_ | refine below_set ?_ (by first | omega | (simp <;> omega)) _)))) HE.out).use ?_); intro w1 hb1 hz1 hc1 hf1; (try simp at hz1); have hy1 : w.heap.size < w1.heap.size := (by omega); have hx1 := fun o => hc1 w.heap.size o (by first | omega | (simp <;> omega)); clear hc1 hf1) | (go_at_call 69; (with_reducible refine (rWithin_is _ HB1.out).use ?_); intro v1 hv1 hvz1 hvc1 hvf1; (try simp at hvz1); have vy1 : w.heap.size < v1.heap.size := (by omega); have vx1 := fun o => hvc1 w.heap.size o (by first | omega | (simp <;> omega)); clear hvc1 hvf1) | (go_at_call 69; (with_reducible refine (rWithin_is _ HB2.out).use ?_); intro v2 hv2 hvz2 hvc2 hvf2; have vx2 := fun o => hvc2 w.heap.size o (by first | omega | (simp <;> omega)); clear hvc2 hvf2))
        have hbY : Below w.heap.size w (w.alloc (.cells #[.int .i64 d.1, .int .i64 d.2] 32)) := by (repeat' (first | exact Below.refl _ _ | assumption | refine below_new ?_ _ | refine below_draw ?_ | refine below_tail (by assumption) ?_ | refine below_set ?_ (by first | omega | (simp <;> omega)) _))
        have HPY := Lib.hid (HP.out.below hbY)
        have hbv : Below (w.alloc (.cells #[.int .i64 d.1, .int .i64 d.2] 32)).heap.size (w.alloc (.cells #[.int .i64 d.1, .int .i64 d.2] 32)) v2 := by (repeat' (first | exact Below.refl _ _ | assumption | refine below_new ?_ _ | refine below_draw ?_ | refine below_tail (by assumption) ?_ | refine below_set ?_ (by first | omega | (simp <;> omega)) _))
        have c0 : (w.alloc (.cells #[.int .i64 d.1, .int .i64 d.2] 32)).cell? ⟨w.heap.size, 0, none⟩ = some (.int .i64 d.1) := by simp
        have c1 : (w.alloc (.cells #[.int .i64 d.1, .int .i64 d.2] 32)).cell? ⟨w.heap.size, 1, none⟩ = some (.int .i64 d.2) := by simp
        have hYs : (w.alloc (.cells #[.int .i64 d.1, .int .i64 d.2] 32)).heap.size = w.heap.size + 1 := by simp
        generalize (w.alloc (.cells #[.int .i64 d.1, .int .i64 d.2] 32)) = Y at hbY HPY hbv c0 c1 hYs
        clear hb1 hz1 hy1 hx1 hv1 hvz1 vy1 vx1 hv2 hvz2 vx2
        have hbv' : Below w.heap.size w v2 := below_tail hbv hbY
        go_loopw [7, 8] (fun vv kk wr => ∃ k : Nat, k ≤ l.length ∧ kk = .int .i64 k ∧ wr.ownsRow (w.heap.size + 1) 32 2 vv (mapK (mov d) l k).length (cells2 (mapK (mov d) l k)) ∧ Below Y.heap.size Y wr) (fun _ kk _ => l.length - (intOf kk).toNat)
        case atStart => exact ⟨0, Nat.zero_le _, rfl, World.ownsRow_nil _ _ _ _, hbv⟩
        case round =>
          obtain ⟨k, hk, rfl, hown, hbw⟩ := hrel
          have q0 := (hbw.cell (p := ⟨w.heap.size, 0, none⟩) (by simp; omega)).trans c0
          have q1 := (hbw.cell (p := ⟨w.heap.size, 1, none⟩) (by simp; omega)).trans c1
          by_cases hlt : k < l.length
          · have hg : decide ((k : Int) < (l.length : Int)) = true := by simpa using hlt
            obtain ⟨b, o, rfl, hB, hcell, hdell⟩ := HPY.out.cellB hbw hlt
            obtain ⟨⟨y1, y2⟩, y3, y4⟩ := gi_bd HV.out hlt
            obtain ⟨z1, z2⟩ := HX1.out
            obtain ⟨z3, z4⟩ := HX2.out
            have hml := mapK_length (mov d) l k
            have hk0 : (0 : Int) ≤ (k : Int) := Int.natCast_nonneg _
            have hk1 : (k : Int) < (l.length : Int) := by omega
            have hob := own_ne hown (show b < (w.heap.size + 1) by omega)
            have hobB := own_ne hown (show w.heap.size < (w.heap.size + 1) by omega)
            have hws := hbw.size
            go_wp2
            go_region_held3 (fun w' => w'.cell? ⟨b, o + k * 2, none⟩ = some (.int .i64 (gi l (0, 0) k).1) ∧ w'.cell? ⟨b, o + k * 2 + 1, none⟩ = some (.int .i64 (gi l (0, 0) k).2) ∧ w'.cell? ⟨w.heap.size, 0, none⟩ = some (.int .i64 d.1) ∧ w'.cell? ⟨w.heap.size, 1, none⟩ = some (.int .i64 d.2))
              (first
                | go_keep
                | (go_split_ands
                   refine ⟨?_, ?_, ?_, ?_⟩
                   · (rw [hgrow.cell_far _ (by simp; omega) (Ne.symm hob)]; assumption)
                   · (rw [hgrow.cell_far _ (by simp; omega) (Ne.symm hob)]; assumption)
                   · (rw [hgrow.cell_far _ (by simp; omega) (Ne.symm hobB)]; assumption)
                   · (rw [hgrow.cell_far _ (by simp; omega) (Ne.symm hobB)]; assumption)))
              ((refine step_append_lies _ (by rfl) _ _ _ (by rfl) (w.heap.size + 1) 32 i0 _ 2 16 Try.underlying22 hi0 hz0 hi1 hi2 rfl (by decide) _ _ _ (by rfl) ((hown.alloc _).drew)
                  ⟨wr.heap.size, 0, none⟩ 1 1 (cells2 [(mov d) (gi l (0, 0) k)]) (by rfl) (by rfl) (app_srcD _ _ _ _ _ (IntWalk.i64_in _ (by omega)) (IntWalk.i64_in _ (by omega))) (cells2_one _)
                  (by omega) (by unfold maxLen; omega) (by omega) (by simp; omega) (wr.heap.size + 1) (by simp) ?_; intro gg cap' w4 hown4 hgrow hat hlt4))
            have hb4 := ((hbw.alloc hws _).drew).grown hgrow (by simp; omega) (fun b h => by have := own_block_le2 hown b h; omega)
            go_wp2
            rw [hml] at hown4
            go_roundw
            case rel => exact ⟨k + 1, by omega, by go_num, by rw [mapK_succ]; exact own_more2 hown4 (by omega), hb4⟩
            case measure => simp [intOf]; omega
          · have hg : decide ((k : Int) < (l.length : Int)) = false := by simpa using hlt
            obtain rfl : k = l.length := by omega
            have HO := Lib.hid hown
            rw [mapK_all] at hown
            have HPO := Lib.hid (own_pairs hown)
            cases hr : rangedB (l.map (mov d))
            all_goals
              have HR := Lib.hid hr
              clear hr
              go_wp2_with (go_at_call 70; (with_reducible refine (ranged_is _ HPO.out HR.out).use ?_); intro w9 hb9 hz9 hc9 hf9; clear hc9 hf9)
              go_ret2
            · exact ⟨_, by rw [HQ.out, if_pos HZ.out, HI.out, if_neg (by rw [HR.out]; decide)]; rfl, by rw [HL.out, if_pos HZ.out, HI.out, if_neg (by rw [HR.out]; decide)]; exact World.ownsRow_nil _ _ _ _, by (repeat' (first | exact Below.refl _ _ | assumption | refine below_new ?_ _ | refine below_draw ?_ | refine below_tail (by assumption) ?_ | refine below_set ?_ (by first | omega | (simp <;> omega)) _))⟩
            · have hown9 := own_below hown hb9
              exact ⟨_, by rw [HQ.out, if_pos HZ.out, HI.out, if_pos HR.out]; rfl, by rw [HL.out, if_pos HZ.out, HI.out, if_pos HR.out]; refine own_base ?_ (Nat.le_succ _); simpa using hown9, below_tail hb9 (below_tail hbw hbY)⟩
  · have h1 : (e == 0) = false := by simpa using hz
    have h2 : (e != 0) = true := by simpa using hz
    have HZ := Lib.hid hz
    clear hz
    go_enter Try.func32, Try.ntmps32
    go_wp2_with (go_at_call 28; (with_reducible refine (rvalidate_is _ (HP.out.below (by (repeat' (first | exact Below.refl _ _ | assumption | refine below_new ?_ _ | refine below_draw ?_ | refine below_tail (by assumption) ?_ | refine below_set ?_ (by first | omega | (simp <;> omega)) _)))) HE.out).use ?_); intro w1 hb1 hz1 hc1 hf1; (try simp at hz1); have hy1 : w.heap.size < w1.heap.size := (by omega); have hx1 := fun o => hc1 w.heap.size o (by first | omega | (simp <;> omega)); clear hc1 hf1)
    go_ret2
    exact ⟨_, by rw [HQ.out, if_neg (by rw [HE.out]; exact HZ.out), HE.out]; rfl, by rw [HL.out, if_neg (by rw [HE.out]; exact HZ.out)]; exact World.ownsRow_nil _ _ _ _, by (repeat' (first | exact Below.refl _ _ | assumption | refine below_new ?_ _ | refine below_draw ?_ | refine below_tail (by assumption) ?_ | refine below_set ?_ (by first | omega | (simp <;> omega)) _))⟩
end Go.Proofs.Ythiemglckmociaa
