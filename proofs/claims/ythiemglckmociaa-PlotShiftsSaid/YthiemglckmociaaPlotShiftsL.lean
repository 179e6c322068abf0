/- The law PlotShifts returns true. Conditions: the lists lie in memory as said. -/
import Derived.Test.YthiemglckmociaaPlotAreasL
import Derived.Test.YthiemglckmociaaPtRShift
import Derived.Test.YthiemglckmociaaPtSame
namespace Go.Proofs.Ythiemglckmociaa
open Go.RowKit

theorem Shift_is {v : Value} {l L : List (Int × Int)} {d : Int × Int} {E : Int} (w : World) (h : PairsAt w v l) (hL : chL (mov (nearP d)) l = L) (hE : chE (mov (nearP d)) l = E) : GivesPts Try.prog 31 #[v, .agg #[.int .i64 d.1, .int .i64 d.2]] w L E := by subst hL hE; exact Shift_calls v l d w h
theorem rShift_is {v : Value} {l L : List (Int × Int)} {d : Int × Int} {E : Int} (w : World) (h : PairsAt w v l) (hL : chL (mov (nearP d)) l = L) (hE : chE (mov (nearP d)) l = E) : GivesPts Try.prog 32 #[v, .agg #[.int .i64 d.1, .int .i64 d.2]] w L E := by subst hL hE; exact rShift_calls v l d w h
/-- What no error means. -/
theorem ch_ok {g : Int × Int → Int × Int} {s : Int} {l : List (Int × Int)} (k : Keeps g s) (h : chE g l = 0) : validF l = 0 ∧ chL g l = l.map g ∧ validF (l.map g) = 0 := by
  unfold chE at h
  by_cases hv : validF l = 0
  · rw [if_pos hv] at h
    by_cases hr : rangedB (l.map g) = true
    · refine ⟨hv, by unfold chL; rw [if_pos hv, if_pos hr], ?_⟩
      have hV := valid_iff.1 hv
      have h3 := hV.lo
      refine valid_iff.2 (hV.map k fun i => ?_)
      have hm : i % l.length < l.length := Nat.mod_lt _ (by omega)
      have := List.all_eq_true.1 hr (g (cor l i)) (List.mem_map.2 ⟨_, by unfold cor; rw [gi_lt hm]; exact List.getElem_mem _, rfl⟩)
      exact inR_iff.1 this
    · rw [if_neg hr] at h; cases h
  · rw [if_neg hv] at h; exact absurd h hv
set_option maxHeartbeats 2000000 in
theorem plotShifts_calls (v : Value) (l : List (Int × Int)) (d : Int × Int) (w : World) (h : PairsAt w v l) : Gives Try.prog 6 #[v, .agg #[.int .i64 d.1, .int .i64 d.2]] w (.bool true) := by
  have HP := Lib.hid h
  obtain ⟨sa, cap, rfl, hlc, hcm, _⟩ := h
  unfold Gives
  obtain ⟨b, hb⟩ : ∃ b, decide (40 < (l.length : Int)) = b := ⟨_, rfl⟩
  have HLO := Lib.hid hb
  clear hb
  cases b
  · obtain ⟨L, hL⟩ : ∃ e, chL (mov (nearP d)) l = e := ⟨_, rfl⟩
    obtain ⟨E, hE⟩ : ∃ e, chE (mov (nearP d)) l = e := ⟨_, rfl⟩
    have HL := Lib.hid hL
    have HE := Lib.hid hE
    clear hE
    by_cases hz : E = 0
    · subst hz
      obtain ⟨hv, hl, hm⟩ := ch_ok (keeps_mov (nearP d)) HE.out
      have hi := inside_map (keeps_mov (nearP d)) (gcd_mov _) hv hm
      have ht := left_map (keeps_mov (nearP d)) hv hm
      rw [← hl, hL] at hm hi ht
      have hib := inside_bd l
      obtain ⟨n, hn⟩ : ∃ n, insideF l = n := ⟨_, rfl⟩
      obtain ⟨t, htt⟩ : ∃ n, leftF l = n := ⟨_, rfl⟩
      rw [hn] at hi hib
      rw [htt] at ht
      have HI := Lib.hid hn
      have HIL := Lib.hid hi
      have HT := Lib.hid htt
      have HTL := Lib.hid ht
      have HV := Lib.hid hv
      have HVL := Lib.hid hm
      clear hL hl hv hm hi ht hn htt
      go_enter Try.func6, Try.ntmps6
      go_wp2_with (first | (go_at_call 17; refine (Long_is _ (HP.out.below (by (repeat' (first | exact Below.refl _ _ | assumption | refine below_new ?_ _ | refine below_draw ?_ | refine below_tail (by assumption) ?_ | refine below_set ?_ (by first | omega | (simp <;> omega)) _)))) HLO.out).use ?_; intro wl hbl hzl hcl hfl; (try simp at hzl); have hyl : w.heap.size < wl.heap.size := (by omega); have hxl0 := fun o => hcl w.heap.size o (by first | omega | (simp <;> omega)); clear hcl hfl) | (go_at_call 18; refine (known_calls _).use ?_; intro wk hbk hzk hck hfk; clear hck hfk) | (go_at_call 31; (with_reducible refine (Shift_is _ (HP.out.below (by (repeat' (first | exact Below.refl _ _ | assumption | refine below_new ?_ _ | refine below_draw ?_ | refine below_tail (by assumption) ?_ | refine below_set ?_ (by first | omega | (simp <;> omega)) _)))) HL.out HE.out).use ?_); intro sa1 cap1 w1 hb1 hz1 hc1 hf1 HO1; (try simp at hz1); have hy1 : w.heap.size < w1.heap.size := (by omega); have hx1 := fun o => hc1 w.heap.size o (by first | omega | (simp <;> omega)); clear hc1 hf1; have HA1 := Lib.hid (own_pairs HO1.out)) | (go_at_call 32; (with_reducible refine (rShift_is _ (HP.out.below (by (repeat' (first | exact Below.refl _ _ | assumption | refine below_new ?_ _ | refine below_draw ?_ | refine below_tail (by assumption) ?_ | refine below_set ?_ (by first | omega | (simp <;> omega)) _)))) HL.out HE.out).use ?_); intro sa2 cap2 w2 hb2 hz2 hc2 hf2 HO2; clear hz2 hc2 hf2; have HA2 := Lib.hid (own_pairs HO2.out)) | (go_at_call 33; (with_reducible refine (samePts_calls _ _ L _ (HA1.out.below (by (repeat' (first | exact Below.refl _ _ | assumption | refine below_new ?_ _ | refine below_draw ?_ | refine below_tail (by assumption) ?_ | refine below_set ?_ (by first | omega | (simp <;> omega)) _)))) (HA2.out.below (by (repeat' (first | exact Below.refl _ _ | assumption | refine below_new ?_ _ | refine below_draw ?_ | refine below_tail (by assumption) ?_ | refine below_set ?_ (by first | omega | (simp <;> omega)) _))))).use ?_); intro w3 hb3 hz3 hc3 hf3; clear hz3 hc3 hf3) | (go_at_call 21; first | ((with_reducible refine (Inside_is _ (HA1.out.below (by (repeat' (first | exact Below.refl _ _ | assumption | refine below_new ?_ _ | refine below_draw ?_ | refine below_tail (by assumption) ?_ | refine below_set ?_ (by first | omega | (simp <;> omega)) _)))) HIL.out HVL.out).use ?_); intro w4 hb4 hz4 hc4 hf4; clear hz4 hc4 hf4) | ((with_reducible refine (Inside_is _ (HP.out.below (by (repeat' (first | exact Below.refl _ _ | assumption | refine below_new ?_ _ | refine below_draw ?_ | refine below_tail (by assumption) ?_ | refine below_set ?_ (by first | omega | (simp <;> omega)) _)))) HI.out HV.out).use ?_); intro w5 hb5 hz5 hc5 hf5; clear hz5 hc5 hf5)) | (go_at_call 25; first | ((with_reducible refine (Left_is _ (HA1.out.below (by (repeat' (first | exact Below.refl _ _ | assumption | refine below_new ?_ _ | refine below_draw ?_ | refine below_tail (by assumption) ?_ | refine below_set ?_ (by first | omega | (simp <;> omega)) _)))) HTL.out HVL.out).use ?_); intro w6 hb6 hz6 hc6 hf6; clear hz6 hc6 hf6) | ((with_reducible refine (Left_is _ (HP.out.below (by (repeat' (first | exact Below.refl _ _ | assumption | refine below_new ?_ _ | refine below_draw ?_ | refine below_tail (by assumption) ?_ | refine below_set ?_ (by first | omega | (simp <;> omega)) _)))) HT.out HV.out).use ?_); intro w7 hb7 hz7 hc7 hf7; clear hz7 hc7 hf7)))
      go_ret
      exact ⟨rfl, by (repeat' (first | exact Below.refl _ _ | assumption | refine below_new ?_ _ | refine below_draw ?_ | refine below_tail (by assumption) ?_ | refine below_set ?_ (by first | omega | (simp <;> omega)) _))⟩
    · have h1 : (E == 0) = false := by simpa using hz
      have h2 : (E != 0) = true := by simpa using hz
      clear hz hL
      go_enter Try.func6, Try.ntmps6
      go_wp2_with (first | (go_at_call 17; refine (Long_is _ (HP.out.below (by (repeat' (first | exact Below.refl _ _ | assumption | refine below_new ?_ _ | refine below_draw ?_ | refine below_tail (by assumption) ?_ | refine below_set ?_ (by first | omega | (simp <;> omega)) _)))) HLO.out).use ?_; intro wl hbl hzl hcl hfl; (try simp at hzl); have hyl : w.heap.size < wl.heap.size := (by omega); have hxl0 := fun o => hcl w.heap.size o (by first | omega | (simp <;> omega)); clear hcl hfl) | (go_at_call 18; refine (known_calls _).use ?_; intro wk hbk hzk hck hfk; clear hck hfk) | (go_at_call 31; (with_reducible refine (Shift_is _ (HP.out.below (by (repeat' (first | exact Below.refl _ _ | assumption | refine below_new ?_ _ | refine below_draw ?_ | refine below_tail (by assumption) ?_ | refine below_set ?_ (by first | omega | (simp <;> omega)) _)))) HL.out HE.out).use ?_); intro sa1 cap1 w1 hb1 hz1 hc1 hf1 HO1; (try simp at hz1); have hy1 : w.heap.size < w1.heap.size := (by omega); have hx1 := fun o => hc1 w.heap.size o (by first | omega | (simp <;> omega)); clear hc1 hf1; have HA1 := Lib.hid (own_pairs HO1.out)) | (go_at_call 32; (with_reducible refine (rShift_is _ (HP.out.below (by (repeat' (first | exact Below.refl _ _ | assumption | refine below_new ?_ _ | refine below_draw ?_ | refine below_tail (by assumption) ?_ | refine below_set ?_ (by first | omega | (simp <;> omega)) _)))) HL.out HE.out).use ?_); intro sa2 cap2 w2 hb2 hz2 hc2 hf2 HO2; clear hz2 hc2 hf2; have HA2 := Lib.hid (own_pairs HO2.out)) | (go_at_call 33; (with_reducible refine (samePts_calls _ _ L _ (HA1.out.below (by (repeat' (first | exact Below.refl _ _ | assumption | refine below_new ?_ _ | refine below_draw ?_ | refine below_tail (by assumption) ?_ | refine below_set ?_ (by first | omega | (simp <;> omega)) _)))) (HA2.out.below (by (repeat' (first | exact Below.refl _ _ | assumption | refine below_new ?_ _ | refine below_draw ?_ | refine below_tail (by assumption) ?_ | refine below_set ?_ (by first | omega | (simp <;> omega)) _))))).use ?_); intro w3 hb3 hz3 hc3 hf3; clear hz3 hc3 hf3))
      go_ret
      exact ⟨rfl, by (repeat' (first | exact Below.refl _ _ | assumption | refine below_new ?_ _ | refine below_draw ?_ | refine below_tail (by assumption) ?_ | refine below_set ?_ (by first | omega | (simp <;> omega)) _))⟩
  · skip
    go_enter Try.func6, Try.ntmps6
    go_wp2_with (first | (go_at_call 17; refine (Long_is _ (HP.out.below (by (repeat' (first | exact Below.refl _ _ | assumption | refine below_new ?_ _ | refine below_draw ?_ | refine below_tail (by assumption) ?_ | refine below_set ?_ (by first | omega | (simp <;> omega)) _)))) HLO.out).use ?_; intro wl hbl hzl hcl hfl; (try simp at hzl); have hyl : w.heap.size < wl.heap.size := (by omega); have hxl0 := fun o => hcl w.heap.size o (by first | omega | (simp <;> omega)); clear hcl hfl) | (go_at_call 18; refine (known_calls _).use ?_; intro wk hbk hzk hck hfk; clear hck hfk))
    go_ret
    exact ⟨rfl, by (repeat' (first | exact Below.refl _ _ | assumption | refine below_new ?_ _ | refine below_draw ?_ | refine below_tail (by assumption) ?_ | refine below_set ?_ (by first | omega | (simp <;> omega)) _))⟩

end Go.Proofs.Ythiemglckmociaa
