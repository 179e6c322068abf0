/- The law PlotTurns returns true. Conditions: the lists lie in memory as said. -/
import Derived.Test.YthiemglckmociaaPlotAreasL
import Derived.Test.YthiemglckmociaaPtTurns
import Derived.Test.YthiemglckmociaaPtSame
import Derived.Test.YthiemglckmociaaPlotSameL
import Derived.Deep.DeepCutAuto
namespace Go.Proofs.Ythiemglckmociaa
open Go.RowKit

def turnL (g : Int × Int → Int × Int) (l : List (Int × Int)) : List (Int × Int) := if validF l = 0 then l.map g else []
def revL (l : List (Int × Int)) : List (Int × Int) := if validF l = 0 then l.reverse else []
theorem ch_turn {g : Int × Int → Int × Int} (hg : ∀ x, inR x = true → inR (g x) = true) (l : List (Int × Int)) : chL g l = turnL g l ∧ chE g l = validF l := by
  by_cases h : validF l = 0
  · have hv := valid_iff.1 h
    have hr : rangedB (l.map g) = true := ranged_all fun i hi => hg _ (by
      have := hv.rng i
      rw [cor_lt hi] at this
      exact inR_iff.2 this)
    unfold chL chE turnL
    rw [if_pos h, if_pos h, if_pos h, if_pos hr, if_pos hr, h]
    exact ⟨rfl, rfl⟩
  · unfold chL chE turnL
    rw [if_neg h, if_neg h, if_neg h]
    exact ⟨rfl, rfl⟩
theorem rot_in (x : Int × Int) (h : inR x = true) : inR (rot x) = true := by
  have := inR_iff.1 h
  exact inR_iff.2 (by unfold rot; simp only; omega)
theorem mir_in (x : Int × Int) (h : inR x = true) : inR (mir x) = true := by
  have := inR_iff.1 h
  exact inR_iff.2 (by unfold mir; simp only; omega)
theorem Quarter_t {v : Value} {l L : List (Int × Int)} {E : Int} (w : World) (h : PairsAt w v l) (hL : turnL rot l = L) (hE : validF l = E) : GivesPts Try.prog 34 #[v] w L E := by
  subst hL hE; obtain ⟨e1, e2⟩ := ch_turn rot_in l; rw [← e1, ← e2]; exact Quarter_calls v l w h
theorem Mirror_t {v : Value} {l L : List (Int × Int)} {E : Int} (w : World) (h : PairsAt w v l) (hL : turnL mir l = L) (hE : validF l = E) : GivesPts Try.prog 47 #[v] w L E := by
  subst hL hE; obtain ⟨e1, e2⟩ := ch_turn mir_in l; rw [← e1, ← e2]; exact Mirror_calls v l w h
theorem Reverse_t {v : Value} {l L : List (Int × Int)} {E : Int} (w : World) (h : PairsAt w v l) (hL : revL l = L) (hE : validF l = E) : GivesPts Try.prog 49 #[v] w L E := by
  subst hL hE; exact Reverse_calls v l w h
theorem rQuarter_t {v : Value} {l L : List (Int × Int)} {E : Int} (w : World) (h : PairsAt w v l) (hL : turnL rot l = L) (hE : validF l = E) : GivesPts Try.prog 46 #[v] w L E := by
  subst hL hE; exact rQuarter_calls v l w h
theorem rMirror_t {v : Value} {l L : List (Int × Int)} {E : Int} (w : World) (h : PairsAt w v l) (hL : turnL mir l = L) (hE : validF l = E) : GivesPts Try.prog 48 #[v] w L E := by
  subst hL hE; exact rMirror_calls v l w h
theorem rReverse_t {v : Value} {l L : List (Int × Int)} {E : Int} (w : World) (h : PairsAt w v l) (hL : revL l = L) (hE : validF l = E) : GivesPts Try.prog 50 #[v] w L E := by
  subst hL hE; exact rReverse_calls v l w h
/-- What the turned plots have in common. -/
theorem turns_law {l : List (Int × Int)} (h : validF l = 0) : validF (l.map rot) = 0 ∧ validF (l.map mir) = 0 ∧ validF l.reverse = 0 ∧ twiceF (l.map rot) = twiceF l ∧ twiceF (l.map mir) = twiceF l ∧
    leftF (l.map rot) = leftF l ∧ leftF (l.map mir) = !leftF l ∧ leftF l.reverse = !leftF l ∧ sameB l l.reverse = true ∧ sameE l l.reverse = 0 := by
  have hv := valid_iff.1 h
  have h3 := hv.lo
  have v1 : validF (l.map rot) = 0 := valid_iff.2 (hv.map keeps_rot fun i => by have := hv.rng i; unfold rot; simp only; omega)
  have v2 : validF (l.map mir) = 0 := valid_iff.2 (hv.map keeps_mir fun i => by have := hv.rng i; unfold mir; simp only; omega)
  have v3 : validF l.reverse = 0 := valid_iff.2 hv.reverse
  refine ⟨v1, v2, v3, twice_map keeps_rot h v1, twice_map keeps_mir h v2, left_map keeps_rot h v1, left_map' keeps_mir h v2, ?_, ?_, ?_⟩
  · have hne := hv.area_ne
    unfold leftF
    rw [if_pos h, if_pos v3, area_rev (by omega), ← decide_not]
    exact decide_eq_decide.2 (by omega)
  · unfold sameB; rw [if_pos ⟨h, v3⟩, norm_reverse hv]; simp
  · unfold sameE; rw [if_pos h, v3]
set_option maxRecDepth 100000 in
set_option maxHeartbeats 8000000 in
theorem plotTurns_calls (v : Value) (l : List (Int × Int)) (w : World) (h : PairsAt w v l) : Gives Try.prog 13 #[v] w (.bool true) := by
  have HP := Lib.hid h
  obtain ⟨sa, cap, rfl, hlc, hcm, _⟩ := h
  unfold Gives
  obtain ⟨b, hb⟩ : ∃ b, decide (40 < (l.length : Int)) = b := ⟨_, rfl⟩
  have HLO := Lib.hid hb
  cases b
  · have hlen : l.length ≤ 40 := by have := of_decide_eq_false hb; omega
    clear hb
    obtain ⟨i0, hi0, hz0, hi1, hi2⟩ := info_parts infoPoint
    obtain ⟨LA, hLA⟩ : ∃ e, turnL rot l = e := ⟨_, rfl⟩
    obtain ⟨LC, hLC⟩ : ∃ e, turnL mir l = e := ⟨_, rfl⟩
    obtain ⟨LR, hLR⟩ : ∃ e, revL l = e := ⟨_, rfl⟩
    obtain ⟨E, hE⟩ : ∃ e, validF l = e := ⟨_, rfl⟩
    have HLA := Lib.hid hLA
    have HLC := Lib.hid hLC
    have HLR := Lib.hid hLR
    have HE := Lib.hid hE
    clear hE
    by_cases hz : E = 0
    · subst hz
      have h3 := (valid_iff.1 HE.out).lo
      obtain ⟨k1, k2, k3, k4, k5, k6, k7, k8, k9, k10⟩ := turns_law HE.out
      have e1 : l.map rot = LA := by rw [← hLA]; exact (if_pos HE.out).symm
      have e2 : l.map mir = LC := by rw [← hLC]; exact (if_pos HE.out).symm
      have e3 : l.reverse = LR := by rw [← hLR]; exact (if_pos HE.out).symm
      have hA3 : 3 ≤ LA.length := by rw [← e1]; simpa using h3
      have hR3 : 3 ≤ LR.length := by rw [← e3]; simpa using h3
      rw [e1] at k1 k4 k6
      rw [e2] at k2 k5 k7
      rw [e3] at k3 k8 k9 k10
      obtain ⟨n, hn⟩ : ∃ n, twiceF l = n := ⟨_, rfl⟩
      rw [hn] at k4 k5
      have HEA := Lib.hid k1
      have HEC := Lib.hid k2
      have HER := Lib.hid k3
      have HT := Lib.hid hn
      have HTA := Lib.hid k4
      have HTC := Lib.hid k5
      have HSB := Lib.hid k9
      have HSE := Lib.hid k10
      clear hLA hLC hLR e1 e2 e3 k1 k2 k3 k4 k5 k9 k10 hn
      cases ht : leftF l
      all_goals
        have HL := Lib.hid ht
        rw [ht] at k6 k7 k8
        simp only [Bool.not_true, Bool.not_false] at k7 k8
        have HLFA := Lib.hid k6
        have HLFC := Lib.hid k7
        have HLFR := Lib.hid k8
        clear ht k6 k7 k8
        go_enter Try.func13, Try.ntmps13
        go_upto_region 22 with (first | (go_at_call 17; refine (Long_is _ (HP.out.below (by (repeat' (first | exact Below.refl _ _ | assumption | refine below_new ?_ _ | refine below_draw ?_ | refine below_tail (by assumption) ?_ | refine below_set ?_ (by first | omega | (simp <;> omega)) _)))) HLO.out).use ?_; intro wl hbl hzl hcl hfl; clear hcl hfl hzl) | (at_builtin; refine wpList_append_any (by rfl) _ _ _ (by rfl) wl.heap.size 32 i0 (.agg #[.int .i64 0, .int .i64 0]) 2 16 Try.underlying22 hi0 hz0 hi1 hi2 (by rfl) (by decide) (.slice (some ⟨wl.heap.size, 0, none⟩) 0 0) 0 [] (by rfl) (World.ownsRow_made (base := wl.heap.size) (e := 32) (size := 2) wl #[] 0 (Nat.le_refl _) (by decide) (by simp)) _ _ (cells2 l) (by rfl) (pairs_src (HP.out.below (by (repeat' (first | exact Below.refl _ _ | assumption | refine below_new ?_ _ | refine below_draw ?_ | refine below_tail (by assumption) ?_ | refine below_set ?_ (by first | omega | (simp <;> omega)) _))))) (by unfold maxLen; omega) (by omega) (by simp <;> omega) ?_; intro vo wo hownO hgrowO hatO; have hbo : Below wl.heap.size wl wo := below_grow (below_new (Below.refl _ _) _) hgrowO (fun k hk => by simp [Value.ownBlock] at hk; omega); have HOWN := Lib.hid (own_pairs (l := l) (by simpa using hownO)); clear hownO hgrowO hatO) | (go_at_call 34; (with_reducible refine (Quarter_t _ (HOWN.out.below (by (repeat' (first | exact Below.refl _ _ | assumption | refine below_new ?_ _ | refine below_draw ?_ | refine below_tail (by assumption) ?_ | refine below_set ?_ (by first | omega | (simp <;> omega)) _)))) HLA.out HE.out).use ?_); intro sa1 cap1 w1 hb1 hz1 hc1 hf1 HO1; clear hc1 hf1; have HA1 := Lib.hid (own_pairs HO1.out); obtain ⟨g1, cg1, he1, hg1, hk1, hgc1, hgm1⟩ := own_slice0 HO1.out (by omega); cases he1; clear hgc1 hgm1) | (go_at_call 46; (with_reducible refine (rQuarter_t _ (HP.out.below (by (repeat' (first | exact Below.refl _ _ | assumption | refine below_new ?_ _ | refine below_draw ?_ | refine below_tail (by assumption) ?_ | refine below_set ?_ (by first | omega | (simp <;> omega)) _)))) HLA.out HE.out).use ?_); intro sa2 cap2 w2 hb2 hz2 hc2 hf2 HO2; clear hc2 hf2; have HA2 := Lib.hid (own_pairs HO2.out)) | (go_at_call 47; (with_reducible refine (Mirror_t _ (HOWN.out.below (by (repeat' (first | exact Below.refl _ _ | assumption | refine below_new ?_ _ | refine below_draw ?_ | refine below_tail (by assumption) ?_ | refine below_set ?_ (by first | omega | (simp <;> omega)) _)))) HLC.out HE.out).use ?_); intro sa3 cap3 w3 hb3 hz3 hc3 hf3 HO3; clear hc3 hf3; have HA3 := Lib.hid (own_pairs HO3.out)) | (go_at_call 48; (with_reducible refine (rMirror_t _ (HP.out.below (by (repeat' (first | exact Below.refl _ _ | assumption | refine below_new ?_ _ | refine below_draw ?_ | refine below_tail (by assumption) ?_ | refine below_set ?_ (by first | omega | (simp <;> omega)) _)))) HLC.out HE.out).use ?_); intro sa4 cap4 w4 hb4 hz4 hc4 hf4 HO4; clear hc4 hf4; have HA4 := Lib.hid (own_pairs HO4.out)) | (go_at_call 49; (with_reducible refine (Reverse_t _ (HOWN.out.below (by (repeat' (first | exact Below.refl _ _ | assumption | refine below_new ?_ _ | refine below_draw ?_ | refine below_tail (by assumption) ?_ | refine below_set ?_ (by first | omega | (simp <;> omega)) _)))) HLR.out HE.out).use ?_); intro sa5 cap5 w5 hb5 hz5 hc5 hf5 HO5; clear hc5 hf5; have HA5 := Lib.hid (own_pairs HO5.out); obtain ⟨g5, cg5, he5, hg5, hk5, hgc5, hgm5⟩ := own_slice0 HO5.out (by omega); cases he5; clear hgc5 hgm5) | (go_at_call 50; (with_reducible refine (rReverse_t _ (HP.out.below (by (repeat' (first | exact Below.refl _ _ | assumption | refine below_new ?_ _ | refine below_draw ?_ | refine below_tail (by assumption) ?_ | refine below_set ?_ (by first | omega | (simp <;> omega)) _)))) HLR.out HE.out).use ?_); intro sa6 cap6 w6 hb6 hz6 hc6 hf6 HO6; clear hc6 hf6; have HA6 := Lib.hid (own_pairs HO6.out)) | (go_at_call 33; first | ((with_reducible refine (samePts_calls _ _ LA _ (HA1.out.below (by (repeat' (first | exact Below.refl _ _ | assumption | refine below_new ?_ _ | refine below_draw ?_ | refine below_tail (by assumption) ?_ | refine below_set ?_ (by first | omega | (simp <;> omega)) _)))) (HA2.out.below (by (repeat' (first | exact Below.refl _ _ | assumption | refine below_new ?_ _ | refine below_draw ?_ | refine below_tail (by assumption) ?_ | refine below_set ?_ (by first | omega | (simp <;> omega)) _))))).use ?_); intro w7 hb7 hz7 hc7 hf7; clear hc7 hf7) | ((with_reducible refine (samePts_calls _ _ LC _ (HA3.out.below (by (repeat' (first | exact Below.refl _ _ | assumption | refine below_new ?_ _ | refine below_draw ?_ | refine below_tail (by assumption) ?_ | refine below_set ?_ (by first | omega | (simp <;> omega)) _)))) (HA4.out.below (by (repeat' (first | exact Below.refl _ _ | assumption | refine below_new ?_ _ | refine below_draw ?_ | refine below_tail (by assumption) ?_ | refine below_set ?_ (by first | omega | (simp <;> omega)) _))))).use ?_); intro w8 hb8 hz8 hc8 hf8; clear hc8 hf8) | ((with_reducible refine (samePts_calls _ _ LR _ (HA5.out.below (by (repeat' (first | exact Below.refl _ _ | assumption | refine below_new ?_ _ | refine below_draw ?_ | refine below_tail (by assumption) ?_ | refine below_set ?_ (by first | omega | (simp <;> omega)) _)))) (HA6.out.below (by (repeat' (first | exact Below.refl _ _ | assumption | refine below_new ?_ _ | refine below_draw ?_ | refine below_tail (by assumption) ?_ | refine below_set ?_ (by first | omega | (simp <;> omega)) _))))).use ?_); intro w9 hb9 hz9 hc9 hf9; clear hc9 hf9)) | (go_at_call 23; first | ((with_reducible refine (Twice_is _ (HP.out.below (by (repeat' (first | exact Below.refl _ _ | assumption | refine below_new ?_ _ | refine below_draw ?_ | refine below_tail (by assumption) ?_ | refine below_set ?_ (by first | omega | (simp <;> omega)) _)))) HT.out HE.out).use ?_); intro w10 hb10 hz10 hc10 hf10; clear hc10 hf10) | ((with_reducible refine (Twice_is _ (HA1.out.below (by (repeat' (first | exact Below.refl _ _ | assumption | refine below_new ?_ _ | refine below_draw ?_ | refine below_tail (by assumption) ?_ | refine below_set ?_ (by first | omega | (simp <;> omega)) _)))) HTA.out HEA.out).use ?_); intro w11 hb11 hz11 hc11 hf11; clear hc11 hf11) | ((with_reducible refine (Twice_is _ (HA3.out.below (by (repeat' (first | exact Below.refl _ _ | assumption | refine below_new ?_ _ | refine below_draw ?_ | refine below_tail (by assumption) ?_ | refine below_set ?_ (by first | omega | (simp <;> omega)) _)))) HTC.out HEC.out).use ?_); intro w12 hb12 hz12 hc12 hf12; clear hc12 hf12)) | (go_at_call 25; first | ((with_reducible refine (Left_is _ (HP.out.below (by (repeat' (first | exact Below.refl _ _ | assumption | refine below_new ?_ _ | refine below_draw ?_ | refine below_tail (by assumption) ?_ | refine below_set ?_ (by first | omega | (simp <;> omega)) _)))) HL.out HE.out).use ?_); intro w13 hb13 hz13 hc13 hf13; clear hc13 hf13) | ((with_reducible refine (Left_is _ (HA1.out.below (by (repeat' (first | exact Below.refl _ _ | assumption | refine below_new ?_ _ | refine below_draw ?_ | refine below_tail (by assumption) ?_ | refine below_set ?_ (by first | omega | (simp <;> omega)) _)))) HLFA.out HEA.out).use ?_); intro w14 hb14 hz14 hc14 hf14; clear hc14 hf14) | ((with_reducible refine (Left_is _ (HA3.out.below (by (repeat' (first | exact Below.refl _ _ | assumption | refine below_new ?_ _ | refine below_draw ?_ | refine below_tail (by assumption) ?_ | refine below_set ?_ (by first | omega | (simp <;> omega)) _)))) HLFC.out HEC.out).use ?_); intro w15 hb15 hz15 hc15 hf15; clear hc15 hf15) | ((with_reducible refine (Left_is _ (HA5.out.below (by (repeat' (first | exact Below.refl _ _ | assumption | refine below_new ?_ _ | refine below_draw ?_ | refine below_tail (by assumption) ?_ | refine below_set ?_ (by first | omega | (simp <;> omega)) _)))) HLFR.out HER.out).use ?_); intro w16 hb16 hz16 hc16 hf16; clear hc16 hf16)) | (go_at_call 44; (with_reducible refine (Same_is _ (HP.out.below (by (repeat' (first | exact Below.refl _ _ | assumption | refine below_new ?_ _ | refine below_draw ?_ | refine below_tail (by assumption) ?_ | refine below_set ?_ (by first | omega | (simp <;> omega)) _)))) (HA5.out.below (by (repeat' (first | exact Below.refl _ _ | assumption | refine below_new ?_ _ | refine below_draw ?_ | refine below_tail (by assumption) ?_ | refine below_set ?_ (by first | omega | (simp <;> omega)) _)))) HSB.out HSE.out).use ?_); intro w17 hb17 hz17 hc17 hf17; clear hc17 hf17))
        have hw5 : Below w5.heap.size w5 w17 := by (repeat' (first | exact Below.refl _ _ | assumption | refine below_new ?_ _ | refine below_draw ?_ | refine below_tail (by assumption) ?_ | refine below_set ?_ (by first | omega | (simp <;> omega)) _))
        have hw1 : Below w1.heap.size w1 w17 := by (repeat' (first | exact Below.refl _ _ | assumption | refine below_new ?_ _ | refine below_draw ?_ | refine below_tail (by assumption) ?_ | refine below_set ?_ (by first | omega | (simp <;> omega)) _))
        have hwo17 : Below wo.heap.size wo w17 := by (repeat' (first | exact Below.refl _ _ | assumption | refine below_new ?_ _ | refine below_draw ?_ | refine below_tail (by assumption) ?_ | refine below_set ?_ (by first | omega | (simp <;> omega)) _))
        have hw17 : Below w.heap.size w w17 := by (repeat' (first | exact Below.refl _ _ | assumption | refine below_new ?_ _ | refine below_draw ?_ | refine below_tail (by assumption) ?_ | refine below_set ?_ (by first | omega | (simp <;> omega)) _))
        have ca := (hw1.cell (p := ⟨g1, 0, none⟩) hk1).trans ((HO1.out.cellAt 0 (by omega)).trans (cells2_get (l := LA) (i := 0) (by omega)).1)
        have fa := (hw1.frozen (p := ⟨g1, 0, none⟩) hk1).trans (HO1.out.frozenAt 0)
        have cr := (hw5.cell (p := ⟨g5, 0, none⟩) hk5).trans ((HO5.out.cellAt 0 (by omega)).trans (cells2_get (l := LR) (i := 0) (by omega)).1)
        have fr := (hw5.frozen (p := ⟨g5, 0, none⟩) hk5).trans (HO5.out.frozenAt 0)
        have hn1 : ¬ g1 = g5 := by omega
        have hn2 : ¬ g5 = g1 := by omega
        have hal : (0 : Int) < (LA.length : Int) := by omega
        have hrl : (0 : Int) < (LR.length : Int) := by omega
        have hwo := (below_tail hbo hbl).size
        have hwl : w.heap.size ≤ g1 := by omega
        have hwr : w.heap.size ≤ g5 := by omega
        have hol : wo.heap.size ≤ g1 := by omega
        have hor : wo.heap.size ≤ g5 := by omega
        clear hb1 hz1 hb2 hz2 hb3 hz3 hb4 hz4 hb5 hz5 hb6 hz6 hb7 hz7 hb8 hz8 hb9 hz9 hb10 hz10 hb11 hz11 hb12 hz12 hb13 hz13 hb14 hz14 hb15 hz15 hb16 hz16 hb17 hz17 hw1 hw5 HO1 HO2 HO3 HO4 HO5 HO6 HA1 HA2 HA3 HA4 HA5 HA6
        go_wp2_with (first | (go_at_call 33; (with_reducible refine (samePts_calls _ _ l _ (HOWN.out.below (by (repeat' (first | exact Below.refl _ _ | assumption | refine below_new ?_ _ | refine below_draw ?_ | refine below_tail (by assumption) ?_ | refine below_set ?_ (by first | omega | (simp <;> omega)) _)))) (HP.out.below (by (repeat' (first | exact Below.refl _ _ | assumption | refine below_new ?_ _ | refine below_draw ?_ | refine below_tail (by assumption) ?_ | refine below_set ?_ (by first | omega | (simp <;> omega)) _))))).use ?_); intro w18 hb18 hz18 hc18 hf18; clear hc18 hf18) | (go_at_call 18; refine (known_calls _).use ?_; intro wk hbk hzk hck hfk; clear hck hfk))
        go_ret
        exact ⟨rfl, by (repeat' (first | exact Below.refl _ _ | assumption | refine below_new ?_ _ | refine below_draw ?_ | refine below_tail (by assumption) ?_ | refine below_set ?_ (by first | omega | (simp <;> omega)) _))⟩
    · have h1 : (E == 0) = false := by simpa using hz
      have h2 : (E != 0) = true := by simpa using hz
      clear hz hLA hLC hLR
      go_enter Try.func13, Try.ntmps13
      go_wp2_with (first | (go_at_call 17; refine (Long_is _ (HP.out.below (by (repeat' (first | exact Below.refl _ _ | assumption | refine below_new ?_ _ | refine below_draw ?_ | refine below_tail (by assumption) ?_ | refine below_set ?_ (by first | omega | (simp <;> omega)) _)))) HLO.out).use ?_; intro wl hbl hzl hcl hfl; clear hcl hfl hzl) | (go_at_call 18; refine (known_calls _).use ?_; intro wk hbk hzk hck hfk; clear hck hfk) | (at_builtin; refine wpList_append_any (by rfl) _ _ _ (by rfl) wl.heap.size 32 i0 (.agg #[.int .i64 0, .int .i64 0]) 2 16 Try.underlying22 hi0 hz0 hi1 hi2 (by rfl) (by decide) (.slice (some ⟨wl.heap.size, 0, none⟩) 0 0) 0 [] (by rfl) (World.ownsRow_made (base := wl.heap.size) (e := 32) (size := 2) wl #[] 0 (Nat.le_refl _) (by decide) (by simp)) _ _ (cells2 l) (by rfl) (pairs_src (HP.out.below (by (repeat' (first | exact Below.refl _ _ | assumption | refine below_new ?_ _ | refine below_draw ?_ | refine below_tail (by assumption) ?_ | refine below_set ?_ (by first | omega | (simp <;> omega)) _))))) (by unfold maxLen; omega) (by omega) (by simp <;> omega) ?_; intro vo wo hownO hgrowO hatO; have hbo : Below wl.heap.size wl wo := below_grow (below_new (Below.refl _ _) _) hgrowO (fun k hk => by simp [Value.ownBlock] at hk; omega); have HOWN := Lib.hid (own_pairs (l := l) (by simpa using hownO)); clear hownO hgrowO hatO) | (go_at_call 34; (with_reducible refine (Quarter_t _ (HOWN.out.below (by (repeat' (first | exact Below.refl _ _ | assumption | refine below_new ?_ _ | refine below_draw ?_ | refine below_tail (by assumption) ?_ | refine below_set ?_ (by first | omega | (simp <;> omega)) _)))) HLA.out HE.out).use ?_); intro sa1 cap1 w1 hb1 hz1 hc1 hf1 HO1; clear hc1 hf1; have HA1 := Lib.hid (own_pairs HO1.out)) | (go_at_call 46; (with_reducible refine (rQuarter_t _ (HP.out.below (by (repeat' (first | exact Below.refl _ _ | assumption | refine below_new ?_ _ | refine below_draw ?_ | refine below_tail (by assumption) ?_ | refine below_set ?_ (by first | omega | (simp <;> omega)) _)))) HLA.out HE.out).use ?_); intro sa2 cap2 w2 hb2 hz2 hc2 hf2 HO2; clear hc2 hf2; have HA2 := Lib.hid (own_pairs HO2.out)) | (go_at_call 47; (with_reducible refine (Mirror_t _ (HOWN.out.below (by (repeat' (first | exact Below.refl _ _ | assumption | refine below_new ?_ _ | refine below_draw ?_ | refine below_tail (by assumption) ?_ | refine below_set ?_ (by first | omega | (simp <;> omega)) _)))) HLC.out HE.out).use ?_); intro sa3 cap3 w3 hb3 hz3 hc3 hf3 HO3; clear hc3 hf3; have HA3 := Lib.hid (own_pairs HO3.out)) | (go_at_call 48; (with_reducible refine (rMirror_t _ (HP.out.below (by (repeat' (first | exact Below.refl _ _ | assumption | refine below_new ?_ _ | refine below_draw ?_ | refine below_tail (by assumption) ?_ | refine below_set ?_ (by first | omega | (simp <;> omega)) _)))) HLC.out HE.out).use ?_); intro sa4 cap4 w4 hb4 hz4 hc4 hf4 HO4; clear hc4 hf4; have HA4 := Lib.hid (own_pairs HO4.out)) | (go_at_call 49; (with_reducible refine (Reverse_t _ (HOWN.out.below (by (repeat' (first | exact Below.refl _ _ | assumption | refine below_new ?_ _ | refine below_draw ?_ | refine below_tail (by assumption) ?_ | refine below_set ?_ (by first | omega | (simp <;> omega)) _)))) HLR.out HE.out).use ?_); intro sa5 cap5 w5 hb5 hz5 hc5 hf5 HO5; clear hc5 hf5; have HA5 := Lib.hid (own_pairs HO5.out)) | (go_at_call 50; (with_reducible refine (rReverse_t _ (HP.out.below (by (repeat' (first | exact Below.refl _ _ | assumption | refine below_new ?_ _ | refine below_draw ?_ | refine below_tail (by assumption) ?_ | refine below_set ?_ (by first | omega | (simp <;> omega)) _)))) HLR.out HE.out).use ?_); intro sa6 cap6 w6 hb6 hz6 hc6 hf6 HO6; clear hc6 hf6; have HA6 := Lib.hid (own_pairs HO6.out)) | (go_at_call 33; first | ((with_reducible refine (samePts_calls _ _ LA _ (HA1.out.below (by (repeat' (first | exact Below.refl _ _ | assumption | refine below_new ?_ _ | refine below_draw ?_ | refine below_tail (by assumption) ?_ | refine below_set ?_ (by first | omega | (simp <;> omega)) _)))) (HA2.out.below (by (repeat' (first | exact Below.refl _ _ | assumption | refine below_new ?_ _ | refine below_draw ?_ | refine below_tail (by assumption) ?_ | refine below_set ?_ (by first | omega | (simp <;> omega)) _))))).use ?_); intro w7 hb7 hz7 hc7 hf7; clear hc7 hf7) | ((with_reducible refine (samePts_calls _ _ LC _ (HA3.out.below (by (repeat' (first | exact Below.refl _ _ | assumption | refine below_new ?_ _ | refine below_draw ?_ | refine below_tail (by assumption) ?_ | refine below_set ?_ (by first | omega | (simp <;> omega)) _)))) (HA4.out.below (by (repeat' (first | exact Below.refl _ _ | assumption | refine below_new ?_ _ | refine below_draw ?_ | refine below_tail (by assumption) ?_ | refine below_set ?_ (by first | omega | (simp <;> omega)) _))))).use ?_); intro w8 hb8 hz8 hc8 hf8; clear hc8 hf8) | ((with_reducible refine (samePts_calls _ _ LR _ (HA5.out.below (by (repeat' (first | exact Below.refl _ _ | assumption | refine below_new ?_ _ | refine below_draw ?_ | refine below_tail (by assumption) ?_ | refine below_set ?_ (by first | omega | (simp <;> omega)) _)))) (HA6.out.below (by (repeat' (first | exact Below.refl _ _ | assumption | refine below_new ?_ _ | refine below_draw ?_ | refine below_tail (by assumption) ?_ | refine below_set ?_ (by first | omega | (simp <;> omega)) _))))).use ?_); intro w9 hb9 hz9 hc9 hf9; clear hc9 hf9)))
      go_ret
      exact ⟨rfl, by (repeat' (first | exact Below.refl _ _ | assumption | refine below_new ?_ _ | refine below_draw ?_ | refine below_tail (by assumption) ?_ | refine below_set ?_ (by first | omega | (simp <;> omega)) _))⟩
  · clear hb
    go_enter Try.func13, Try.ntmps13
    go_wp2_with (first | (go_at_call 17; refine (Long_is _ (HP.out.below (by (repeat' (first | exact Below.refl _ _ | assumption | refine below_new ?_ _ | refine below_draw ?_ | refine below_tail (by assumption) ?_ | refine below_set ?_ (by first | omega | (simp <;> omega)) _)))) HLO.out).use ?_; intro wl hbl hzl hcl hfl; clear hcl hfl hzl) | (go_at_call 18; refine (known_calls _).use ?_; intro wk hbk hzk hck hfk; clear hck hfk))
    go_ret
    exact ⟨rfl, by (repeat' (first | exact Below.refl _ _ | assumption | refine below_new ?_ _ | refine below_draw ?_ | refine below_tail (by assumption) ?_ | refine below_set ?_ (by first | omega | (simp <;> omega)) _))⟩
end Go.Proofs.Ythiemglckmociaa
