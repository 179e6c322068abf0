/- What Reverse of package plot and of the document give. Conditions: the list lies in memory as said. -/
import Derived.Test.YthiemglckmociaaPtSameG
namespace Go.Proofs.Ythiemglckmociaa
open Go.RowKit

theorem reverse1_enters : ∀ args w, (callFunc 97 args).run Try.prog w = .ok (.enter 97 args) w := fun args w => enters_of Try.func97 (by kernel_rfl) rfl args w
theorem ch_id (l : List (Int × Int)) : chL (fun x => x) l = (if validF l = 0 then l else []) ∧ chE (fun x => x) l = validF l := by
  have e : l.map (fun x => x) = l := List.map_id l
  by_cases h : validF l = 0
  · have hv := valid_iff.1 h
    have hr : rangedB l = true := List.all_eq_true.2 fun x hx => by
      obtain ⟨i, hi, rfl⟩ := List.getElem_of_mem hx
      have := hv.rng i
      rw [cor_lt hi, gi_lt hi] at this
      exact inR_iff.2 this
    unfold chL chE
    rw [e, if_pos h, if_pos h, if_pos h, if_pos hr, if_pos hr, h]
    exact ⟨rfl, rfl⟩
  · unfold chL chE
    rw [if_neg h, if_neg h, if_neg h]
    exact ⟨rfl, rfl⟩
set_option maxHeartbeats 400000 in
theorem reverseP0_calls (a : Option Addr) (cap : Nat) (w : World) : Calls Try.prog 84 #[.slice a 0 cap] w fun e w' => e = .returned (.tuple #[]) ∧ w = w' := by
  go_enter Try.func84, Try.ntmps84
  go_wp2_with fail
  go_loop [2, 3] (fun s t => s = .int .i64 0 ∧ t = .int .i64 (-1)) (fun _ _ => 0)
  case atStart => exact ⟨rfl, rfl⟩
  case round =>
    obtain ⟨rfl, rfl⟩ := hrel
    go_wp2_with fail
    go_end0
    exact ⟨rfl, rfl⟩
set_option maxHeartbeats 1000000 in
theorem Reverse_calls (v : Value) (l : List (Int × Int)) (w : World) (h : PairsAt w v l) : GivesPts Try.prog 49 #[v] w (if validF l = 0 then l.reverse else []) (validF l) := by
  have HP := Lib.hid h
  obtain ⟨sa, cap, rfl, hlc, hcm, _⟩ := h
  obtain ⟨hl, he⟩ := ch_id l
  have HL : Hid (chL (fun x => x) l = if validF l = 0 then l else []) := hl
  obtain ⟨L, hL⟩ : ∃ L, chL (fun x => x) l = L := ⟨_, rfl⟩
  obtain ⟨e, hE⟩ : ∃ e, chE (fun x => x) l = e := ⟨_, rfl⟩
  have HQ := Lib.hid (he.symm.trans hE)
  have HC : Hid (GivesPts Try.prog 74 #[.slice sa l.length cap, .func (.func 97) #[] #[]] w L e) := by
    unfold Hid; rw [← hL, ← hE]
    exact changed_calls _ l (fun x => x) _ #[] _ HP.out reverse1_enters (fun _ w' _ _ _ => reverse1_calls _ w')
  rw [hL] at HL
  obtain ⟨R, hR⟩ : ∃ R, (if validF l = 0 then l.reverse else []) = R := ⟨_, rfl⟩
  rw [hR, HQ.out]
  have HR0 := Lib.hid hR.symm
  clear hl he hL hE hR
  unfold GivesPts
  by_cases hz : e = 0
  · subst hz
    have hv := valid_iff.1 HQ.out
    obtain rfl : L = l := by rw [HL.out, if_pos HQ.out]
    have h3 := hv.lo
    have h10 := hv.hi
    have HR : Hid (R = L.reverse) := HR0.out.trans (if_pos HQ.out)
    clear hv
    go_enter Try.func49, Try.ntmps49
    go_wp2_with (first | (go_at_call 74; refine HC.out.use ?_; intro a1 c1 w1 hb1 hz1 hc1 hf1 HO; clear hc1 hf1; obtain ⟨g, cap1, hge, hg1, hg2, hgc, hgm⟩ := own_slice0 HO.out (by omega); cases hge) | (go_at_call 84; refine (reverseP_calls w.heap.size g c1 L _ HO.out (by omega) (by omega)).mono ?_; rintro e w3 ⟨rfl, hown3, hz3, hb3⟩))
    go_ret2
    exact ⟨_, rfl, by rw [HR.out, List.length_reverse]; exact hown3, hb1.trans hb3⟩
  · have hL : L = [] := by rw [HL.out, if_neg (by rw [HQ.out]; exact hz)]
    subst hL
    have HR : Hid (R = []) := HR0.out.trans (if_neg (by rw [HQ.out]; exact hz))
    have HZ := Lib.hid hz
    clear hz
    go_enter Try.func49, Try.ntmps49
    go_wp2_with (first | (go_at_call 74; refine HC.out.use ?_; intro a1 c1 w1 hb1 hz1 hc1 hf1 HO; clear hc1 hf1) | (go_at_call 84; refine (reverseP0_calls _ _ _).mono ?_; rintro e w3 ⟨rfl, rfl⟩))
    go_ret2
    exact ⟨_, rfl, by rw [HR.out]; exact HO.out, hb1⟩
set_option maxHeartbeats 1000000 in
theorem rReverse_calls (v : Value) (l : List (Int × Int)) (w : World) (h : PairsAt w v l) : GivesPts Try.prog 50 #[v] w (if validF l = 0 then l.reverse else []) (validF l) := by
  have HP := Lib.hid h
  obtain ⟨sa, cap, rfl, hlc, hcm, _⟩ := h
  obtain ⟨L, hL⟩ : ∃ L, (if validF l = 0 then l.reverse else []) = L := ⟨_, rfl⟩
  rw [hL]
  have HN := Lib.hid hL.symm
  clear hL
  obtain ⟨e, he⟩ : ∃ e, validF l = e := ⟨_, rfl⟩
  have HE := Lib.hid he
  rw [he]
  clear he
  unfold GivesPts
  by_cases hz : e = 0
  · subst hz
    have h10 := (valid_iff.1 HE.out).hi
    go_enter Try.func50, Try.ntmps50
    go_wp2_with (first | (go_at_call 28; (with_reducible refine (rvalidate_is _ (HP.out.below (by (repeat' (first | exact Below.refl _ _ | assumption | refine below_new ?_ _ | refine below_draw ?_ | refine below_tail (by assumption) ?_ | refine below_set ?_ (by first | omega | (simp <;> omega)) _)))) HE.out).use ?_); intro w1 hb1 hz1 hc1 hf1; clear hc1 hf1) | (go_at_call 98; refine (reversed_calls _ l _ (HP.out.below (by (repeat' (first | exact Below.refl _ _ | assumption | refine below_new ?_ _ | refine below_draw ?_ | refine below_tail (by assumption) ?_ | refine below_set ?_ (by first | omega | (simp <;> omega)) _)))) (by omega)).mono ?_; rintro e w2 ⟨v2, rfl, hown2, hb2⟩))
    go_ret2
    exact ⟨_, rfl, by rw [HN.out, if_pos HE.out]; exact own_base hown2 (by omega), by (repeat' (first | exact Below.refl _ _ | assumption | refine below_new ?_ _ | refine below_draw ?_ | refine below_tail (by assumption) ?_ | refine below_set ?_ (by first | omega | (simp <;> omega)) _))⟩
  · have h1 : (e == 0) = false := by simpa using hz
    have h2 : (e != 0) = true := by simpa using hz
    have HZ := Lib.hid hz
    clear hz
    go_enter Try.func50, Try.ntmps50
    go_wp2_with (go_at_call 28; (with_reducible refine (rvalidate_is _ (HP.out.below (by (repeat' (first | exact Below.refl _ _ | assumption | refine below_new ?_ _ | refine below_draw ?_ | refine below_tail (by assumption) ?_ | refine below_set ?_ (by first | omega | (simp <;> omega)) _)))) HE.out).use ?_); intro w1 hb1 hz1 hc1 hf1; clear hc1 hf1)
    go_ret2
    exact ⟨_, rfl, by rw [HN.out, if_neg (by rw [HE.out]; exact HZ.out)]; exact World.ownsRow_nil _ _ _ _, by (repeat' (first | exact Below.refl _ _ | assumption | refine below_new ?_ _ | refine below_draw ?_ | refine below_tail (by assumption) ?_ | refine below_set ?_ (by first | omega | (simp <;> omega)) _))⟩
end Go.Proofs.Ythiemglckmociaa
