/- An office's claims and its open objections, out of its state. Conditions: the state lies in memory as said, and is good. -/
import Derived.Test.YthooacpfmjpdmaaGreatDoorOSt
namespace Go.Proofs.YthooacpfmjpdmaaGreatDoor
open Go.RowKit

/-- The claims; none as long as the part is not fixed. -/
def clmF (s : St) : List Int := if s.fixed then dedF s.strips s.part else []
/-- The numbers of the open ones. -/
def opnK (l : List Bool) (k : Nat) : List Int := ((List.range k).filter fun i => gi l false i).map fun i : Nat => (i : Int)
def opnF (l : List Bool) : List Int := opnK l l.length
theorem opnK_yes {l : List Bool} {k : Nat} (h : gi l false k = true) : opnK l (k + 1) = opnK l k ++ [(k : Int)] := by
  unfold opnK; rw [List.range_succ, List.filter_append, List.filter_cons_of_pos (by simpa using h)]; simp
theorem opnK_no {l : List Bool} {k : Nat} (h : gi l false k = false) : opnK l (k + 1) = opnK l k := by
  unfold opnK; rw [List.range_succ, List.filter_append, List.filter_cons_of_neg (by simp [h])]; simp
theorem opnK_len (l : List Bool) (k : Nat) : (opnK l k).length ≤ k := by
  unfold opnK
  rw [List.length_map]
  have := List.length_filter_le (fun i => gi l false i) (List.range k)
  rwa [List.length_range] at this
/-- What is always so of an office. -/
structure Good (s : St) : Prop where
  day0 : 0 ≤ s.day
  day1 : s.day ≤ 10000
  str : ∀ x ∈ s.strips, 0 ≤ x ∧ x ≤ 1000
  part0 : 0 ≤ s.part
  part1 : s.part ≤ 100
  laid0 : ∀ x ∈ s.laid, 0 ≤ x
  sum : sumI s.laid ≤ sumI (clmF s)
  hsum : s.heard = true → sumI s.laid = sumI (clmF s)
  hfix : s.heard = true → s.fixed = true
  none : s.heard = false → (∀ x ∈ s.opn, x = false) ∧ s.ent = false
  stop0 : 0 ≤ s.stop
  stop1 : s.stop ≤ 1000000
theorem Good.claims {s : St} {m n : Nat} {w : World} {g1 c1 g2 c2 g3 c3 : Nat} (h : Good s) (hs : StAt m w n s g1 c1 g2 c2 g3 c3) : claimsB s.strips = true := by
  rw [claimsB_iff, hs.l1]
  exact ⟨⟨hs.n1, hs.n8⟩, h.str⟩

set_option maxHeartbeats 1000000 in
theorem claims_calls (m : Nat) (w : World) (n : Nat) (s : St) (g1 c1 g2 c2 g3 c3 : Nat) (h : StAt m w n s g1 c1 g2 c2 g3 c3) (hg : Good s) :
    Calls Tryz.prog 66 #[stW n s g1 c1 g2 c2 g3 c3] w fun e w' => ∃ v, e = .returned v ∧ IntsT w.heap.size w' v (clmF s) ∧ Below w.heap.size w w' := by
  have HS := Lib.hid h
  have HC := Lib.hid (hg.claims h)
  have hp0 := hg.part0
  have hp1 := hg.part1
  clear h hg
  unfold stW
  obtain ⟨fx, hfx⟩ : ∃ b, s.fixed = b := ⟨_, rfl⟩
  have HF := Lib.hid hfx
  rw [hfx]
  clear hfx
  cases fx
  · have HE : Hid (clmF s = []) := by show _ = _; unfold clmF; rw [HF.out]; rfl
    go_enter Tryz.func66, Tryz.ntmps66
    go_wp2
    refine bodyPost_ret (v := .slice none 0 0) (by simp [results, Tryz.f66, go_sem]) rfl ?_
    refine ⟨_, rfl, ?_, by (repeat' (first | exact Below.refl _ _ | assumption | refine below_new ?_ _ | refine below_draw ?_ | refine below_tail (by assumption) ?_ | refine below_set ?_ (by first | omega | (simp <;> omega)) _))⟩
    rw [HE.out]
    exact ⟨ints0 _ _ _ (by decide), fun b hb => by cases hb⟩
  · have HE : Hid (clmF s = dedF s.strips s.part) := by show _ = _; unfold clmF; rw [HF.out]; rfl
    go_enter Tryz.func66, Tryz.ntmps66
    go_wp2_with (go_at_call 83; refine (Deduct_calls _ s.strips s.part _ (HS.out.strips.below (by (repeat' (first | exact Below.refl _ _ | assumption | refine below_new ?_ _ | refine below_draw ?_ | refine below_tail (by assumption) ?_ | refine below_set ?_ (by first | omega | (simp <;> omega)) _)))) HC.out hp0 hp1).mono ?_; rintro e w1 ⟨v1, rfl, hi1, hb1⟩; have HI1 := Lib.hid hi1; obtain ⟨⟨va, vc, rfl, -⟩, -⟩ := hi1)
    refine bodyPost_ret (v := .slice va (dedF s.strips s.part).length vc) (by simp [results, Tryz.f66, go_sem]) rfl ?_
    refine ⟨_, rfl, ?_, by (repeat' (first | exact Below.refl _ _ | assumption | refine below_new ?_ _ | refine below_draw ?_ | refine below_tail (by assumption) ?_ | refine below_set ?_ (by first | omega | (simp <;> omega)) _))⟩
    rw [HE.out]
    exact HI1.out.mono (by simp)
set_option maxRecDepth 100000 in
set_option maxHeartbeats 1000000 in
theorem opened_calls (m : Nat) (w : World) (n : Nat) (s : St) (g1 c1 g2 c2 g3 c3 : Nat) (h : StAt m w n s g1 c1 g2 c2 g3 c3) :
    Calls Tryz.prog 67 #[stW n s g1 c1 g2 c2 g3 c3] w fun e w' => ∃ v, e = .returned v ∧ IntsT w.heap.size w' v (opnF s.opn) ∧ Below w.heap.size w w' := by
  have HS := Lib.hid h
  have h8 := h.n8
  have HL := Lib.hid h.l3
  clear h
  unfold stW
  obtain ⟨i0, hi0, hz0, hi1, hi2⟩ := info_parts infoInt
  go_enter Tryz.func67, Tryz.ntmps67
  go_wp2
  go_loopw [3, 9] (fun v i wr => ∃ k : Nat, k ≤ n ∧ i = .int .i64 k ∧ Hid (Below w.heap.size w wr) ∧ ∃ j, j ≤ k ∧ Hid ((opnK s.opn k).length = j) ∧ Hid (wr.ownsRow w.heap.size 3 1 v j (cells1 (opnK s.opn k)))) (fun v i _ => n - (intOf i).toNat)
  case atStart => exact ⟨0, Nat.zero_le _, rfl, by show Below _ _ _; (repeat' (first | exact Below.refl _ _ | assumption | refine below_new ?_ _ | refine below_draw ?_ | refine below_tail (by assumption) ?_ | refine below_set ?_ (by first | omega | (simp <;> omega)) _)), 0, Nat.le_refl _, rfl, World.ownsRow_nil _ _ _ _⟩
  case round =>
    obtain ⟨k, hk, rfl, hb, j, hjk, hj, how⟩ := hrel
    by_cases hlt : k < n
    · obtain ⟨b1, o1, e1, hB1, hcell1⟩ := (HS.out.opn.below hb.out).cellAt (m := k) (by rw [HL.out]; exact hlt)
      cases e1
      rw [Nat.zero_add] at hcell1
      cases hx : gi s.opn false k
      · have HN := Lib.hid (opnK_no hx)
        rw [hx] at hcell1
        clear hx
        go_wp2
        go_roundw
        case rel => exact ⟨k + 1, by omega, by go_num, hb.out, j, by omega, by unfold Hid; rw [HN.out]; exact hj.out, by unfold Hid; rw [HN.out]; exact how.out⟩
        case measure => simp [intOf]; omega
      · have HN := Lib.hid (opnK_yes hx)
        rw [hx] at hcell1
        clear hx
        go_wp2_with (at_builtin; refine wpList_append_own _ rfl _ _ 22 rfl w.heap.size 3 i0 (.int .i64 0) 1 8 Tryz.underlying22 hi0 hz0 hi1 hi2 rfl (by decide) _ _ _ rfl (how.out.alloc _) ⟨wr.heap.size, 0, none⟩ 1 1 [.int .i64 (k : Nat)] rfl rfl (app_src1 _ _ _) (one_int _) (by unfold maxLen; omega) (by omega) (by have := hb.out.size; simp; omega) ?_; intro v' w4 hown4 hgrow _)
        go_roundw
        case rel => exact ⟨k + 1, by omega, by go_num, below_app hb.out (Nat.le_refl _) hgrow (fun j hj => (how.out.lt j hj).1), j + 1, by omega, by unfold Hid; rw [HN.out, List.length_append, hj.out]; rfl, by unfold Hid; rw [HN.out, cells1_append]; exact hown4⟩
        case measure => simp [intOf]; omega
    · obtain rfl : k = n := by omega
      obtain ⟨va, vc, rfl⟩ := own_slice how.out
      have HI : Hid (IntsT w.heap.size wr (.slice va j vc) (opnF s.opn)) := by
        show IntsT _ _ _ _
        unfold opnF
        rw [HL.out]
        exact own_intsT (by rw [hj.out]; exact how.out) (Nat.le_refl _)
      go_wp2
      refine bodyPost_ret (v := .slice va j vc) (by simp [results, Tryz.f67, go_sem]) rfl ?_
      exact ⟨_, rfl, HI.out, hb.out⟩
end Go.Proofs.YthooacpfmjpdmaaGreatDoor
