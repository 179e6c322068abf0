/- What the counting of votes gives, in package term and in its reference. Conditions: the votes lie in memory as said. -/
import Derived.Test.YtnhohnnoffhkhaaTermLow
import Derived.Test.YtnhohnnoffhkhaaVoteSpec
namespace Go.Proofs.Ytnhohnnoffhkhaa
open Go.RowKit

set_option maxHeartbeats 400000 in
theorem areVotes_calls (v : Value) (l : List (Int × Bool)) (w : World) (h : VotesAt w v l) :
    Calls Try.prog 57 #[v] w fun e w' => e = .returned (.int .i64 (votesF l)) ∧ w = w' := by
  obtain ⟨a, cap, rfl, hlc, hcm, hc⟩ := h
  have HC := Lib.hid hc
  clear hc
  have HV : Hid (votesF l = if l.length ≤ 20 then (if someFrom (fun i => !(withinB (gi l (0, false) i).1 0 10000)) l.length 0 then 1 else 0) else 3) := rfl
  by_cases hl : l.length ≤ 20
  · go_enter Try.func57, Try.ntmps57
    have hl2 : decide ((20 : Int) < (l.length : Int)) = false := by simp; omega
    go_wp2
    go_loop [9] (fun i => ∃ k : Nat, k ≤ l.length ∧ i = .int .i64 k ∧ Hid (votesF l = if someFrom (fun i => !(withinB (gi l (0, false) i).1 0 10000)) l.length k then 1 else 0)) (fun i => l.length - (intOf i).toNat)
    case atStart => exact ⟨0, Nat.zero_le _, rfl, by unfold Hid; rw [HV.out, if_pos hl]⟩
    case round =>
      obtain ⟨k, hk, rfl, hr⟩ := hrel
      by_cases hlt : k < l.length
      · obtain ⟨b, o, rfl, hB, hcell, hcell2⟩ := HC.out k hlt
        cases hx : withinB (gi l (0, false) k).1 0 10000
        · have H1 := Lib.hid (someFrom_yes (p := fun i => !(withinB (gi l (0, false) i).1 0 10000)) hlt (by simp [hx]))
          go_wp2_with (go_at_call 82; refine (within_calls _ _ _ _).mono ?_; rintro e w' ⟨rfl, rfl⟩)
          go_ret
          exact ⟨ret_int (by rw [hr.out, H1.out]; rfl), rfl⟩
        · have H1 := Lib.hid (someFrom_no (p := fun i => !(withinB (gi l (0, false) i).1 0 10000)) hlt (by simp [hx]))
          go_wp2_with (go_at_call 82; refine (within_calls _ _ _ _).mono ?_; rintro e w' ⟨rfl, rfl⟩)
          go_round
          case rel => exact ⟨k + 1, by omega, by go_num, by unfold Hid; rw [hr.out, H1.out]⟩
          case measure => simp [intOf]; omega
      · have H1 := Lib.hid (someFrom_end (p := fun i => !(withinB (gi l (0, false) i).1 0 10000)) hlt)
        go_wp2
        go_ret
        exact ⟨ret_int (by rw [hr.out, H1.out]; rfl), rfl⟩
  · go_enter Try.func57, Try.ntmps57
    have hl2 : decide ((20 : Int) < (l.length : Int)) = true := by simp; omega
    go_wp2
    go_ret
    exact ⟨ret_int (by rw [HV.out, if_neg hl]), rfl⟩

set_option maxHeartbeats 400000 in
theorem voted_calls (v : Value) (l : List (Int × Bool)) (w : World) (h : VotesAt w v l) :
    Calls Try.prog 59 #[v] w fun e w' => e = .returned (.int .i64 (votesF l)) ∧ w = w' := by
  obtain ⟨a, cap, rfl, hlc, hcm, hc⟩ := h
  have HC := Lib.hid hc
  clear hc
  have HV : Hid (votesF l = if l.length ≤ 20 then (if someFrom (fun i => !(withinB (gi l (0, false) i).1 0 10000)) l.length 0 then 1 else 0) else 3) := rfl
  by_cases hl : l.length ≤ 20
  · go_enter Try.func59, Try.ntmps59
    have hl2 : decide ((20 : Int) < (l.length : Int)) = false := by simp; omega
    go_wp2
    go_loop [3] (fun i => ∃ k : Nat, k ≤ l.length ∧ i = .int .i64 k ∧ Hid (votesF l = if someFrom (fun i => !(withinB (gi l (0, false) i).1 0 10000)) l.length k then 1 else 0)) (fun i => l.length - (intOf i).toNat)
    case atStart => exact ⟨0, Nat.zero_le _, rfl, by unfold Hid; rw [HV.out, if_pos hl]⟩
    case round =>
      obtain ⟨k, hk, rfl, hr⟩ := hrel
      by_cases hlt : k < l.length
      · obtain ⟨b, o, rfl, hB, hcell, hcell2⟩ := HC.out k hlt
        cases hx : withinB (gi l (0, false) k).1 0 10000
        · have H1 := Lib.hid (someFrom_yes (p := fun i => !(withinB (gi l (0, false) i).1 0 10000)) hlt (by simp [hx]))
          go_wp2_with (go_at_call 83; refine (rwithin_calls _ _ _ _).mono ?_; rintro e w' ⟨rfl, rfl⟩)
          go_ret
          exact ⟨ret_int (by rw [hr.out, H1.out]; rfl), rfl⟩
        · have H1 := Lib.hid (someFrom_no (p := fun i => !(withinB (gi l (0, false) i).1 0 10000)) hlt (by simp [hx]))
          go_wp2_with (go_at_call 83; refine (rwithin_calls _ _ _ _).mono ?_; rintro e w' ⟨rfl, rfl⟩)
          go_round
          case rel => exact ⟨k + 1, by omega, by go_num, by unfold Hid; rw [hr.out, H1.out]⟩
          case measure => simp [intOf]; omega
      · have H1 := Lib.hid (someFrom_end (p := fun i => !(withinB (gi l (0, false) i).1 0 10000)) hlt)
        go_wp2
        go_ret
        exact ⟨ret_int (by rw [hr.out, H1.out]; rfl), rfl⟩
  · go_enter Try.func59, Try.ntmps59
    have hl2 : decide ((20 : Int) < (l.length : Int)) = true := by simp; omega
    go_wp2
    go_ret
    exact ⟨ret_int (by rw [HV.out, if_neg hl]), rfl⟩

set_option maxHeartbeats 1000000 in
theorem passes_calls (v : Value) (l : List (Int × Bool)) (ch : Int) (w : World) (h : VotesAt w v l) (hv : votesF l = 0) :
    Calls Try.prog 58 #[v, .int .i64 ch] w fun e w' => e = .returned (.tuple #[.bool (headsB l ch), .bool (landB l ch)]) ∧ w = w' := by
  obtain ⟨hl, hland⟩ := votes_ok hv
  obtain ⟨a, cap, rfl, hlc, hcm, hc⟩ := h
  have HC := Lib.hid hc
  have HL := Lib.hid hland
  clear hc hland hv
  go_enter Try.func58, Try.ntmps58
  go_wp2
  go_loop [6, 7, 11] (fun h s i => ∃ k : Nat, k ≤ l.length ∧ i = .int .i64 k ∧ h = .int .i64 (headsF l ch k) ∧ s = .int .i64 (landF l ch k)) (fun _ _ i => l.length - (intOf i).toNat)
  case atStart => exact ⟨0, Nat.zero_le _, rfl, rfl, rfl⟩
  case round =>
    obtain ⟨k, hk, rfl, rfl, rfl⟩ := hrel
    have hb1 := headsF_bd l ch k
    have hb2 := landF_bd l ch k (fun i hi => HL.out i (by omega))
    by_cases hlt : k < l.length
    · obtain ⟨b, o, rfl, hB, hcell, hcell2⟩ := HC.out k hlt
      have hL := HL.out k hlt
      have H1 : Hid (headsF l ch (k + 1) = if yesB l ch k then headsF l ch k + 1 else headsF l ch k - 1) := rfl
      have H2 : Hid (landF l ch (k + 1) = if yesB l ch k then landF l ch k + (gi l (0, false) k).1 else landF l ch k - (gi l (0, false) k).1) := rfl
      have H3 : Hid (yesB l ch k = ((gi l (0, false) k).2 != ((k : Int) == ch))) := rfl
      obtain ⟨hh, hhe⟩ : ∃ x, headsF l ch k = x := ⟨_, rfl⟩
      obtain ⟨ss, sse⟩ : ∃ x, landF l ch k = x := ⟨_, rfl⟩
      rw [hhe] at hb1 H1 ⊢
      rw [sse] at hb2 H2 ⊢
      clear hhe sse
      cases hx : (gi l (0, false) k).2 <;> cases he : ((k : Int) == ch)
      all_goals
        rw [hx] at hcell2
        have HX := Lib.hid hx
        clear hx
        go_wp2
        go_round
        case rel => exact ⟨k + 1, by omega, by go_num, by rw [H1.out, H3.out, HX.out, he]; rfl, by rw [H2.out, H3.out, HX.out, he]; rfl⟩
        case measure => simp [intOf]; omega
    · obtain rfl : k = l.length := by omega
      go_wp2
      go_ret2
      exact ⟨rfl, rfl⟩

set_option maxHeartbeats 1000000 in
theorem rpasses_calls (v : Value) (l : List (Int × Bool)) (w : World) (h : VotesAt w v l) (hl : l.length ≤ 20) (hland : ∀ i, i < l.length → 0 ≤ (gi l (0, false) i).1 ∧ (gi l (0, false) i).1 ≤ 10000) :
    Calls Try.prog 60 #[v] w fun e w' => e = .returned (.tuple #[.bool (headsB l (-1)), .bool (landB l (-1))]) ∧ w = w' := by
  obtain ⟨a, cap, rfl, hlc, hcm, hc⟩ := h
  have HC := Lib.hid hc
  have HL := Lib.hid hland
  clear hc hland
  go_enter Try.func60, Try.ntmps60
  go_wp2
  go_loop [4, 5, 6] (fun h s i => ∃ k : Nat, k ≤ l.length ∧ i = .int .i64 k ∧ h = .int .i64 (headsF l (-1) k) ∧ s = .int .i64 (landF l (-1) k)) (fun _ _ i => l.length - (intOf i).toNat)
  case atStart => exact ⟨0, Nat.zero_le _, rfl, rfl, rfl⟩
  case round =>
    obtain ⟨k, hk, rfl, rfl, rfl⟩ := hrel
    have hb1 := headsF_bd l (-1) k
    have hb2 := landF_bd l (-1) k (fun i hi => HL.out i (by omega))
    by_cases hlt : k < l.length
    · obtain ⟨b, o, rfl, hB, hcell, hcell2⟩ := HC.out k hlt
      have hL := HL.out k hlt
      have H1 : Hid (headsF l (-1) (k + 1) = if yesB l (-1) k then headsF l (-1) k + 1 else headsF l (-1) k - 1) := rfl
      have H2 : Hid (landF l (-1) (k + 1) = if yesB l (-1) k then landF l (-1) k + (gi l (0, false) k).1 else landF l (-1) k - (gi l (0, false) k).1) := rfl
      have H3 : Hid (yesB l (-1) k = (gi l (0, false) k).2) := yes_never
      obtain ⟨hh, hhe⟩ : ∃ x, headsF l (-1) k = x := ⟨_, rfl⟩
      obtain ⟨ss, sse⟩ : ∃ x, landF l (-1) k = x := ⟨_, rfl⟩
      rw [hhe] at hb1 H1 ⊢
      rw [sse] at hb2 H2 ⊢
      clear hhe sse
      cases hx : (gi l (0, false) k).2
      · rw [hx] at hcell2
        have HX := Lib.hid hx
        clear hx
        go_wp2
        go_round
        case rel => exact ⟨k + 1, by omega, by go_num, by rw [H1.out, H3.out, HX.out]; rfl, by rw [H2.out, H3.out, HX.out]; rfl⟩
        case measure => simp [intOf]; omega
      · rw [hx] at hcell2
        have HX := Lib.hid hx
        clear hx
        go_wp2
        go_round
        case rel => exact ⟨k + 1, by omega, by go_num, by rw [H1.out, H3.out, HX.out]; rfl, by rw [H2.out, H3.out, HX.out]; rfl⟩
        case measure => simp [intOf]; omega
    · obtain rfl : k = l.length := by omega
      go_wp2
      go_ret2
      exact ⟨rfl, rfl⟩

set_option maxHeartbeats 400000 in
theorem Passes_calls (v : Value) (l : List (Int × Bool)) (w : World) (h : VotesAt w v l) :
    Calls Try.prog 20 #[v] w fun e w' => e = .returned (.tuple #[.bool (headsR l), .bool (landR l), .int .i64 (votesF l)]) ∧ w = w' := by
  have HA := Lib.hid h
  obtain ⟨a, cap, rfl, hlc, hcm, hc⟩ := h
  clear hc
  have HR1 : Hid (headsR l = if votesF l = 0 then headsB l (-1) else false) := rfl
  have HR2 : Hid (landR l = if votesF l = 0 then landB l (-1) else false) := rfl
  by_cases hz : votesF l = 0
  · have Hz := Lib.hid hz
    have hz1 : (votesF l == 0) = true := by simpa using hz
    have hz2 : (votesF l != 0) = false := by simpa using hz
    clear hz
    go_enter Try.func20, Try.ntmps20
    go_wp2_with (first
      | (go_at_call 57; refine (areVotes_calls _ l _ HA.out).mono ?_; rintro e w' ⟨rfl, rfl⟩)
      | (go_at_call 58; refine (passes_calls _ l (-1) _ HA.out Hz.out).mono ?_; rintro e w' ⟨rfl, rfl⟩))
    go_ret3
    exact ⟨by rw [HR1.out, HR2.out, if_pos Hz.out, if_pos Hz.out, Hz.out]; rfl, rfl⟩
  · have Hz := Lib.hid hz
    have hz1 : (votesF l == 0) = false := by simpa using hz
    have hz2 : (votesF l != 0) = true := by simpa using hz
    clear hz
    go_enter Try.func20, Try.ntmps20
    go_wp2_with (first
      | (go_at_call 57; refine (areVotes_calls _ l _ HA.out).mono ?_; rintro e w' ⟨rfl, rfl⟩))
    go_ret3
    exact ⟨by rw [HR1.out, HR2.out, if_neg Hz.out, if_neg Hz.out]; rfl, rfl⟩

set_option maxHeartbeats 400000 in
theorem rPasses_calls (v : Value) (l : List (Int × Bool)) (w : World) (h : VotesAt w v l) :
    Calls Try.prog 21 #[v] w fun e w' => e = .returned (.tuple #[.bool (headsR l), .bool (landR l), .int .i64 (votesF l)]) ∧ w = w' := by
  have HA := Lib.hid h
  obtain ⟨a, cap, rfl, hlc, hcm, hc⟩ := h
  clear hc
  have HR1 : Hid (headsR l = if votesF l = 0 then headsB l (-1) else false) := rfl
  have HR2 : Hid (landR l = if votesF l = 0 then landB l (-1) else false) := rfl
  by_cases hz : votesF l = 0
  · have Hz := Lib.hid hz
    have hz1 : (votesF l == 0) = true := by simpa using hz
    have hz2 : (votesF l != 0) = false := by simpa using hz
    clear hz
    go_enter Try.func21, Try.ntmps21
    go_wp2_with (first
      | (go_at_call 59; refine (voted_calls _ l _ HA.out).mono ?_; rintro e w' ⟨rfl, rfl⟩)
      | (go_at_call 60; refine (rpasses_calls _ l _ HA.out (votes_ok Hz.out).1 (votes_ok Hz.out).2).mono ?_; rintro e w' ⟨rfl, rfl⟩))
    go_ret3
    exact ⟨by rw [HR1.out, HR2.out, if_pos Hz.out, if_pos Hz.out, Hz.out]; rfl, rfl⟩
  · have Hz := Lib.hid hz
    have hz1 : (votesF l == 0) = false := by simpa using hz
    have hz2 : (votesF l != 0) = true := by simpa using hz
    clear hz
    go_enter Try.func21, Try.ntmps21
    go_wp2_with (first
      | (go_at_call 59; refine (voted_calls _ l _ HA.out).mono ?_; rintro e w' ⟨rfl, rfl⟩))
    go_ret3
    exact ⟨by rw [HR1.out, HR2.out, if_neg Hz.out, if_neg Hz.out]; rfl, rfl⟩
end Go.Proofs.Ytnhohnnoffhkhaa
