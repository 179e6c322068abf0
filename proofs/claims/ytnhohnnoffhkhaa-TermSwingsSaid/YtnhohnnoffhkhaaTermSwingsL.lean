/- What Swing gives, in package term and in its reference. Conditions: votes lie in memory as said. -/
import Derived.Test.YtnhohnnoffhkhaaTermVotes
import Derived.Test.YtnhohnnoffhkhaaOwn2
namespace Go.Proofs.Ytnhohnnoffhkhaa
open Go.RowKit

def flipAt (l : List (Int × Bool)) (i : Nat) : List (Int × Bool) := l.set i ((gi l (0, false) i).1, !(gi l (0, false) i).2)
theorem flipAt_length (l : List (Int × Bool)) (i : Nat) : (flipAt l i).length = l.length := by simp [flipAt]
theorem gi_flipAt (l : List (Int × Bool)) (i k : Nat) (hk : k < l.length) : (gi (flipAt l i) (0, false) k).1 = (gi l (0, false) k).1 ∧ (gi (flipAt l i) (0, false) k).2 = ((gi l (0, false) k).2 != ((k : Int) == (i : Int))) := by
  unfold flipAt gi
  rw [List.getElem?_set]
  by_cases h : i = k
  · subst h; simp [hk]
  · have : ((k : Int) == (i : Int)) = false := by rw [beq_eq_false_iff_ne]; omega
    simp [h, this]
theorem yes_flip (l : List (Int × Bool)) (i k : Nat) (hk : k < l.length) : yesB (flipAt l i) (-1) k = yesB l i k := by
  rw [yes_never, (gi_flipAt l i k hk).2]; rfl
theorem headsF_flip (l : List (Int × Bool)) (i : Nat) : ∀ k : Nat, k ≤ l.length → headsF (flipAt l i) (-1) k = headsF l i k
  | 0, _ => rfl
  | k + 1, hk => by
    unfold headsF
    rw [yes_flip l i k (by omega), headsF_flip l i k (by omega)]
theorem landF_flip (l : List (Int × Bool)) (i : Nat) : ∀ k : Nat, k ≤ l.length → landF (flipAt l i) (-1) k = landF l i k
  | 0, _ => rfl
  | k + 1, hk => by
    unfold landF
    rw [yes_flip l i k (by omega), landF_flip l i k (by omega), (gi_flipAt l i k (by omega)).1]
theorem heads_flip (l : List (Int × Bool)) (i : Nat) : headsB (flipAt l i) (-1) = headsB l i := by
  unfold headsB; rw [flipAt_length, headsF_flip l i _ (Nat.le_refl _)]
theorem land_flip (l : List (Int × Bool)) (i : Nat) : landB (flipAt l i) (-1) = landB l i := by
  unfold landB; rw [flipAt_length, landF_flip l i _ (Nat.le_refl _)]
def bothB (l : List (Int × Bool)) (ch : Int) : Bool := headsB l ch && landB l ch
def swF (l : List (Int × Bool)) : Nat → List Int
  | 0 => []
  | k + 1 => if (bothB l k != bothB l (-1)) = true then swF l k ++ [(k : Int)] else swF l k
def swingL (l : List (Int × Bool)) : List Int := if votesF l = 0 then swF l l.length else []
theorem swF_le (l : List (Int × Bool)) : ∀ k, (swF l k).length ≤ k
  | 0 => Nat.le_refl _
  | k + 1 => by
    have := swF_le l k
    unfold swF; split
    · simp; omega
    · omega
theorem flip_votes {w : World} {base e g cp k : Nat} {l : List (Int × Bool)} (h : w.ownsRow base e 2 (.slice (some ⟨g, 0, none⟩) l.length cp) l.length (cellsV l)) :
    VotesAt (w.setCell ⟨g, k * 2 + 1, none⟩ (.bool (!(gi l (0, false) k).2))) (.slice (some ⟨g, 0, none⟩) l.length cp) (flipAt l k) := by
  have h1 := (h.stored (k * 2 + 1) (.bool (!(gi l (0, false) k).2))).1
  rw [cellsV_set] at h1
  have h2 : VotesAt _ _ (flipAt l k) := own_votes (l := flipAt l k) (by rw [flipAt_length]; exact h1)
  exact h2

set_option maxHeartbeats 400000 in
theorem both_calls (b : Nat) (a : Option Addr) (cap : Nat) (l : List (Int × Bool)) (ch : Int) (w : World) (h : VotesAt w (.slice a l.length cap) l) (hv : votesF l = 0) (hc : w.cell? ⟨b, 0, none⟩ = some (.slice a l.length cap)) :
    Calls Try.prog 61 #[.int .i64 ch, .pointer (some ⟨b, 0, none⟩)] w fun e w' => e = .returned (.bool (bothB l ch)) ∧ w = w' := by
  have HA := Lib.hid h
  have HV := Lib.hid hv
  have HB : Hid (bothB l ch = (headsB l ch && landB l ch)) := rfl
  clear h hv
  cases c1 : headsB l ch
  all_goals
    go_enter Try.func61, Try.ntmps61
    go_wp2_with (go_at_call 58; refine (passes_calls _ l ch _ HA.out HV.out).mono ?_; rintro e w' ⟨rfl, rfl⟩)
    go_ret
    exact ⟨ret_bool (by rw [HB.out, c1]; rfl), rfl⟩

set_option maxHeartbeats 4000000 in
set_option maxRecDepth 100000 in
theorem Swing_calls (v : Value) (l : List (Int × Bool)) (w : World) (h : VotesAt w v l) :
    GivesL Try.prog 22 #[v] w (swingL l) (votesF l) := by
  have HA := Lib.hid h
  obtain ⟨a, cap, rfl, hlc, hcm, _⟩ := h
  unfold GivesL
  have HO0 : Hid (swingL l = if votesF l = 0 then swF l l.length else []) := rfl
  by_cases hz : votesF l = 0
  · have hz1 : (votesF l == 0) = true := by simpa using hz
    have hz2 : (votesF l != 0) = false := by simpa using hz
    have HZ := Lib.hid hz
    have hlen := (votes_ok hz).1
    clear hz
    obtain ⟨i0, hi0, hz0, hi1, hi2⟩ := info_parts infoInt
    go_enter Try.func22, Try.ntmps22
    go_wp2_with (go_at_call 57; refine (areVotes_calls _ l _ (HA.out.below (below_new (Below.refl _ _) _))).mono ?_; rintro e w' ⟨rfl, rfl⟩)
    obtain ⟨W0, hW0, HW0⟩ : ∃ W0, Below w.heap.size w W0 ∧ Hid (W0.cell? ⟨w.heap.size, 0, none⟩ = some (.slice a l.length cap) ∧ w.heap.size < W0.heap.size ∧
        W0 = w.alloc (.cells #[.slice a l.length cap] 34)) :=
      ⟨_, below_new (Below.refl _ w) _, by unfold Hid; exact ⟨by simp, by simp, rfl⟩⟩
    obtain ⟨hk0, hk3, hk4⟩ := HW0.out
    clear HW0
    rw [← hk4]
    clear hk4
    go_loopw [6, 16] (fun vv kk wr => ∃ k : Nat, k ≤ l.length ∧ kk = .int .i64 k ∧ wr.ownsRow W0.heap.size 3 1 vv (swF l k).length (cells1 (swF l k)) ∧ Below W0.heap.size W0 wr) (fun _ kk _ => l.length - (intOf kk).toNat)
    case atStart => exact ⟨0, Nat.zero_le _, rfl, World.ownsRow_nil _ _ _ _, Below.refl _ _⟩
    case round =>
      obtain ⟨k, hk, rfl, hown2, hbw⟩ := hrel
      have hb0 : Below w.heap.size w wr := below_tail hbw hW0
      have f0 := (hbw.cell (p := ⟨w.heap.size, 0, none⟩) hk3).trans hk0
      by_cases hlt : k < l.length
      · have hg : decide ((k : Int) < (l.length : Int)) = true := by simpa using hlt
        have HS : Hid (swF l (k + 1) = if (bothB l k != bothB l (-1)) = true then swF l k ++ [(k : Int)] else swF l k) := rfl
        have hle := swF_le l k
        cases hx : (bothB l k != bothB l (-1))
        · have hx2 : (bothB l k == bothB l (-1)) = true := by simpa using hx
          have HX := Lib.hid hx
          clear hx
          go_wp2_with (go_at_call 61; refine (both_calls _ _ _ l _ _ (HA.out.below hb0) HZ.out f0).mono ?_; rintro e w' ⟨rfl, rfl⟩)
          go_roundw
          case rel => exact ⟨k + 1, by omega, by go_num, by rw [HS.out, if_neg (by rw [HX.out]; decide)]; exact hown2, hbw⟩
          case measure => simp [intOf]; omega
        · have hx2 : (bothB l k == bothB l (-1)) = false := by simpa using hx
          have HX := Lib.hid hx
          clear hx
          go_wp2_with (first | (go_at_call 61; refine (both_calls _ _ _ l _ _ (HA.out.below hb0) HZ.out f0).mono ?_; rintro e w' ⟨rfl, rfl⟩) | (at_builtin; refine wpList_append_own _ rfl _ _ 22 rfl W0.heap.size 3 i0 (.int .i64 0) 1 8 Try.underlying22 hi0 hz0 hi1 hi2 rfl (by decide) _ _ _ rfl (hown2.alloc _) ⟨wr.heap.size, 0, none⟩ 1 1 (cells1 [(k : Int)]) rfl rfl (app_src _ _ _) (cells1_one _) (by unfold maxLen; omega) (by omega) (by have := hbw.size; simp; omega) ?_; intro v' w4 hown4 hgrow _))
          have hb4 := (hbw.alloc hbw.size _).grown hgrow (by have := hbw.size; simp; omega) (own_block_le hown2)
          go_roundw
          case rel => exact ⟨k + 1, by omega, by go_num, by rw [HS.out, if_pos HX.out]; exact own_more hown4 rfl, hb4⟩
          case measure => simp [intOf]; omega
      · have hg : decide ((k : Int) < (l.length : Int)) = false := by simpa using hlt
        have hkl : k = l.length := by omega
        go_wp2
        go_ret2
        exact ⟨_, by rw [HZ.out]; rfl, by rw [HO0.out, if_pos HZ.out, ← hkl]; exact own_ints hown2, hb0⟩
  · have hz1 : (votesF l == 0) = false := by simpa using hz
    have hz2 : (votesF l != 0) = true := by simpa using hz
    have HZ := Lib.hid hz
    clear hz
    go_enter Try.func22, Try.ntmps22
    go_wp2_with (go_at_call 57; refine (areVotes_calls _ l _ (HA.out.below (below_new (Below.refl _ _) _))).mono ?_; rintro e w' ⟨rfl, rfl⟩)
    go_ret2
    exact ⟨_, rfl, by rw [HO0.out, if_neg HZ.out]; exact ints0 _ _ _ (by decide), by (repeat' (first | exact Below.refl _ _ | assumption | refine below_new ?_ _ | refine below_draw ?_ | refine below_tail (by assumption) ?_ | refine below_set ?_ (by first | omega | (simp <;> omega)) _))⟩

set_option maxHeartbeats 4000000 in
set_option maxRecDepth 100000 in
theorem rSwing_calls (v : Value) (l : List (Int × Bool)) (w : World) (h : VotesAt w v l) :
    GivesL Try.prog 23 #[v] w (swingL l) (votesF l) := by
  have HA := Lib.hid h
  obtain ⟨a, cap, rfl, hlc, hcm, _⟩ := h
  unfold GivesL
  have HO0 : Hid (swingL l = if votesF l = 0 then swF l l.length else []) := rfl
  by_cases hz : votesF l = 0
  · have hz1 : (votesF l == 0) = true := by simpa using hz
    have hz2 : (votesF l != 0) = false := by simpa using hz
    have HZ := Lib.hid hz
    obtain ⟨hlen, hland⟩ := votes_ok hz
    have HLD := Lib.hid hland
    clear hz hland
    obtain ⟨i0, hi0, hz0, hi1, hi2⟩ := info_parts infoInt
    obtain ⟨j0, hj0, hy0, hy1, hy2⟩ := info_parts infoVote
    obtain ⟨hd, c1⟩ : ∃ b, headsB l (-1) = b := ⟨_, rfl⟩
    obtain ⟨ln, c3⟩ : ∃ b, landB l (-1) = b := ⟨_, rfl⟩
    go_enter Try.func23, Try.ntmps23
    go_wp2_with (first
      | (go_at_call 59; refine (voted_calls _ l _ HA.out).mono ?_; rintro e w' ⟨rfl, rfl⟩)
      | (go_at_call 60; refine (rpasses_calls _ l _ HA.out hlen HLD.out).mono ?_; rintro e w' ⟨rfl, rfl⟩; rw [c1, c3]))
    go_loopw [5, 8] (fun vv kk wr => ∃ k : Nat, k ≤ l.length ∧ kk = .int .i64 k ∧ wr.ownsRow w.heap.size 3 1 vv (swF l k).length (cells1 (swF l k)) ∧ Below w.heap.size w wr) (fun _ kk _ => l.length - (intOf kk).toNat)
    case atStart => exact ⟨0, Nat.zero_le _, rfl, World.ownsRow_nil _ _ _ _, Below.refl _ _⟩
    case round =>
      obtain ⟨k, hk, rfl, hown, hbw0⟩ := hrel
      by_cases hlt : k < l.length
      · have hg : decide ((k : Int) < (l.length : Int)) = true := by simpa using hlt
        have HS : Hid (swF l (k + 1) = if (bothB l k != bothB l (-1)) = true then swF l k ++ [(k : Int)] else swF l k) := rfl
        have HBK : Hid (bothB l k = (headsB l k && landB l k)) := rfl
        have HBN : Hid (bothB l (-1) = (headsB l (-1) && landB l (-1))) := rfl
        have hle := swF_le l k
        obtain ⟨b, o, rfl, hsrc⟩ := votes_source (HA.out.below hbw0) (by omega)
        have HS0 := Lib.hid hsrc
        clear hsrc
        have hownv := World.ownsRow_made (base := wr.heap.size) (e := 38) (size := 2) wr #[] 0 (Nat.le_refl _) (by decide) (by simp)
        go_wp2_with (first | (at_builtin; refine wpList_append_own _ rfl (.tmp 28) (.tmp 29) 34 rfl wr.heap.size 38 j0 (.agg #[.int .i64 0, .bool false]) 2 16 Try.underlying34 hj0 hy0 hy1 hy2 rfl (by decide) _ 0 [] rfl hownv ⟨b, o, none⟩ l.length cap (cellsV l) rfl (cellsV_length l) ?_ (cellsV_one l) (by unfold maxLen; omega) (by omega) (by simp) ?_; (exact fun j u hu => ((below_new (Below.refl _ wr) _).cell (p := _) (block_lt_of_cell (HS0.out j u hu))).trans (HS0.out j u hu)); intro v' w1 hown' hgrw _; simp only [Nat.zero_add, List.nil_append] at hown'; obtain ⟨g, cp, rfl⟩ := Go.Joins.ownsRow_form hown' (by omega); have e1 := (hown'.cellAt (k * 2 + 1) (by omega)).trans (cellsV_get hlt).2; have e2 := hown'.frozenAt (k * 2 + 1); have hflip := flip_votes (k := k) hown'; have hgg := (hown'.lt g rfl).1))
        have hb2 : Below wr.heap.size wr (w1.setCell ⟨g, k * 2 + 1, none⟩ (.bool (!(gi l (0, false) k).2))) := below_set (below_grow (below_new (Below.refl _ wr) _) hgrw (fun k' hk' => Nat.le_of_eq (Option.some.inj hk'))) (p := ⟨g, k * 2 + 1, none⟩) hgg _
        have HF := Lib.hid hflip
        clear hflip
        obtain ⟨w2, hw2⟩ : ∃ w2, w1.setCell ⟨g, k * 2 + 1, none⟩ (.bool (!(gi l (0, false) k).2)) = w2 := ⟨_, rfl⟩
        rw [hw2] at hb2 HF ⊢
        clear hw2 hown' hgrw e1 e2 hgg hownv
        have hown2 := own_below hown hb2
        have hbw := below_tail hb2 hbw0
        refine (rpasses_calls _ (flipAt l k) _ HF.out (by rw [flipAt_length]; exact hlen) (fun i hi => by rw [flipAt_length] at hi; rw [(gi_flipAt l k i hi).1]; exact HLD.out i hi)).mono ?_
        rintro e w' ⟨rfl, rfl⟩
        rw [heads_flip, land_flip]
        cases hd <;> cases c2 : headsB l k <;> cases ln <;> cases c4 : landB l k
        all_goals
          go_wp2_with (first | (at_builtin; refine wpList_append_own _ rfl _ _ 22 rfl w.heap.size 3 i0 (.int .i64 0) 1 8 Try.underlying22 hi0 hz0 hi1 hi2 rfl (by decide) _ _ _ rfl (hown2.alloc _) ⟨w2.heap.size, 0, none⟩ 1 1 (cells1 [(k : Int)]) rfl rfl (app_src _ _ _) (cells1_one _) (by unfold maxLen; omega) (by omega) (by have := hbw.size; simp; omega) ?_; intro v' w4 hown4 hgrow _))
          first
            | (have hb4 := (hbw.alloc hbw.size _).grown hgrow (by have := hbw.size; simp; omega) (own_block_le hown2)
               go_roundw
               case rel => exact ⟨k + 1, by omega, by go_num, by rw [HS.out, if_pos (by rw [HBK.out, HBN.out, c1, c2, c3, c4]; rfl)]; exact own_more hown4 rfl, hb4⟩
               case measure => simp [intOf]; omega)
            | (go_roundw
               case rel => exact ⟨k + 1, by omega, by go_num, by rw [HS.out, if_neg (by rw [HBK.out, HBN.out, c1, c2, c3, c4]; decide)]; exact hown2, hbw⟩
               case measure => simp [intOf]; omega)
      · have hg : decide ((k : Int) < (l.length : Int)) = false := by simpa using hlt
        have hkl : k = l.length := by omega
        go_wp2
        go_ret2
        exact ⟨_, by rw [HZ.out]; rfl, by rw [HO0.out, if_pos HZ.out, ← hkl]; exact own_ints hown, hbw0⟩
  · have hz1 : (votesF l == 0) = false := by simpa using hz
    have hz2 : (votesF l != 0) = true := by simpa using hz
    have HZ := Lib.hid hz
    clear hz
    go_enter Try.func23, Try.ntmps23
    go_wp2_with (go_at_call 59; refine (voted_calls _ l _ HA.out).mono ?_; rintro e w' ⟨rfl, rfl⟩)
    go_ret2
    exact ⟨_, rfl, by rw [HO0.out, if_neg HZ.out]; exact ints0 _ _ _ (by decide), by (repeat' (first | exact Below.refl _ _ | assumption | refine below_new ?_ _ | refine below_draw ?_ | refine below_tail (by assumption) ?_ | refine below_set ?_ (by first | omega | (simp <;> omega)) _))⟩

set_option maxHeartbeats 4000000 in
set_option maxRecDepth 100000 in
theorem termSwings_calls (v : Value) (l : List (Int × Bool)) (w : World) (h : VotesAt w v l) :
    Gives Try.prog 5 #[v] w (.bool true) := by
  have HA := Lib.hid h
  obtain ⟨a, cap, rfl, hlc, hcm, _⟩ := h
  unfold Gives
  have s0 : (votesF l == votesF l) = true := by simp
  by_cases hL : 100 < l.length
  · have hL1 : decide ((100 : Int) < (l.length : Int)) = true := by simp; omega
    go_enter Try.func5, Try.ntmps5
    go_wp2_with (go_at_call 18; (with_reducible refine (known_calls _).use ?_); intro w6 hb6 hz6 hc6 hf6)
    go_ret
    exact ⟨rfl, by (repeat' (first | exact Below.refl _ _ | assumption | refine below_new ?_ _ | refine below_draw ?_ | refine below_tail (by assumption) ?_ | refine below_set ?_ (by first | omega | (simp <;> omega)) _))⟩
  · have hL1 : decide ((100 : Int) < (l.length : Int)) = false := by simp; omega
    go_enter Try.func5, Try.ntmps5
    go_wp2_with (first | (go_at_call 22; (with_reducible refine (Swing_calls _ l _ (HA.out.below (by (repeat' (first | exact Below.refl _ _ | assumption | refine below_new ?_ _ | refine below_draw ?_ | refine below_tail (by assumption) ?_ | refine below_set ?_ (by first | omega | (simp <;> omega)) _))))).use ?_); intro a2 p2 w2 hb2 hz2 hc2 hf2 HI2) | (go_at_call 23; (with_reducible refine (rSwing_calls _ l _ (HA.out.below (by (repeat' (first | exact Below.refl _ _ | assumption | refine below_new ?_ _ | refine below_draw ?_ | refine below_tail (by assumption) ?_ | refine below_set ?_ (by first | omega | (simp <;> omega)) _))))).use ?_); intro a3 p3 w3 hb3 hz3 hc3 hf3 HI3) | (go_at_call 24; (with_reducible refine (sameInts_calls _ _ (swingL l) _ (HI2.out.below (by (repeat' (first | exact Below.refl _ _ | assumption | refine below_new ?_ _ | refine below_draw ?_ | refine below_tail (by assumption) ?_ | refine below_set ?_ (by first | omega | (simp <;> omega)) _)))) HI3.out).use ?_); intro w4 hb4 hz4 hc4 hf4) | (go_at_call 18; (with_reducible refine (known_calls _).use ?_); intro w6 hb6 hz6 hc6 hf6))
    go_ret
    exact ⟨rfl, by (repeat' (first | exact Below.refl _ _ | assumption | refine below_new ?_ _ | refine below_draw ?_ | refine below_tail (by assumption) ?_ | refine below_set ?_ (by first | omega | (simp <;> omega)) _))⟩
end Go.Proofs.Ytnhohnnoffhkhaa
