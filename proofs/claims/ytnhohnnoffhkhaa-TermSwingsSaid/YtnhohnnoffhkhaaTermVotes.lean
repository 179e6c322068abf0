/- The law TermVotes: its walk. Conditions: the votes lie in memory as said. -/
import Derived.Test.YtnhohnnoffhkhaaTermKnown
import Derived.Test.YtnhohnnoffhkhaaOwn
namespace Go.Proofs.Ytnhohnnoffhkhaa
open Go.RowKit

/-- One more vote for it. -/
def yesAt (l : List (Int × Bool)) (i : Nat) : List (Int × Bool) := l.set i ((gi l (0, false) i).1, true)
theorem yesAt_length (l : List (Int × Bool)) (i : Nat) : (yesAt l i).length = l.length := by simp [yesAt]
theorem gi_yesAt (l : List (Int × Bool)) (i k : Nat) (hk : k < l.length) : (gi (yesAt l i) (0, false) k).1 = (gi l (0, false) k).1 ∧ ((gi l (0, false) k).2 = true → (gi (yesAt l i) (0, false) k).2 = true) := by
  unfold yesAt gi
  rw [List.getElem?_set]
  by_cases h : i = k
  · subst h; simp [hk]
  · simp [h]
theorem yesAt_ok {l : List (Int × Bool)} {i : Nat} (h : votesF l = 0) : votesF (yesAt l i) = 0 := by
  obtain ⟨h1, h2⟩ := votes_ok h
  refine votes_of (by rw [yesAt_length]; exact h1) (fun k hk => ?_)
  rw [yesAt_length] at hk
  rw [(gi_yesAt l i k hk).1]; exact h2 k hk
theorem heads_more {l : List (Int × Bool)} {i : Nat} : ∀ k : Nat, k ≤ l.length → headsF l (-1) k ≤ headsF (yesAt l i) (-1) k
  | 0, _ => Int.le_refl _
  | k + 1, hk => by
    have := heads_more (l := l) (i := i) k (by omega)
    have hg := (gi_yesAt l i k (by omega)).2
    unfold headsF
    rw [yes_never, yes_never]
    by_cases hy : (gi l (0, false) k).2 = true
    · rw [if_pos hy, if_pos (hg hy)]; omega
    · rw [if_neg hy]; split <;> omega
theorem land_more {l : List (Int × Bool)} {i : Nat} (hl : ∀ i, i < l.length → 0 ≤ (gi l (0, false) i).1) : ∀ k : Nat, k ≤ l.length → landF l (-1) k ≤ landF (yesAt l i) (-1) k
  | 0, _ => Int.le_refl _
  | k + 1, hk => by
    have := land_more (l := l) (i := i) hl k (by omega)
    obtain ⟨hg1, hg⟩ := gi_yesAt l i k (by omega)
    have := hl k (by omega)
    unfold landF
    rw [yes_never, yes_never, hg1]
    by_cases hy : (gi l (0, false) k).2 = true
    · rw [if_pos hy, if_pos (hg hy)]; omega
    · rw [if_neg hy]; split <;> omega
theorem headsR_more {l : List (Int × Bool)} {i : Nat} (h : votesF l = 0) (hh : headsR l = true) : headsR (yesAt l i) = true := by
  unfold headsR at hh ⊢
  rw [if_pos h] at hh
  rw [if_pos (yesAt_ok h)]
  unfold headsB at hh ⊢
  have := of_decide_eq_true hh
  have := heads_more (l := l) (i := i) l.length (Nat.le_refl _)
  rw [yesAt_length]
  exact decide_eq_true (by omega)
theorem landR_more {l : List (Int × Bool)} {i : Nat} (h : votesF l = 0) (hh : landR l = true) : landR (yesAt l i) = true := by
  unfold landR at hh ⊢
  rw [if_pos h] at hh
  rw [if_pos (yesAt_ok h)]
  unfold landB at hh ⊢
  have := of_decide_eq_true hh
  have := land_more (l := l) (i := i) (fun i hi => ((votes_ok h).2 i hi).1) l.length (Nat.le_refl _)
  rw [yesAt_length]
  exact decide_eq_true (by omega)

theorem more_votes {w : World} {base e g cp k : Nat} {l : List (Int × Bool)} (h : w.ownsRow base e 2 (.slice (some ⟨g, 0, none⟩) l.length cp) l.length (cellsV l)) :
    VotesAt (w.setCell ⟨g, k * 2 + 1, none⟩ (.bool true)) (.slice (some ⟨g, 0, none⟩) l.length cp) (yesAt l k) := by
  have h1 := (h.stored (k * 2 + 1) (.bool true)).1
  rw [cellsV_set] at h1
  have h2 := own_votes (l := yesAt l k) (by rw [yesAt_length]; exact h1)
  exact h2

theorem infoVote : (Try.prog.info? 38).map (fun i => (i.zero, i.size, i.bytes)) = some (some (.agg #[.int .i64 0, .bool false]), 2, 16) := by kernel_rfl

set_option maxHeartbeats 2000000 in
set_option maxRecDepth 100000 in
theorem termVotes_calls (v : Value) (l : List (Int × Bool)) (i : Int) (w : World) (h : VotesAt w v l) :
    Gives Try.prog 4 #[v, .int .i64 i] w (.bool true) := by
  have HA := Lib.hid h
  obtain ⟨a, cap, rfl, hlc, hcm, hc⟩ := h
  clear hc
  unfold Gives
  by_cases hL : 100 < l.length
  · have hL1 : decide ((100 : Int) < (l.length : Int)) = true := by simp; omega
    go_enter Try.func4, Try.ntmps4
    go_wp2_with (first
      | (go_at_call 18; refine (known_calls _).use ?_; intro w2 hb2 hz2 hc2 hf2))
    go_ret
    exact ⟨rfl, by (repeat' (first | exact Below.refl _ _ | assumption | refine below_new ?_ _ | refine below_draw ?_ | refine below_tail (by assumption) ?_ | refine below_set ?_ (by first | omega | (simp <;> omega)) _))⟩
  · have hL1 : decide ((100 : Int) < (l.length : Int)) = false := by simp; omega
    by_cases hz : votesF l = 0
    · have a1 : (votesF l == 0) = true := by simpa using hz
      have a2 : (votesF l != 0) = false := by simpa using hz
      by_cases hi : 0 ≤ i ∧ i < l.length
      · obtain ⟨k, rfl⟩ := Int.eq_ofNat_of_zero_le hi.1
        have hk : k < l.length := by omega
        have hi1 : decide ((k : Int) < 0) = false := by simp
        have hi2 : decide ((l.length : Int) ≤ (k : Int)) = false := by simp; omega
        have hi3 : decide (l.length ≤ k) = false := by simp; omega
        have HZ := Lib.hid hz
        have hvy := Lib.hid (yesAt_ok (i := k) hz)
        have hvz : (votesF (yesAt l k) == 0) = true := by simpa using hvy.out
        have hhd := headsR_more (i := k) hz
        have hln := landR_more (i := k) hz
        clear hi hz
        obtain ⟨b, o, rfl, hsrc⟩ := votes_source HA.out (by omega)
        obtain ⟨i0, hi0, hz0, hz1, hz2⟩ := info_parts infoVote
        have HS := Lib.hid hsrc
        clear hsrc
        have hown := World.ownsRow_made (base := w.heap.size) (e := 38) (size := 2) w #[] 0 (Nat.le_refl _) (by decide) (by simp)
        cases c1 : headsR l <;> cases c2 : landR l <;> cases c3 : headsR (yesAt l k) <;> cases c4 : landR (yesAt l k) <;> first
          | (have hq := hhd c1; rw [c3] at hq; exact Bool.noConfusion hq)
          | (have hq := hln c2; rw [c4] at hq; exact Bool.noConfusion hq)
          | skip
        all_goals clear hhd hln
        all_goals (
          go_enter Try.func4, Try.ntmps4
          go_wp2_with (first
            | (go_at_call 20; refine (Passes_calls _ (yesAt l k) _ hmore).mono ?_; rintro e w' ⟨rfl, rfl⟩)
            | (go_at_call 20; refine (Passes_calls _ l _ HA.out).mono ?_; rintro e w' ⟨rfl, rfl⟩)
            | (go_at_call 21; refine (rPasses_calls _ l _ HA.out).mono ?_; rintro e w' ⟨rfl, rfl⟩)
            | (at_builtin; refine wpList_append_own _ rfl (.tmp 57) (.tmp 58) 34 rfl w.heap.size 38 i0 (.agg #[.int .i64 0, .bool false]) 2 16 Try.underlying34 hi0 hz0 hz1 hz2 rfl (by decide) _ 0 [] rfl hown ⟨b, o, none⟩ l.length cap (cellsV l) rfl (cellsV_length l) ?_ (cellsV_one l) (by unfold maxLen; omega) (by omega) (by simp) ?_; (exact fun j u hu => ((below_new (Below.refl _ w) _).cell (p := _) (block_lt_of_cell (HS.out j u hu))).trans (HS.out j u hu)); intro v' w1 hown' hgrow _; simp only [Nat.zero_add, List.nil_append] at hown'; obtain ⟨g, cp, rfl⟩ := Go.Joins.ownsRow_form hown' (by omega); have e1 := (hown'.cellAt (k * 2 + 1) (by omega)).trans (cellsV_get hk).2; have e2 := hown'.frozenAt (k * 2 + 1); have hmore := more_votes (k := k) hown'; have hg := (hown'.lt g rfl).1)
            | (go_at_call 18; refine (known_calls _).use ?_; intro w2 hb2 hz2 hc2 hf2))
          go_ret
          exact ⟨rfl, below_tail hb2 (below_set (below_grow (below_new (Below.refl _ w) _) hgrow (fun k' hk' => Nat.le_of_eq (Option.some.inj hk'))) (p := ⟨g, k * 2 + 1, none⟩) hg _)⟩)
      · by_cases hn : i < 0
        · have hi1 : decide (i < 0) = true := by simpa using hn
          clear hz hi hn
          go_enter Try.func4, Try.ntmps4
          go_wp2_with (first
            | (go_at_call 20; refine (Passes_calls _ l _ HA.out).mono ?_; rintro e w' ⟨rfl, rfl⟩)
            | (go_at_call 21; refine (rPasses_calls _ l _ HA.out).mono ?_; rintro e w' ⟨rfl, rfl⟩)
            | (go_at_call 18; refine (known_calls _).use ?_; intro w2 hb2 hz2 hc2 hf2))
          go_ret
          exact ⟨rfl, by (repeat' (first | exact Below.refl _ _ | assumption | refine below_new ?_ _ | refine below_draw ?_ | refine below_tail (by assumption) ?_ | refine below_set ?_ (by first | omega | (simp <;> omega)) _))⟩
        · have hi1 : decide (i < 0) = false := by simpa using hn
          have hi2 : decide ((l.length : Int) ≤ i) = true := by simp; omega
          clear hz hi hn
          go_enter Try.func4, Try.ntmps4
          go_wp2_with (first
            | (go_at_call 20; refine (Passes_calls _ l _ HA.out).mono ?_; rintro e w' ⟨rfl, rfl⟩)
            | (go_at_call 21; refine (rPasses_calls _ l _ HA.out).mono ?_; rintro e w' ⟨rfl, rfl⟩)
            | (go_at_call 18; refine (known_calls _).use ?_; intro w2 hb2 hz2 hc2 hf2))
          go_ret
          exact ⟨rfl, by (repeat' (first | exact Below.refl _ _ | assumption | refine below_new ?_ _ | refine below_draw ?_ | refine below_tail (by assumption) ?_ | refine below_set ?_ (by first | omega | (simp <;> omega)) _))⟩
    · have a1 : (votesF l == 0) = false := by simpa using hz
      have a2 : (votesF l != 0) = true := by simpa using hz
      clear hz
      go_enter Try.func4, Try.ntmps4
      go_wp2_with (first
        | (go_at_call 20; refine (Passes_calls _ l _ HA.out).mono ?_; rintro e w' ⟨rfl, rfl⟩)
        | (go_at_call 21; refine (rPasses_calls _ l _ HA.out).mono ?_; rintro e w' ⟨rfl, rfl⟩)
        | (go_at_call 18; refine (known_calls _).use ?_; intro w2 hb2 hz2 hc2 hf2))
      go_ret
      exact ⟨rfl, by (repeat' (first | exact Below.refl _ _ | assumption | refine below_new ?_ _ | refine below_draw ?_ | refine below_tail (by assumption) ?_ | refine below_set ?_ (by first | omega | (simp <;> omega)) _))⟩
end Go.Proofs.Ytnhohnnoffhkhaa
