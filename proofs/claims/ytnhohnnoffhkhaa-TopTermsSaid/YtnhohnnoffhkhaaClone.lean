/- slices.Clone of numbers and of spans. Conditions: the list lies in memory as said; at most 1000 elements. -/
import Derived.Test.YtnhohnnoffhkhaaSpanSort
import Derived.Lib.SliceRun
namespace Go.Proofs.Ytnhohnnoffhkhaa
open Go.RowKit

theorem cloneI_own {v : Value} {l : List Int} {w : World} (h : IntsAt w v l) (hl : l.length ≤ 1000) :
    Calls Try.prog 68 #[v] w fun e w' => ∃ v', e = .returned v' ∧ w'.ownsRow w.heap.size 3 1 v' l.length (cells1 l) ∧ Below w.heap.size w w' := by
  obtain ⟨a, cap, rfl, hlc, hcm, hc⟩ := h
  rcases Nat.eq_zero_or_pos l.length with h0 | hpos
  · have hnil : l = [] := List.eq_nil_of_length_eq_zero h0
    subst hnil
    cases a with
    | none =>
      refine (Try.slices_Clone_int_nil 0 cap w).mono ?_
      rintro e w' ⟨rfl, rfl⟩
      exact ⟨_, rfl, World.ownsRow_nil _ _ _ _, Below.refl _ _⟩
    | some a =>
      refine (Try.slices_Clone_int_zero a cap w).mono ?_
      rintro e w' ⟨v', rfl, ho, _, hb⟩
      exact ⟨_, rfl, ho, hb⟩
  · obtain ⟨b, o, rfl, _, _⟩ := hc 0 hpos
    refine (Try.slices_Clone_int b o l.length cap l w (Nat.le_refl _) (by omega) (fun j hj => ?_)).mono ?_
    · obtain ⟨b', o', e, _, hcj⟩ := hc j hj
      simp only [Option.some.injEq, Addr.mk.injEq, and_true] at e
      obtain ⟨rfl, rfl⟩ := e
      rw [hcj]; rfl
    · rintro e w' ⟨v', rfl, ho, _, hb⟩
      rw [List.take_length] at ho
      exact ⟨_, rfl, ho, hb⟩

theorem infoSpan : (Try.prog.info? 50).map (fun i => (i.zero, i.size, i.bytes)) = some (some (.agg #[.int .i64 0, .int .i64 0]), 2, 16) := by kernel_rfl

set_option maxHeartbeats 1000000 in
set_option maxRecDepth 100000 in
theorem cloneS_own {v : Value} {l : List (Int × Int)} {w : World} (h : PairsAt w v l) (hl : l.length ≤ 1000) :
    Calls Try.prog 69 #[v] w fun e w' => ∃ v', e = .returned v' ∧ w'.ownsRow w.heap.size 50 2 v' l.length (cells2 l) ∧ Below w.heap.size w w' := by
  have HA := Lib.hid h
  obtain ⟨a, cap, rfl, hlc, hcm, hc⟩ := h
  obtain ⟨i0, hi0, hz0, hz1, hz2⟩ := info_parts infoSpan
  have hown := World.ownsRow_made (base := w.heap.size) (e := 50) (size := 2) w #[] 0 (Nat.le_refl _) (by decide) (by simp)
  cases a with
  | none =>
    have h0 : l.length = 0 := by
      rcases Nat.eq_zero_or_pos l.length with h0 | hpos
      · exact h0
      · obtain ⟨b, o, e, _⟩ := hc 0 hpos; cases e
    have hnil : l = [] := List.eq_nil_of_length_eq_zero h0
    clear hc
    have q22 : ∀ (w : World) (a : Option Addr) (n c n' c' : Nat), (binOp .eql 23 (.slice a n c) (.slice none n' c')).run Try.prog w = .ok (.bool a.isNone) w := fun w a n c n' c' => Lib.run_eql_slice_nil w _ _ a n c n' c' Try.underlying23
    go_enter Try.func69, Try.ntmps69
    go_wp2
    go_ret
    exact ⟨_, rfl, by rw [hnil]; exact World.ownsRow_nil _ _ _ _, Below.refl _ _⟩
  | some ad =>
    have hsrc : ∀ j u, (cells2 l)[j]? = some u → w.cell? (ad.add j) = some u := by
      intro j u hu
      have hpos : 0 < l.length := by
        rcases Nat.eq_zero_or_pos l.length with h0 | hpos
        · rw [List.eq_nil_of_length_eq_zero h0] at hu; simp [cells2] at hu
        · exact hpos
      obtain ⟨b, o, e, hs⟩ := pairs_source HA.out hpos
      obtain rfl := Option.some.inj e
      exact hs j u hu
    have HS := Lib.hid hsrc
    clear hc hsrc
    have q22 : ∀ (w : World) (a : Option Addr) (n c n' c' : Nat), (binOp .eql 23 (.slice a n c) (.slice none n' c')).run Try.prog w = .ok (.bool a.isNone) w := fun w a n c n' c' => Lib.run_eql_slice_nil w _ _ a n c n' c' Try.underlying23
    go_enter Try.func69, Try.ntmps69
    go_wp2_with (at_builtin; refine wpList_append_own _ rfl (.tmp 5) (.tmp 6) 23 rfl w.heap.size 50 i0 (.agg #[.int .i64 0, .int .i64 0]) 2 16 Try.underlying23 hi0 hz0 hz1 hz2 rfl (by decide) _ 0 [] rfl hown ad l.length cap (cells2 l) rfl (cells2_length l) ?_ (cells2_one l) (by unfold maxLen; omega) (by omega) (by simp) ?_; (exact fun j u hu => ((below_new (Below.refl _ w) _).cell (p := _) (block_lt_of_cell (HS.out j u hu))).trans (HS.out j u hu)); intro v' w1 hown' hgrow _; simp only [Nat.zero_add, List.nil_append] at hown')
    go_ret
    exact ⟨_, rfl, hown', below_grow (below_new (Below.refl _ w) _) hgrow (fun k' hk' => Nat.le_of_eq (Option.some.inj hk'))⟩
end Go.Proofs.Ytnhohnnoffhkhaa
