/- What order of package plot, slices.Clone, Grow and Concat at points give. Conditions: the lists lie in memory as said; they are short. -/
import Derived.Test.YthiemglckmociaaPtChanged
import Derived.Lib.SliceRun
import Derived.Lib.AppendZerosOnto
import Derived.Lib.Walk
import Derived.Deep.RegionHeld3
namespace Go.Proofs.Ythiemglckmociaa
open Go.RowKit

def cmpF (a b : Int) : Int := if a < b then -1 else if b < a then 1 else 0
def ordF (a b : Int × Int) : Int := if cmpF a.1 b.1 = 0 then cmpF a.2 b.2 else cmpF a.1 b.1
/-- a comes before b. -/
def lexLt (a b : Int × Int) : Prop := a.1 < b.1 ∨ (a.1 = b.1 ∧ a.2 < b.2)
theorem cmpF_cases (a b : Int) : (cmpF a b = -1 ∧ a < b) ∨ (cmpF a b = 1 ∧ b < a) ∨ (cmpF a b = 0 ∧ a = b) := by
  unfold cmpF
  rcases Int.lt_trichotomy a b with h | h | h
  · rw [if_pos h]; exact .inl ⟨rfl, h⟩
  · rw [if_neg (by omega), if_neg (by omega)]; exact .inr (.inr ⟨rfl, h⟩)
  · rw [if_neg (by omega), if_pos h]; exact .inr (.inl ⟨rfl, h⟩)
theorem ordF_neg {a b : Int × Int} : ordF a b < 0 ↔ lexLt a b := by
  unfold ordF lexLt
  rcases cmpF_cases a.1 b.1 with ⟨h1, h2⟩ | ⟨h1, h2⟩ | ⟨h1, h2⟩ <;> rcases cmpF_cases a.2 b.2 with ⟨g1, g2⟩ | ⟨g1, g2⟩ | ⟨g1, g2⟩ <;> rw [h1] <;> (try rw [g1]) <;> simp <;> omega
set_option maxHeartbeats 400000 in
theorem nan_calls (a : Int) (w : World) : Calls Try.prog 122 #[.int .i64 a] w fun e w' => e = .returned (.bool false) ∧ w = w' := by
  have h : (a != a) = false := by simp
  go_enter Try.func122, Try.ntmps122
  go_wp2
  go_ret
  exact ⟨rfl, rfl⟩
set_option maxHeartbeats 400000 in
theorem compare_calls (a b : Int) (w : World) : Calls Try.prog 113 #[.int .i64 a, .int .i64 b] w fun e w' => e = .returned (.int .i64 (cmpF a b)) ∧ w = w' := by
  have H : Hid (cmpF a b = if a < b then -1 else if b < a then 1 else 0) := rfl
  rcases Int.lt_trichotomy a b with c | c | c
  · have d1 : decide (a < b) = true := by simpa using c
    go_enter Try.func113, Try.ntmps113
    go_wp2_with (go_at_call 122; refine (nan_calls _ _).mono ?_; rintro e w' ⟨rfl, rfl⟩)
    go_ret
    exact ⟨ret_int (by rw [H.out, if_pos c]), rfl⟩
  · have d1 : decide (a < b) = false := decide_eq_false (by omega)
    have d2 : decide (b < a) = false := decide_eq_false (by omega)
    have HC := Lib.hid c
    clear c
    go_enter Try.func113, Try.ntmps113
    go_wp2_with (go_at_call 122; refine (nan_calls _ _).mono ?_; rintro e w' ⟨rfl, rfl⟩)
    go_ret
    exact ⟨ret_int (by rw [H.out, if_neg (of_decide_eq_false d1), if_neg (of_decide_eq_false d2)]), rfl⟩
  · have d1 : decide (a < b) = false := decide_eq_false (by omega)
    have d2 : decide (b < a) = true := by simpa using c
    go_enter Try.func113, Try.ntmps113
    go_wp2_with (go_at_call 122; refine (nan_calls _ _).mono ?_; rintro e w' ⟨rfl, rfl⟩)
    go_ret
    exact ⟨ret_int (by rw [H.out, if_neg (by omega), if_pos c]), rfl⟩
set_option maxHeartbeats 1000000 in
theorem order_calls (a b : Int × Int) (w : World) : Gives Try.prog 82 #[.agg #[.int .i64 a.1, .int .i64 a.2], .agg #[.int .i64 b.1, .int .i64 b.2]] w (.int .i64 (ordF a b)) := by
  have H : Hid (ordF a b = orFrom [cmpF a.1 b.1, cmpF a.2 b.2] 0) := by
    unfold Hid; rw [orFrom_2]; rfl
  obtain ⟨r, hr⟩ : ∃ r, ordF a b = r := ⟨_, rfl⟩
  rw [hr] at H ⊢
  clear hr
  unfold Gives
  go_enter Try.func82, Try.ntmps82
  go_wp2_with fail
  go_region_held3 (fun w' => w'.cell? ⟨w.heap.size, 0, none⟩ = some (.int .i64 a.1) ∧ w'.cell? ⟨w.heap.size, 1, none⟩ = some (.int .i64 a.2) ∧ w'.cell? ⟨w.heap.size + 1, 0, none⟩ = some (.int .i64 b.1) ∧ w'.cell? ⟨w.heap.size + 1, 1, none⟩ = some (.int .i64 b.2)) (go_keep)
    (first | (go_at_call 113; refine (compare_calls _ _ _).mono ?_; rintro e w' ⟨rfl, rfl⟩) | (go_at_call 112; refine (or_is _ [cmpF a.1 b.1, cmpF a.2 b.2] r _ (IntsAt.below (ints2 (by simp)) (below_draw (Below.refl _ _))) H.out.symm).mono ?_; rintro e w' ⟨rfl, rfl⟩))
  all_goals go_wp2
  all_goals go_ret
  all_goals exact ⟨rfl, by (repeat' (first | exact Below.refl _ _ | assumption | refine below_new ?_ _ | refine below_draw ?_ | refine below_tail (by assumption) ?_ | refine below_set ?_ (by first | omega | (simp <;> omega)) _))⟩
set_option maxHeartbeats 1000000 in
set_option maxRecDepth 100000 in
theorem cloneP_own {v : Value} {l : List (Int × Int)} {w : World} (h : PairsAt w v l) (hl : l.length ≤ 1000) :
    Calls Try.prog 114 #[v] w fun e w' => ∃ v', e = .returned v' ∧ w'.ownsRow w.heap.size 32 2 v' l.length (cells2 l) ∧ Below w.heap.size w w' := by
  have HA := Lib.hid h
  obtain ⟨a, cap, rfl, hlc, hcm, hc⟩ := h
  obtain ⟨i0, hi0, hz0, hz1, hz2⟩ := info_parts infoPoint
  have hown := World.ownsRow_made (base := w.heap.size) (e := 32) (size := 2) w #[] 0 (Nat.le_refl _) (by decide) (by simp)
  cases a with
  | none =>
    have h0 : l.length = 0 := by
      rcases Nat.eq_zero_or_pos l.length with h0 | hpos
      · exact h0
      · obtain ⟨b, o, e, _⟩ := hc 0 hpos; cases e
    have hnil : l = [] := List.eq_nil_of_length_eq_zero h0
    clear hc
    have q22 : ∀ (w : World) (a : Option Addr) (n c n' c' : Nat), (binOp .eql 22 (.slice a n c) (.slice none n' c')).run Try.prog w = .ok (.bool a.isNone) w := fun w a n c n' c' => Lib.run_eql_slice_nil w _ _ a n c n' c' Try.underlying22
    go_enter Try.func114, Try.ntmps114
    go_wp2
    go_ret
    exact ⟨_, rfl, by rw [hnil]; exact World.ownsRow_nil _ _ _ _, Below.refl _ _⟩
  | some ad =>
    have hsrc : ∀ j u, (cells2 l)[j]? = some u → w.cell? (ad.add j) = some u := by
      intro j u hu
      have hpos : 0 < l.length := by
        rcases Nat.eq_zero_or_pos l.length with h0 | hpos
        · rw [List.eq_nil_of_length_eq_zero h0] at hu; simp [cells2] at hu
        · exact hpos
      obtain ⟨b, o, e, hs⟩ := pairs_source HA.out hpos
      obtain rfl := Option.some.inj e
      exact hs j u hu
    have HS := Lib.hid hsrc
    clear hc hsrc
    have q22 : ∀ (w : World) (a : Option Addr) (n c n' c' : Nat), (binOp .eql 22 (.slice a n c) (.slice none n' c')).run Try.prog w = .ok (.bool a.isNone) w := fun w a n c n' c' => Lib.run_eql_slice_nil w _ _ a n c n' c' Try.underlying22
    go_enter Try.func114, Try.ntmps114
    go_wp2_with (at_builtin; refine wpList_append_own _ rfl (.tmp 5) (.tmp 6) 22 rfl w.heap.size 32 i0 (.agg #[.int .i64 0, .int .i64 0]) 2 16 Try.underlying22 hi0 hz0 hz1 hz2 rfl (by decide) _ 0 [] rfl hown ad l.length cap (cells2 l) rfl (cells2_length l) ?_ (cells2_one l) (by unfold maxLen; omega) (by omega) (by simp) ?_; (exact fun j u hu => ((below_new (Below.refl _ w) _).cell (p := _) (block_lt_of_cell (HS.out j u hu))).trans (HS.out j u hu)); intro v' w1 hown' hgrow _; simp only [Nat.zero_add, List.nil_append] at hown')
    go_ret
    exact ⟨_, rfl, hown', below_grow (below_new (Below.refl _ w) _) hgrow (fun k' hk' => Nat.le_of_eq (Option.some.inj hk'))⟩
end Go.Proofs.Ythiemglckmociaa
