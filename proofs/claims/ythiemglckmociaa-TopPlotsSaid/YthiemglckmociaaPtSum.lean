/- What sum of package plot, and twice of its reference, give. Conditions: coordinates are small; the list lies in memory as said. -/
import Derived.Test.YthiemglckmociaaPtSpec
import Derived.Test.YthiemglckmociaaKit
import Derived.Test.YthiemglckmociaaGeoA
namespace Go.Proofs.Ythiemglckmociaa
open Go.RowKit Go.Shelf
attribute [local go_sem] Oper.semAt_some

/-- What a side tells of the area. -/
def cross2 (a b : Int × Int) : Int := a.1 * b.2 - b.1 * a.2
theorem cross2_bd {a b : Int × Int} (ha : bdP a) (hb : bdP b) : -32000000 ≤ cross2 a b ∧ cross2 a b ≤ 32000000 := by
  obtain ⟨⟨a1, a2⟩, a3, a4⟩ := id ha
  obtain ⟨⟨b1, b2⟩, b3, b4⟩ := id hb
  obtain ⟨p1, p2⟩ := prod_bd (u := a.1) (v := b.2) (by omega) (by omega)
  obtain ⟨q1, q2⟩ := prod_bd (u := b.1) (v := a.2) (by omega) (by omega)
  unfold cross2; omega
def areaK (l : List (Int × Int)) (k : Nat) : Int := sumN (fun i => cross2 (cor l i) (cor l (i + 1))) k
theorem areaK_bd {l : List (Int × Int)} (h : ∀ i, bdP (cor l i)) : ∀ k : Nat, -32000000 * k ≤ areaK l k ∧ areaK l k ≤ 32000000 * k
  | 0 => by simp [areaK, sumN]
  | k + 1 => by
    have := areaK_bd h k
    have := cross2_bd (h k) (h (k + 1))
    unfold areaK sumN
    unfold areaK at *
    omega
theorem areaK_succ (l : List (Int × Int)) (k : Nat) : areaK l (k + 1) = areaK l k + cross2 (cor l k) (cor l (k + 1)) := rfl

set_option maxHeartbeats 1000000 in
theorem sum_calls (v : Value) (l : List (Int × Int)) (w : World) (h : PairsAt w v l) (h0 : 0 < l.length) (h1 : l.length ≤ 1000) (hbd : ∀ i, bdP (cor l i)) :
    Gives Try.prog 60 #[v] w (.int .i64 (areaK l l.length)) := by
  have HP := Lib.hid h
  have HBD := Lib.hid hbd
  obtain ⟨sa, cap, rfl, hlc, hcm, _⟩ := h
  clear hbd
  unfold Gives
  refine (callsIn_wide (n := 9)).1 ?_
  refine callsIn_of_wp_marks Try.func60 rfl trivial ?_ rfl
  simp only [Try.ntmps60, List.size_toArray, List.length_cons, List.length_nil, Nat.reduceAdd, Nat.reduceSub, Array.replicate_succ, Array.replicate_zero, List.push_toArray, List.append_toArray, List.nil_append, List.cons_append]
  gi_wp2_with (refine ⟨trivial, ?_⟩; gi_at_call 56; refine (callsIn_wide.2 (sides_calls _ _ _ _)).mono ?_; rintro e w' ⟨rfl, rfl⟩)
  obtain ⟨W0, hW0⟩ : ∃ W0, ((w.alloc (.cells #[.int .i64 0] 3)).alloc (.cells #[.slice sa l.length cap] 22)) = W0 := ⟨_, rfl⟩
  rw [hW0]
  have hB0 : Below w.heap.size w W0 := by rw [← hW0]; (repeat' (first | exact Below.refl _ _ | assumption | refine below_new ?_ _ | refine below_draw ?_ | refine below_tail (by assumption) ?_ | refine below_set ?_ (by first | omega | (simp <;> omega)) _))
  have hsz : W0.heap.size = w.heap.size + 2 := by rw [← hW0]; simp [go_sem]
  have e0 : W0.cell? ⟨w.heap.size, 0, none⟩ = some (.int .i64 0) := by rw [← hW0]; simp [go_sem]
  have e1 : W0.frozen? ⟨w.heap.size, 0, none⟩ = false := by rw [← hW0]; simp [go_sem]
  have e2 : W0.cell? ⟨w.heap.size + 1, 0, none⟩ = some (.slice sa l.length cap) := by rw [← hW0]; simp [go_sem]
  clear hW0
  refine wide_rangeBox (gf := 103) (lb := #[.pointer (some ⟨w.heap.size + 1, 0, none⟩)]) rfl (enters_of Try.func103 (by kernel_rfl) rfl) (sides_iter (w.heap.size + 1) _ l h0 (by omega)) (fun _ => rfl)
    (fun k W => Below w.heap.size w W ∧ k ≤ l.length ∧ W.cell? ⟨w.heap.size + 1, 0, none⟩ = some (.slice sa l.length cap) ∧ W.cell? ⟨w.heap.size, 0, none⟩ = some (.int .i64 (areaK l k)) ∧ W.frozen? ⟨w.heap.size, 0, none⟩ = false)
    (fun cd k W => False)
    (fun k W h => ⟨h.2.2.1, HP.out.below h.1⟩)
    (fun k W W' h hb => ⟨h.1.trans (hb.mono (by omega)), h.2.1, (hb.cell (p := ⟨w.heap.size + 1, 0, none⟩) (by dsimp only; omega)).trans h.2.2.1, (hb.cell (p := ⟨w.heap.size, 0, none⟩) (by dsimp only; omega)).trans h.2.2.2.1, (hb.frozen (p := ⟨w.heap.size, 0, none⟩) (by dsimp only; omega)).trans h.2.2.2.2⟩)
    (fun cd k W W' h hb => h)
    (fun e => by cases e)
    ⟨hB0, Nat.zero_le _, e2, e0, e1⟩
    (fun k a' W => ∃ g, a' = { tmps := #[.slice sa l.length cap, undef, .int .i64 0, .pointer (some ⟨w.heap.size, 0, none⟩), undef, .pointer (some ⟨g, 0, none⟩), .slice sa l.length cap, .func (.func 103) #[] #[.pointer (some ⟨w.heap.size + 1, 0, none⟩)], .int .i64 k, sideV (cor l k) (cor l (k + 1)), undef, undef, undef, undef, undef, undef, undef, undef, undef, undef, undef, undef, undef, undef, undef, undef, undef, undef], defers := [] } ∧
      W.cell? ⟨g, 0, none⟩ = some (.int .i64 (cor l k).1) ∧ W.cell? ⟨g, 1, none⟩ = some (.int .i64 (cor l k).2) ∧ W.cell? ⟨g, 2, none⟩ = some (.int .i64 (cor l (k + 1)).1) ∧ W.cell? ⟨g, 3, none⟩ = some (.int .i64 (cor l (k + 1)).2))
    (fun k a' W l o hl hr ⟨g, ha, c0, c1, c2, c3⟩ => ⟨g, ha, cell_putObj_loop hr c0, cell_putObj_loop hr c1, cell_putObj_loop hr c2, cell_putObj_loop hr c3⟩) ?assign ?body ?done ?stop
  case assign =>
    intro l' k W K hsW hI hm hK
    gi_wp2
    have hb3 := (Below.refl W.heap.size W).alloc (Nat.le_refl _) (.cells #[.int .i64 (cor l k).1, .int .i64 (cor l k).2, .int .i64 (cor l (k + 1)).1, .int .i64 (cor l (k + 1)).2] 56)
    exact hK _ _ (keeps_of_below hb3) ⟨hI.1.trans (hb3.mono (by omega)), hI.2.1, (hb3.cell (p := ⟨w.heap.size + 1, 0, none⟩) (by dsimp only; omega)).trans hI.2.2.1, (hb3.cell (p := ⟨w.heap.size, 0, none⟩) (by dsimp only; omega)).trans hI.2.2.2.1, (hb3.frozen (p := ⟨w.heap.size, 0, none⟩) (by dsimp only; omega)).trans hI.2.2.2.2⟩
      ⟨W.heap.size, rfl, by simp [go_sem], by simp [go_sem], by simp [go_sem], by simp [go_sem]⟩
  case body =>
    rintro l' k a' W hl hr hsW ⟨hB, hk, f2, f0, f1⟩ ⟨g, rfl, c0, c1, c2, c3⟩ hm
    have hkl := hm _ rfl
    have b1 := areaK_bd HBD.out k
    have b2 := cross2_bd (HBD.out k) (HBD.out (k + 1))
    have b3 := areaK_bd HBD.out (k + 1)
    have HS := Lib.hid (areaK_succ l k)
    obtain ⟨⟨a1, a2⟩, a3, a4⟩ := HBD.out k
    obtain ⟨⟨d1, d2⟩, d3, d4⟩ := HBD.out (k + 1)
    obtain ⟨p1, p2⟩ := prod_bd (u := (cor l k).1) (v := (cor l (k + 1)).2) (by omega) (by omega)
    obtain ⟨q1, q2⟩ := prod_bd (u := (cor l (k + 1)).1) (v := (cor l k).2) (by omega) (by omega)
    gi_wp2
    refine ⟨KeepsOthers.setCell _ _ _, below_set hB (by dsimp only; omega) _, by omega, ?_, ?_, ?_⟩
    · rw [World.cell?_setCell_other _ _ _ _ (by simp)]; exact f2
    · rw [HS.out]; exact World.cell?_setCell_same' _ _ _ (by rw [f0]; rfl)
    · rw [World.frozen?_setCell]; exact f1
  case done =>
    rintro m D W hm hD ⟨hB, hk, f2, f0, f1⟩ hK
    cases hm
    gi_wp2
    refine ⟨by simp, .inl ⟨_, _, rfl, run_takeDeferred hK, ?_⟩⟩
    have hP := below_obj (B := w.heap.size) (D := D) (W := W) (.deferred none) (by omega) hB.size
    exact ⟨_, by simp [results, Try.f60, go_sem], rfl, hB.trans hP⟩
  case stop => intro D c k W hD h; exact h.elim
end Go.Proofs.Ythiemglckmociaa
