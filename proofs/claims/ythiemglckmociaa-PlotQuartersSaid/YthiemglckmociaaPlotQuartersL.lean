/- The law PlotQuarters returns true. Conditions: the lists lie in memory as said. -/
import Derived.Test.YthiemglckmociaaPlotAreasL
import Derived.Test.YthiemglckmociaaPtRQuarter
import Derived.Test.YthiemglckmociaaPtSame
import Derived.Deep.DeepCutAuto
import Derived.Deep.RegionHeld3
namespace Go.Proofs.Ythiemglckmociaa
open Go.RowKit

def rotN : Nat → Int × Int → Int × Int
  | 0, x => x
  | k + 1, x => rot (rotN k x)
theorem rotN_4 (x : Int × Int) : rotN 4 x = x := by
  show rot (rot (rot (rot x))) = x
  unfold rot
  exact Prod.ext (by simp only; omega) (by simp only; omega)
theorem rotN_bd {B : Int} {x : Int × Int} (h : (-B ≤ x.1 ∧ x.1 ≤ B) ∧ -B ≤ x.2 ∧ x.2 ≤ B) : ∀ k, (-B ≤ (rotN k x).1 ∧ (rotN k x).1 ≤ B) ∧ -B ≤ (rotN k x).2 ∧ (rotN k x).2 ≤ B
  | 0 => h
  | k + 1 => by
    have := rotN_bd h k
    unfold rotN rot
    simp only
    omega
theorem map_rotN (l : List (Int × Int)) (k : Nat) : l.map (rotN (k + 1)) = (l.map (rotN k)).map rot := by
  rw [List.map_map]; rfl
theorem map_rot4 (l : List (Int × Int)) : l.map (rotN 4) = l := by
  rw [show rotN 4 = id from funext rotN_4, List.map_id]
theorem rot_valid {l : List (Int × Int)} (h : Valid l) : Valid (l.map rot) :=
  h.map keeps_rot fun i => by have := h.rng i; unfold rot; simp only; omega
theorem rotN_valid {l : List (Int × Int)} (h : Valid l) : ∀ k, Valid (l.map (rotN k))
  | 0 => by rw [show l.map (rotN 0) = l from by rw [show rotN 0 = id from rfl, List.map_id]]; exact h
  | k + 1 => by rw [map_rotN]; exact rot_valid (rotN_valid h k)
theorem farB_iff {x : Int × Int} : farB x = false ↔ (-1000 ≤ x.1 ∧ x.1 ≤ 1000) ∧ -1000 ≤ x.2 ∧ x.2 ≤ 1000 := by
  rw [farB_betw]; simp [betw]
/-- No error: the point lies in the turned plot as it lay. -/
theorem side_quarter {l : List (Int × Int)} {x : Int × Int} (h : sideE l x = 0) (k : Nat) : sideE (l.map (rotN k)) (rotN k x) = 0 ∧ sideP (l.map (rotN k)) (rotN k x) = sideP l x := by
  have hv := sideE_valid h
  have h3 := hv.lo
  have hf : farB x = false := by
    unfold sideE at h
    rw [if_pos (valid_iff.2 hv)] at h
    cases c : farB x
    · rfl
    · rw [c, if_pos rfl] at h; cases h
  have he : ∀ k, sideE (l.map (rotN k)) (rotN k x) = 0 := fun k => by
    unfold sideE
    rw [if_pos (valid_iff.2 (rotN_valid hv k)), farB_iff.2 (rotN_bd (farB_iff.1 hf) k)]
    rfl
  refine ⟨he k, ?_⟩
  rw [sides_eq, sides_eq]
  unfold sideR
  rw [if_pos (he k), if_pos h]
  induction k with
  | zero => rw [show l.map (rotN 0) = l from by rw [show rotN 0 = id from rfl, List.map_id]]; rfl
  | succ k ih => rw [map_rotN, ← ih]; exact side_rot (by simp; omega) _
theorem sideE_far {l : List (Int × Int)} {x : Int × Int} (h : sideE l x = 0) : farB x = false := by
  have hv := sideE_valid h
  unfold sideE at h
  rw [if_pos (valid_iff.2 hv)] at h
  cases c : farB x
  · rfl
  · rw [c, if_pos rfl] at h; cases h
theorem chL_rot {l : List (Int × Int)} (h : Valid l) : chL rot l = l.map rot ∧ chE rot l = 0 := by
  have hr : rangedB (l.map rot) = true := ranged_all fun i hi => by
    have := h.rng i
    rw [cor_lt hi] at this
    exact inR_iff.2 (by unfold rot; simp only; omega)
  exact ⟨by unfold chL; rw [if_pos (valid_iff.2 h), if_pos hr], by unfold chE; rw [if_pos (valid_iff.2 h), if_pos hr]⟩
theorem Quarter_is {v : Value} {l L : List (Int × Int)} {E : Int} (w : World) (h : PairsAt w v l) (hL : chL rot l = L) (hE : chE rot l = E) : GivesPts Try.prog 34 #[v] w L E := by subst hL hE; exact Quarter_calls v l w h
/-- What the first statement leaves: a copy of the list, and a box with the point. -/
def Both (w : World) (l : List (Int × Int)) (x : Int × Int) (s7 s8 : Value) (wx : World) : Prop :=
  Below w.heap.size w wx ∧ PairsAt wx s7 l ∧ ∃ g : Nat, s8 = .pointer (some ⟨g, 0, none⟩) ∧ w.heap.size < g ∧ g < wx.heap.size ∧ wx.cell? ⟨g, 0, none⟩ = some (.int .i64 x.1) ∧ wx.cell? ⟨g, 1, none⟩ = some (.int .i64 x.2) ∧ wx.frozen? ⟨g, 0, none⟩ = false ∧ wx.frozen? ⟨g, 1, none⟩ = false
theorem both_before {w w5 : World} {l : List (Int × Int)} {x : Int × Int} {v5 : Value} {base g : Nat} {e : TypeId} (hb : Below w.heap.size w w5) (ho : w5.ownsRow base e 2 v5 l.length (cells2 l)) (hg : w.heap.size < g) (hg2 : g < w5.heap.size)
    (k2 : w5.cell? ⟨g, 0, none⟩ = some (.int .i64 0)) (k3 : w5.cell? ⟨g, 1, none⟩ = some (.int .i64 0)) (k4 : w5.frozen? ⟨g, 0, none⟩ = false) (k5 : w5.frozen? ⟨g, 1, none⟩ = false) (hn : v5.ownBlock ≠ some g) :
    Both w l x v5 (.pointer (some ⟨g, 0, none⟩)) ((w5.setCell ⟨g, 0, none⟩ (.int .i64 x.1)).setCell ⟨g, 1, none⟩ (.int .i64 x.2)) := by
  refine ⟨below_set (below_set hb (by dsimp only; omega) _) (by dsimp only; omega) _, own_pairs (ownsRow_setCell_other (ownsRow_setCell_other ho hn _) hn _), g, rfl, hg, by simpa using hg2, ?_, ?_, ?_, ?_⟩
  · exact (World.cell?_setCell_other _ _ _ _ (by simp)).trans (World.cell?_setCell_same' _ _ _ (by rw [k2]; rfl))
  · exact World.cell?_setCell_same' _ _ _ (by rw [World.cell?_setCell_other _ _ _ _ (by simp), k3]; rfl)
  · exact ((World.frozen?_setCell _ _ _ _).trans (World.frozen?_setCell _ _ _ _)).trans k4
  · exact ((World.frozen?_setCell _ _ _ _).trans (World.frozen?_setCell _ _ _ _)).trans k5
theorem both_behind {w w5 : World} {l : List (Int × Int)} {x : Int × Int} {v5 : Value} {base : Nat} {e t : TypeId} (hb : Below w.heap.size w w5) (ho : w5.ownsRow base e 2 v5 l.length (cells2 l)) (hg : w.heap.size < w5.heap.size) :
    Both w l x v5 (.pointer (some ⟨w5.heap.size, 0, none⟩)) (w5.alloc (.cells #[.int .i64 x.1, .int .i64 x.2] t)) :=
  ⟨below_new hb _, own_pairs (ho.alloc _), _, rfl, hg, by simp, by simp, by simp, by simp [go_sem], by simp [go_sem]⟩
theorem made_second (w : World) (o : Obj) (e : TypeId) : ((w.alloc o).alloc (.cells #[] e)).ownsRow w.heap.size e 2 (.slice (some ⟨w.heap.size + 1, 0, none⟩) 0 0) 0 [] := by
  have h := World.ownsRow_made (base := w.heap.size) (e := e) (size := 2) (w.alloc o) #[] 0 (by simp) (by decide) (by simp)
  simpa using h
theorem turn_box {w1 w2 w5 : World} {g : Nat} {a b a' b' : Int} {o : Obj} (hg : g < w1.heap.size) (x0 : w1.cell? ⟨g, 0, none⟩ = some (.int .i64 a)) (x1 : w1.cell? ⟨g, 1, none⟩ = some (.int .i64 b)) (p0 : w1.frozen? ⟨g, 0, none⟩ = false) (p1 : w1.frozen? ⟨g, 1, none⟩ = false)
    (hb : Below ((w1.setCell ⟨g, 0, none⟩ (.int .i64 a')).setCell ⟨g, 1, none⟩ (.int .i64 b')).heap.size ((w1.setCell ⟨g, 0, none⟩ (.int .i64 a')).setCell ⟨g, 1, none⟩ (.int .i64 b')) w2) (hgrow : (w2.alloc o).grownBy w5 (some w2.heap.size)) :
    g < w5.heap.size ∧ w5.cell? ⟨g, 0, none⟩ = some (.int .i64 a') ∧ w5.cell? ⟨g, 1, none⟩ = some (.int .i64 b') ∧ w5.frozen? ⟨g, 0, none⟩ = false ∧ w5.frozen? ⟨g, 1, none⟩ = false := by
  have hs2 := hb.size
  have hs5 := hgrow.size
  simp at hs2 hs5
  have far : ∀ o, w5.cell? ⟨g, o, none⟩ = w2.cell? ⟨g, o, none⟩ := fun o => (hgrow.cell_far _ (by simp <;> omega) (by simp <;> omega)).trans ((below_new (Below.refl _ w2) _).cell (p := ⟨g, o, none⟩) (by dsimp only; omega))
  have farz : ∀ o, w5.frozen? ⟨g, o, none⟩ = w2.frozen? ⟨g, o, none⟩ := fun o => (hgrow.frozen_far _ (by simp <;> omega) (by simp <;> omega)).trans ((below_new (Below.refl _ w2) _).frozen (p := ⟨g, o, none⟩) (by dsimp only; omega))
  have m : ∀ o, w2.cell? ⟨g, o, none⟩ = _ := fun o => hb.cell (p := ⟨g, o, none⟩) (by simpa using hg)
  have mz : ∀ o, w2.frozen? ⟨g, o, none⟩ = _ := fun o => hb.frozen (p := ⟨g, o, none⟩) (by simpa using hg)
  refine ⟨by omega, ?_, ?_, ?_, ?_⟩
  · rw [far, m]; exact (World.cell?_setCell_other _ _ _ _ (by simp)).trans (World.cell?_setCell_same' _ _ _ (by rw [x0]; rfl))
  · rw [far, m]; exact World.cell?_setCell_same' _ _ _ (by rw [World.cell?_setCell_other _ _ _ _ (by simp), x1]; rfl)
  · rw [farz, mz]; exact ((World.frozen?_setCell _ _ _ _).trans (World.frozen?_setCell _ _ _ _)).trans p0
  · rw [farz, mz]; exact ((World.frozen?_setCell _ _ _ _).trans (World.frozen?_setCell _ _ _ _)).trans p1
set_option maxRecDepth 100000 in
set_option maxHeartbeats 2000000 in
theorem plotQuarters_calls (v : Value) (l : List (Int × Int)) (x : Int × Int) (w : World) (h : PairsAt w v l) : Gives Try.prog 7 #[v, .agg #[.int .i64 x.1, .int .i64 x.2]] w (.bool true) := by
  have HP := Lib.hid h
  obtain ⟨sa, cap, rfl, hlc, hcm, _⟩ := h
  unfold Gives
  obtain ⟨b, hb⟩ : ∃ b, decide (40 < (l.length : Int)) = b := ⟨_, rfl⟩
  have HLO := Lib.hid hb
  cases b
  · have hlen : l.length ≤ 40 := by have := of_decide_eq_false hb; omega
    clear hb
    obtain ⟨S, hS⟩ : ∃ e, sideP l x = e := ⟨_, rfl⟩
    obtain ⟨E, hE⟩ : ∃ e, sideE l x = e := ⟨_, rfl⟩
    have HS := Lib.hid hS
    have HE := Lib.hid hE
    clear hS hE
    obtain ⟨i0, hi0, hz0, hi1, hi2⟩ := info_parts infoPoint
    go_enter Try.func7, Try.ntmps7
    go_upto_region 4 with (first | (go_at_call 17; refine (Long_is _ (HP.out.below (by (repeat' (first | exact Below.refl _ _ | assumption | refine below_new ?_ _ | refine below_draw ?_ | refine below_tail (by assumption) ?_ | refine below_set ?_ (by first | omega | (simp <;> omega)) _)))) HLO.out).use ?_; intro wl hbl hzl hcl hfl; (try simp at hzl); have hyl : w.heap.size < wl.heap.size := (by omega); have hxl0 := fun o => hcl w.heap.size o (by first | omega | (simp <;> omega)); clear hcl hfl) | (go_at_call 29; (with_reducible refine (Side_is _ (HP.out.below (by (repeat' (first | exact Below.refl _ _ | assumption | refine below_new ?_ _ | refine below_draw ?_ | refine below_tail (by assumption) ?_ | refine below_set ?_ (by first | omega | (simp <;> omega)) _)))) HS.out HE.out).use ?_); intro w1 hb1 hz1 hc1 hf1; (try simp at hz1); have hy1 : w.heap.size < w1.heap.size := (by omega); have hx10 := fun o => hc1 (w.heap.size) o (by first | omega | (simp <;> omega)); clear hc1 hf1))
    have hq0 : w1.cell? ⟨w.heap.size, 0, none⟩ = some (.int .i64 x.1) := by rw [hx10, hxl0]; simp
    have hq1 : w1.cell? ⟨w.heap.size, 1, none⟩ = some (.int .i64 x.2) := by rw [hx10, hxl0]; simp
    have hw1 : Below w.heap.size w w1 := by (repeat' (first | exact Below.refl _ _ | assumption | refine below_new ?_ _ | refine below_draw ?_ | refine below_tail (by assumption) ?_ | refine below_set ?_ (by first | omega | (simp <;> omega)) _))
    clear hxl0 hx10
    go_cut [7, 8] (fun s7 s8 wx => Both w l x s7 s8 wx)
    case first =>
      go_region_held3 (fun w' => w'.cell? ⟨w.heap.size, 0, none⟩ = some (.int .i64 x.1) ∧ w'.cell? ⟨w.heap.size, 1, none⟩ = some (.int .i64 x.2))
        (first
          | go_keep
          | (go_split_ands; refine ⟨?_, ?_⟩ <;> (rw [World.cell?_setCell_other _ _ _ _ (by simp <;> omega), World.cell?_setCell_other _ _ _ _ (by simp <;> omega)]; assumption)))
        (first
          | (refine step_append_any (w := ((w1.alloc (.cells #[] 32)).alloc (.cells #[.int .i64 0, .int .i64 0] 32)).drew) (by rfl) _ _ _ (by rfl) w1.heap.size 32 i0 (.agg #[.int .i64 0, .int .i64 0]) 2 16 Try.underlying22 hi0 hz0 hi1 hi2 (by rfl) (by decide) (.slice (some ⟨w1.heap.size, 0, none⟩) 0 0) 0 [] (by rfl) ((World.ownsRow_made (base := w1.heap.size) (e := 32) (size := 2) w1 #[] 0 (Nat.le_refl _) (by decide) (by simp)).alloc _).drew _ l.length (cells2 l) (by rfl) (pairs_src (HP.out.below (by (repeat' (first | exact Below.refl _ _ | assumption | refine below_new ?_ _ | refine below_draw ?_ | refine below_tail (by assumption) ?_ | refine below_set ?_ (by first | omega | (simp <;> omega)) _))))) (by unfold maxLen; omega) (by omega) (by simp <;> omega) ?_; intro v5 w5 hown5 hgrow hat; (have hb5 : Below w.heap.size w w5 := below_grow (show Below w.heap.size w _ by (repeat' (first | exact Below.refl _ _ | assumption | refine below_new ?_ _ | refine below_draw ?_ | refine below_tail (by assumption) ?_ | refine below_set ?_ (by first | omega | (simp <;> omega)) _))) hgrow (fun k hk => by simp [Value.ownBlock] at hk; omega)); (have ho5 : w5.ownsRow w1.heap.size 32 2 v5 l.length (cells2 l) := by simpa using hown5); (have hs5 := hgrow.size); (simp at hs5); (have k0 : w5.cell? ⟨w.heap.size, 0, none⟩ = some (.int .i64 x.1) := (hgrow.cell_far _ (by simp <;> omega) (by simp [Value.ownBlock] <;> omega)).trans ((Below.cell (p := ⟨w.heap.size, 0, none⟩) (show Below w1.heap.size w1 _ by (repeat' (first | exact Below.refl _ _ | assumption | refine below_new ?_ _ | refine below_draw ?_ | refine below_tail (by assumption) ?_ | refine below_set ?_ (by first | omega | (simp <;> omega)) _))) hy1).trans hq0)); (have k1 : w5.cell? ⟨w.heap.size, 1, none⟩ = some (.int .i64 x.2) := (hgrow.cell_far _ (by simp <;> omega) (by simp [Value.ownBlock] <;> omega)).trans ((Below.cell (p := ⟨w.heap.size, 1, none⟩) (show Below w1.heap.size w1 _ by (repeat' (first | exact Below.refl _ _ | assumption | refine below_new ?_ _ | refine below_draw ?_ | refine below_tail (by assumption) ?_ | refine below_set ?_ (by first | omega | (simp <;> omega)) _))) hy1).trans hq1)); (have hn5 : v5.ownBlock ≠ some (w1.heap.size + 1) := by rcases hat with h | h <;> rw [h] <;> simp [Value.ownBlock] <;> omega); (have k2 : w5.cell? ⟨w1.heap.size + 1, 0, none⟩ = some (.int .i64 0) := (hgrow.cell_far _ (by simp <;> omega) (by simp [Value.ownBlock] <;> omega)).trans (by simp [go_sem]; done)); (have k4 : w5.frozen? ⟨w1.heap.size + 1, 0, none⟩ = false := (hgrow.frozen_far _ (by simp <;> omega) (by simp [Value.ownBlock] <;> omega)).trans (by simp [go_sem]; done)); (have k3 : w5.cell? ⟨w1.heap.size + 1, 1, none⟩ = some (.int .i64 0) := (hgrow.cell_far _ (by simp <;> omega) (by simp [Value.ownBlock] <;> omega)).trans (by simp [go_sem]; done)); (have k5 : w5.frozen? ⟨w1.heap.size + 1, 1, none⟩ = false := (hgrow.frozen_far _ (by simp <;> omega) (by simp [Value.ownBlock] <;> omega)).trans (by simp [go_sem]; done)))
          | (refine step_append_any (w := ((w1.alloc (.cells #[.int .i64 0, .int .i64 0] 32)).alloc (.cells #[] 32)).drew) (by rfl) _ _ _ (by rfl) w1.heap.size 32 i0 (.agg #[.int .i64 0, .int .i64 0]) 2 16 Try.underlying22 hi0 hz0 hi1 hi2 (by rfl) (by decide) (.slice (some ⟨w1.heap.size + 1, 0, none⟩) 0 0) 0 [] (by rfl) (made_second w1 _ _).drew _ l.length (cells2 l) (by rfl) (pairs_src (HP.out.below (by (repeat' (first | exact Below.refl _ _ | assumption | refine below_new ?_ _ | refine below_draw ?_ | refine below_tail (by assumption) ?_ | refine below_set ?_ (by first | omega | (simp <;> omega)) _))))) (by unfold maxLen; omega) (by omega) (by simp <;> omega) ?_; intro v5 w5 hown5 hgrow hat; (have hb5 : Below w.heap.size w w5 := below_grow (show Below w.heap.size w _ by (repeat' (first | exact Below.refl _ _ | assumption | refine below_new ?_ _ | refine below_draw ?_ | refine below_tail (by assumption) ?_ | refine below_set ?_ (by first | omega | (simp <;> omega)) _))) hgrow (fun k hk => by simp [Value.ownBlock] at hk; omega)); (have ho5 : w5.ownsRow w1.heap.size 32 2 v5 l.length (cells2 l) := by simpa using hown5); (have hs5 := hgrow.size); (simp at hs5); (have k0 : w5.cell? ⟨w.heap.size, 0, none⟩ = some (.int .i64 x.1) := (hgrow.cell_far _ (by simp <;> omega) (by simp [Value.ownBlock] <;> omega)).trans ((Below.cell (p := ⟨w.heap.size, 0, none⟩) (show Below w1.heap.size w1 _ by (repeat' (first | exact Below.refl _ _ | assumption | refine below_new ?_ _ | refine below_draw ?_ | refine below_tail (by assumption) ?_ | refine below_set ?_ (by first | omega | (simp <;> omega)) _))) hy1).trans hq0)); (have k1 : w5.cell? ⟨w.heap.size, 1, none⟩ = some (.int .i64 x.2) := (hgrow.cell_far _ (by simp <;> omega) (by simp [Value.ownBlock] <;> omega)).trans ((Below.cell (p := ⟨w.heap.size, 1, none⟩) (show Below w1.heap.size w1 _ by (repeat' (first | exact Below.refl _ _ | assumption | refine below_new ?_ _ | refine below_draw ?_ | refine below_tail (by assumption) ?_ | refine below_set ?_ (by first | omega | (simp <;> omega)) _))) hy1).trans hq1)); (have hn5 : v5.ownBlock ≠ some (w1.heap.size) := by rcases hat with h | h <;> rw [h] <;> simp [Value.ownBlock] <;> omega); (have k2 : w5.cell? ⟨w1.heap.size, 0, none⟩ = some (.int .i64 0) := (hgrow.cell_far _ (by simp <;> omega) (by simp [Value.ownBlock] <;> omega)).trans (by simp [go_sem]; done)); (have k4 : w5.frozen? ⟨w1.heap.size, 0, none⟩ = false := (hgrow.frozen_far _ (by simp <;> omega) (by simp [Value.ownBlock] <;> omega)).trans (by simp [go_sem]; done)); (have k3 : w5.cell? ⟨w1.heap.size, 1, none⟩ = some (.int .i64 0) := (hgrow.cell_far _ (by simp <;> omega) (by simp [Value.ownBlock] <;> omega)).trans (by simp [go_sem]; done)); (have k5 : w5.frozen? ⟨w1.heap.size, 1, none⟩ = false := (hgrow.frozen_far _ (by simp <;> omega) (by simp [Value.ownBlock] <;> omega)).trans (by simp [go_sem]; done)))
          | (refine step_append_any (w := (w1.alloc (.cells #[] 32)).drew) (by rfl) _ _ _ (by rfl) w1.heap.size 32 i0 (.agg #[.int .i64 0, .int .i64 0]) 2 16 Try.underlying22 hi0 hz0 hi1 hi2 (by rfl) (by decide) (.slice (some ⟨w1.heap.size, 0, none⟩) 0 0) 0 [] (by rfl) (World.ownsRow_made (base := w1.heap.size) (e := 32) (size := 2) w1 #[] 0 (Nat.le_refl _) (by decide) (by simp)).drew _ l.length (cells2 l) (by rfl) (pairs_src (HP.out.below (by (repeat' (first | exact Below.refl _ _ | assumption | refine below_new ?_ _ | refine below_draw ?_ | refine below_tail (by assumption) ?_ | refine below_set ?_ (by first | omega | (simp <;> omega)) _))))) (by unfold maxLen; omega) (by omega) (by simp <;> omega) ?_; intro v5 w5 hown5 hgrow hat; (have hb5 : Below w.heap.size w w5 := below_grow (show Below w.heap.size w _ by (repeat' (first | exact Below.refl _ _ | assumption | refine below_new ?_ _ | refine below_draw ?_ | refine below_tail (by assumption) ?_ | refine below_set ?_ (by first | omega | (simp <;> omega)) _))) hgrow (fun k hk => by simp [Value.ownBlock] at hk; omega)); (have ho5 : w5.ownsRow w1.heap.size 32 2 v5 l.length (cells2 l) := by simpa using hown5); (have hs5 := hgrow.size); (simp at hs5); (have k0 : w5.cell? ⟨w.heap.size, 0, none⟩ = some (.int .i64 x.1) := (hgrow.cell_far _ (by simp <;> omega) (by simp [Value.ownBlock] <;> omega)).trans ((Below.cell (p := ⟨w.heap.size, 0, none⟩) (show Below w1.heap.size w1 _ by (repeat' (first | exact Below.refl _ _ | assumption | refine below_new ?_ _ | refine below_draw ?_ | refine below_tail (by assumption) ?_ | refine below_set ?_ (by first | omega | (simp <;> omega)) _))) hy1).trans hq0)); (have k1 : w5.cell? ⟨w.heap.size, 1, none⟩ = some (.int .i64 x.2) := (hgrow.cell_far _ (by simp <;> omega) (by simp [Value.ownBlock] <;> omega)).trans ((Below.cell (p := ⟨w.heap.size, 1, none⟩) (show Below w1.heap.size w1 _ by (repeat' (first | exact Below.refl _ _ | assumption | refine below_new ?_ _ | refine below_draw ?_ | refine below_tail (by assumption) ?_ | refine below_set ?_ (by first | omega | (simp <;> omega)) _))) hy1).trans hq1))))
      all_goals go_wp2_with fail
      all_goals go_meet
      all_goals (first | exact both_behind hb5 ho5 (by omega) | exact both_before hb5 ho5 (by omega) (by omega) k2 k3 k4 k5 hn5)
    case rest =>
      unfold Both at hcut
      obtain ⟨hbx, hpx, g, rfl, hg1, hg2, c0, c1, f0, f1⟩ := hcut
      clear hq0 hq1 hw1 hb1 hz1 hy1 hbl hzl hyl
      by_cases hz : E = 0
      · subst hz
        have HV := Lib.hid (sideE_valid HE.out)
        have HB := Lib.hid (farB_iff.1 (sideE_far HE.out))
        go_wp2_with fail
        go_loopw [7, 9] (fun v7 v9 wr => ∃ k : Nat, k ≤ 4 ∧ v9 = .int .i64 k ∧ PairsAt wr v7 (l.map (rotN k)) ∧ Below w.heap.size w wr ∧ g < wr.heap.size ∧ wr.cell? ⟨g, 0, none⟩ = some (.int .i64 (rotN k x).1) ∧ wr.cell? ⟨g, 1, none⟩ = some (.int .i64 (rotN k x).2) ∧ wr.frozen? ⟨g, 0, none⟩ = false ∧ wr.frozen? ⟨g, 1, none⟩ = false) (fun _ v9 _ => 4 - (intOf v9).toNat)
        case atStart => exact ⟨0, Nat.zero_le _, rfl, by rw [show rotN 0 = id from rfl, List.map_id]; exact hpx, hbx, hg2, c0, c1, f0, f1⟩
        case round =>
          obtain ⟨k, hk, rfl, hP, hbw, hgs, d0, d1, e0, e1⟩ := hrel
          by_cases hlt : k < 4
          · have hg : decide ((k : Int) < 4) = true := decide_eq_true (by omega)
            obtain ⟨hq1, hq2⟩ := chL_rot (rotN_valid HV.out k)
            obtain ⟨hs1, hs2⟩ := side_quarter HE.out (k + 1)
            rw [HS.out] at hs2
            rw [← map_rotN] at hq1
            obtain ⟨⟨y1, y2⟩, y3, y4⟩ := rotN_bd HB.out k
            have hr : rotN (k + 1) x = (-(rotN k x).2, (rotN k x).1) := rfl
            rw [hr] at hs1 hs2
            have hl1 : (l.map (rotN (k + 1))).length ≤ 40 := by simpa using hlen
            obtain ⟨L1, hL1⟩ : ∃ L1, l.map (rotN (k + 1)) = L1 := ⟨_, rfl⟩
            rw [hL1] at hq1 hs1 hs2 hl1
            have HL1 := Lib.hid hL1
            obtain ⟨L0, hL0⟩ : ∃ L0, l.map (rotN k) = L0 := ⟨_, rfl⟩
            rw [hL0] at hq1 hq2 hP
            have HQ1 := Lib.hid hq1
            have HQ2 := Lib.hid hq2
            have HX := Lib.hid hr
            obtain ⟨y, hy⟩ : ∃ y, rotN k x = y := ⟨_, rfl⟩
            rw [hy] at d0 d1 y1 y2 y3 y4 hs1 hs2 HX
            have HS1 := Lib.hid hs1
            have HS2 := Lib.hid hs2
            have HPR := Lib.hid hP
            clear hL1 hL0 hr hq1 hq2 hs1 hs2 hP hy
            go_wp2_with (first | (go_at_call 34; (with_reducible refine (Quarter_is _ (HPR.out.below (by (repeat' (first | exact Below.refl _ _ | assumption | refine below_new ?_ _ | refine below_draw ?_ | refine below_tail (by assumption) ?_ | refine below_set ?_ (by first | omega | (simp <;> omega)) _)))) HQ1.out HQ2.out).use ?_); intro a1 cap1 w1 hb1 hz1 hc1 hf1 HO1; have x0 := (hc1 g 0 (by omega)).trans d0; have x1 := (hc1 g 1 (by omega)).trans d1; have p0 := (hf1 g 0 (by omega)).trans e0; have p1 := (hf1 g 1 (by omega)).trans e1; clear hc1 hf1) | (go_at_call 29; (have HA := Lib.hid (own_pairs (ownsRow_setCell_other (a := ⟨g, 1, none⟩) (ownsRow_setCell_other (a := ⟨g, 0, none⟩) HO1.out (own_ne HO1.out hgs) (.int .i64 (-y.2))) (own_ne HO1.out hgs) (.int .i64 y.1)))); (with_reducible refine (Side_is (x := (-y.2, y.1)) _ HA.out HS2.out HS1.out).use ?_); intro w2 hb2 hz2 hc2 hf2; (try simp at hz2)) | (at_builtin; refine wpList_append_any (by rfl) _ _ _ (by rfl) w2.heap.size 32 i0 (.agg #[.int .i64 0, .int .i64 0]) 2 16 Try.underlying22 hi0 hz0 hi1 hi2 (by rfl) (by decide) (.slice (some ⟨w2.heap.size, 0, none⟩) 0 0) 0 [] (by rfl) (World.ownsRow_made (base := w2.heap.size) (e := 32) (size := 2) w2 #[] 0 (Nat.le_refl _) (by decide) (by simp)) _ _ (cells2 L1) (by rfl) (pairs_src (HA.out.below (by (repeat' (first | exact Below.refl _ _ | assumption | refine below_new ?_ _ | refine below_draw ?_ | refine below_tail (by assumption) ?_ | refine below_set ?_ (by first | omega | (simp <;> omega)) _))))) (by unfold maxLen; omega) (by omega) (by simp <;> omega) ?_; intro v5 w5 hown5 hgrow hat))
            have hg5 := turn_box (by omega) x0 x1 p0 p1 hb2 hgrow
            have hbV := below_set (below_set (below_tail hb1 hbw) (show w.heap.size ≤ (⟨g, 0, none⟩ : Addr).block by dsimp only; omega) (.int .i64 (-y.2))) (show w.heap.size ≤ (⟨g, 1, none⟩ : Addr).block by dsimp only; omega) (.int .i64 y.1)
            have hb5 : Below w.heap.size w w5 := below_grow (below_new (below_tail hb2 hbV) _) hgrow (fun k hk => by have := hbw.size; simp [Value.ownBlock] at hk; omega)
            go_roundw
            case rel => exact ⟨k + 1, by omega, by go_num, by rw [HL1.out]; exact own_pairs (by simpa using hown5), hb5, hg5.1, by rw [HX.out]; exact hg5.2.1, by rw [HX.out]; exact hg5.2.2.1, hg5.2.2.2.1, hg5.2.2.2.2⟩
            case measure => simp [intOf]; omega
          · have hg : decide ((k : Int) < 4) = false := decide_eq_false (by omega)
            obtain rfl : k = 4 := by omega
            rw [map_rot4] at hP
            have HF := Lib.hid hP
            clear hP
            go_wp2_with (first | (go_at_call 33; (with_reducible refine (samePts_calls _ _ l _ (HF.out.below (by (repeat' (first | exact Below.refl _ _ | assumption | refine below_new ?_ _ | refine below_draw ?_ | refine below_tail (by assumption) ?_ | refine below_set ?_ (by first | omega | (simp <;> omega)) _)))) (HP.out.below (by (repeat' (first | exact Below.refl _ _ | assumption | refine below_new ?_ _ | refine below_draw ?_ | refine below_tail (by assumption) ?_ | refine below_set ?_ (by first | omega | (simp <;> omega)) _))))).use ?_); intro w8 hb8 hz8 hc8 hf8; clear hz8 hc8 hf8) | (go_at_call 18; refine (known_calls _).use ?_; intro wk hbk hzk hck hfk; clear hck hfk))
            go_ret
            exact ⟨rfl, by (repeat' (first | exact Below.refl _ _ | assumption | refine below_new ?_ _ | refine below_draw ?_ | refine below_tail (by assumption) ?_ | refine below_set ?_ (by first | omega | (simp <;> omega)) _))⟩
      · have z1 : (E == 0) = false := by simpa using hz
        clear hz
        go_wp2_with fail
        go_loopw [7, 9] (fun v7 v9 wr => v9 = .int .i64 0 ∧ PairsAt wr v7 l ∧ Below w.heap.size w wr) (fun _ _ _ => 0)
        case atStart => exact ⟨rfl, hpx, hbx⟩
        case round =>
          obtain ⟨rfl, hP, hbw⟩ := hrel
          have HF := Lib.hid hP
          clear hP
          go_wp2_with (first | (go_at_call 33; (with_reducible refine (samePts_calls _ _ l _ (HF.out.below (by (repeat' (first | exact Below.refl _ _ | assumption | refine below_new ?_ _ | refine below_draw ?_ | refine below_tail (by assumption) ?_ | refine below_set ?_ (by first | omega | (simp <;> omega)) _)))) (HP.out.below (by (repeat' (first | exact Below.refl _ _ | assumption | refine below_new ?_ _ | refine below_draw ?_ | refine below_tail (by assumption) ?_ | refine below_set ?_ (by first | omega | (simp <;> omega)) _))))).use ?_); intro w8 hb8 hz8 hc8 hf8; clear hz8 hc8 hf8) | (go_at_call 18; refine (known_calls _).use ?_; intro wk hbk hzk hck hfk; clear hck hfk))
          go_ret
          exact ⟨rfl, by (repeat' (first | exact Below.refl _ _ | assumption | refine below_new ?_ _ | refine below_draw ?_ | refine below_tail (by assumption) ?_ | refine below_set ?_ (by first | omega | (simp <;> omega)) _))⟩
  · clear hb
    go_enter Try.func7, Try.ntmps7
    go_wp2_with (first | (go_at_call 17; refine (Long_is _ (HP.out.below (by (repeat' (first | exact Below.refl _ _ | assumption | refine below_new ?_ _ | refine below_draw ?_ | refine below_tail (by assumption) ?_ | refine below_set ?_ (by first | omega | (simp <;> omega)) _)))) HLO.out).use ?_; intro wl hbl hzl hcl hfl; (try simp at hzl); have hyl : w.heap.size < wl.heap.size := (by omega); have hxl0 := fun o => hcl w.heap.size o (by first | omega | (simp <;> omega)); clear hcl hfl) | (go_at_call 18; refine (known_calls _).use ?_; intro wk hbk hzk hck hfk; clear hck hfk))
    go_ret
    exact ⟨rfl, by (repeat' (first | exact Below.refl _ _ | assumption | refine below_new ?_ _ | refine below_draw ?_ | refine below_tail (by assumption) ?_ | refine below_set ?_ (by first | omega | (simp <;> omega)) _))⟩
end Go.Proofs.Ythiemglckmociaa
