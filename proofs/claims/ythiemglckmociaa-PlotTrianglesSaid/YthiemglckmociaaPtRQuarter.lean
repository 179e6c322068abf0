/- What Quarter, Mirror and Shift of the document give. Conditions: the list lies in memory as said. -/
import Derived.Test.YthiemglckmociaaPtShift2
import Derived.Test.YthiemglckmociaaKit
import Derived.Deep.RegionHeld3
import Derived.Deep.AppendLies
namespace Go.Proofs.Ythiemglckmociaa
open Go.RowKit
theorem PairsAt.cellB {w wr : World} {a : Option Addr} {n cap : Nat} {l : List (Int × Int)} (h : PairsAt w (.slice a n cap) l) (hb : Below w.heap.size w wr) {m : Nat} (hm : m < l.length) :
    ∃ b o, a = some ⟨b, o, none⟩ ∧ b < w.heap.size ∧ wr.cell? ⟨b, o + m * 2, none⟩ = some (.int .i64 (gi l (0, 0) m).1) ∧ wr.cell? ⟨b, o + m * 2 + 1, none⟩ = some (.int .i64 (gi l (0, 0) m).2) := by
  obtain ⟨b, o, e, hB, h1, h2⟩ := h.cellAt hm
  exact ⟨b, o, e, hB, (hb.cell (p := ⟨b, o + m * 2, none⟩) hB).trans h1, (hb.cell (p := ⟨b, o + m * 2 + 1, none⟩) hB).trans h2⟩
theorem app_srcD (w : World) (a b : Int) (x : Int × Int) (t : TypeId) (ha : a = x.1) (hb : b = x.2) : ∀ j u, (cells2 [x])[j]? = some u → (w.alloc (.cells #[.int .i64 a, .int .i64 b] t)).drew.cell? ((⟨w.heap.size, 0, none⟩ : Addr).add j) = some u := by
  subst ha hb
  exact app_src2 w x t
theorem own_ne {w : World} {base e size n b : Nat} {v : Value} {xs : List Value} (h : w.ownsRow base e size v n xs) (hb : b < base) : v.ownBlock ≠ some b := fun e => by have := own_block_le2 h b e; omega
theorem own_ne' {w : World} {base e size n b : Nat} {v : Value} {xs : List Value} (h : w.ownsRow base e size v n xs) (hb : b < base) : ¬ some b = v.ownBlock := fun e => own_ne h hb e.symm
set_option maxRecDepth 100000 in
set_option maxHeartbeats 2000000 in
theorem rQuarter_calls (v : Value) (l : List (Int × Int)) (w : World) (h : PairsAt w v l) : GivesPts Try.prog 46 #[v] w (if validF l = 0 then l.map rot else []) (validF l) := by
  have HP := Lib.hid h
  obtain ⟨sa, cap, rfl, hlc, hcm, _⟩ := h
  obtain ⟨L, hL⟩ : ∃ L, (if validF l = 0 then l.map rot else []) = L := ⟨_, rfl⟩
  rw [hL]
  have HL := Lib.hid hL.symm
  clear hL
  unfold GivesPts
  obtain ⟨e, he⟩ : ∃ e, validF l = e := ⟨_, rfl⟩
  rw [he]
  have HE := Lib.hid he
  clear he
  by_cases hz : e = 0
  · have HZ := Lib.hid (HE.out.trans hz)
    have HV := Lib.hid (valid_iff.1 HZ.out)
    have hhi := HV.out.hi
    have x0 : (e != 0) = false := by simpa using hz
    have HZ0 := Lib.hid hz
    obtain ⟨i0, hi0, hz0, hi1, hi2⟩ := info_parts infoPoint
    clear hz
    go_enter Try.func46, Try.ntmps46
    go_wp2_with (go_at_call 28; (with_reducible refine (rvalidate_is _ (HP.out.below (by (repeat' (first | exact Below.refl _ _ | assumption | refine below_new ?_ _ | refine below_draw ?_ | refine below_tail (by assumption) ?_ | refine below_set ?_ (by first | omega | (simp <;> omega)) _)))) HE.out).use ?_); intro w1 hb1 hz1 hc1 hf1; clear hc1 hf1)
    go_loopw [5, 6] (fun vv kk wr => ∃ k : Nat, k ≤ l.length ∧ kk = .int .i64 k ∧ wr.ownsRow w.heap.size 32 2 vv (mapK rot l k).length (cells2 (mapK rot l k)) ∧ Below w.heap.size w wr) (fun _ kk _ => l.length - (intOf kk).toNat)
    case atStart => exact ⟨0, Nat.zero_le _, rfl, World.ownsRow_nil _ _ _ _, hb1⟩
    case round =>
      obtain ⟨k, hk, rfl, hown, hbw⟩ := hrel
      by_cases hlt : k < l.length
      · have hg : decide ((k : Int) < (l.length : Int)) = true := by simpa using hlt
        obtain ⟨b, o, rfl, hB, hcell, hdell⟩ := HP.out.cellB hbw hlt
        obtain ⟨⟨y1, y2⟩, y3, y4⟩ := gi_bd HV.out hlt
        have hml := mapK_length (rot) l k
        have hk0 : (0 : Int) ≤ (k : Int) := Int.natCast_nonneg _
        have hk1 : (k : Int) < (l.length : Int) := by omega
        have hob := own_ne hown (show b < w.heap.size by omega)
        have hws := hbw.size
        go_wp2
        go_region_held3 (fun w' => w'.cell? ⟨b, o + k * 2, none⟩ = some (.int .i64 (gi l (0, 0) k).1) ∧ w'.cell? ⟨b, o + k * 2 + 1, none⟩ = some (.int .i64 (gi l (0, 0) k).2))
          (first
            | go_keep
            | (go_split_ands
               refine ⟨?_, ?_⟩
               · (rw [hgrow.cell_far _ (by simp; omega) (Ne.symm hob)]; assumption)
               · (rw [hgrow.cell_far _ (by simp; omega) (Ne.symm hob)]; assumption)))
          ((refine step_append_lies _ (by rfl) _ _ _ (by rfl) w.heap.size 32 i0 _ 2 16 Try.underlying22 hi0 hz0 hi1 hi2 rfl (by decide) _ _ _ (by rfl) ((hown.alloc _).drew)
              ⟨wr.heap.size, 0, none⟩ 1 1 (cells2 [rot (gi l (0, 0) k)]) (by rfl) (by rfl) (app_srcD _ _ _ _ _ (IntWalk.i64_in _ (by omega)) (rfl)) (cells2_one _)
              (by omega) (by unfold maxLen; omega) (by omega) (by simp; omega) (wr.heap.size + 1) (by simp) ?_; intro gg cap' w4 hown4 hgrow hat hlt4))
        have hb4 := ((hbw.alloc hws _).drew).grown hgrow (by simp; omega) (fun b h => by have := own_block_le2 hown b h; omega)
        go_wp2
        rw [hml] at hown4
        go_roundw
        case rel => exact ⟨k + 1, by omega, by go_num, by rw [mapK_succ]; exact own_more2 hown4 (by omega), hb4⟩
        case measure => simp [intOf]; omega
      · have hg : decide ((k : Int) < (l.length : Int)) = false := by simpa using hlt
        obtain rfl : k = l.length := by omega
        go_wp2
        go_ret2
        exact ⟨_, by rw [HZ0.out]; rfl, by rw [HL.out, if_pos HZ.out, ← mapK_all]; exact hown, hbw⟩
  · have h1 : (e == 0) = false := by simpa using hz
    have h2 : (e != 0) = true := by simpa using hz
    have HZ := Lib.hid hz
    clear hz
    go_enter Try.func46, Try.ntmps46
    go_wp2_with (go_at_call 28; (with_reducible refine (rvalidate_is _ (HP.out.below (by (repeat' (first | exact Below.refl _ _ | assumption | refine below_new ?_ _ | refine below_draw ?_ | refine below_tail (by assumption) ?_ | refine below_set ?_ (by first | omega | (simp <;> omega)) _)))) HE.out).use ?_); intro w1 hb1 hz1 hc1 hf1; clear hc1 hf1)
    go_ret2
    exact ⟨_, rfl, by rw [HL.out, if_neg (by rw [HE.out]; exact HZ.out)]; exact World.ownsRow_nil _ _ _ _, by (repeat' (first | exact Below.refl _ _ | assumption | refine below_new ?_ _ | refine below_draw ?_ | refine below_tail (by assumption) ?_ | refine below_set ?_ (by first | omega | (simp <;> omega)) _))⟩
set_option maxRecDepth 100000 in
set_option maxHeartbeats 2000000 in
theorem rMirror_calls (v : Value) (l : List (Int × Int)) (w : World) (h : PairsAt w v l) : GivesPts Try.prog 48 #[v] w (if validF l = 0 then l.map mir else []) (validF l) := by
  have HP := Lib.hid h
  obtain ⟨sa, cap, rfl, hlc, hcm, _⟩ := h
  obtain ⟨L, hL⟩ : ∃ L, (if validF l = 0 then l.map mir else []) = L := ⟨_, rfl⟩
  rw [hL]
  have HL := Lib.hid hL.symm
  clear hL
  unfold GivesPts
  obtain ⟨e, he⟩ : ∃ e, validF l = e := ⟨_, rfl⟩
  rw [he]
  have HE := Lib.hid he
  clear he
  by_cases hz : e = 0
  · have HZ := Lib.hid (HE.out.trans hz)
    have HV := Lib.hid (valid_iff.1 HZ.out)
    have hhi := HV.out.hi
    have x0 : (e != 0) = false := by simpa using hz
    have HZ0 := Lib.hid hz
    obtain ⟨i0, hi0, hz0, hi1, hi2⟩ := info_parts infoPoint
    clear hz
    go_enter Try.func48, Try.ntmps48
    go_wp2_with (go_at_call 28; (with_reducible refine (rvalidate_is _ (HP.out.below (by (repeat' (first | exact Below.refl _ _ | assumption | refine below_new ?_ _ | refine below_draw ?_ | refine below_tail (by assumption) ?_ | refine below_set ?_ (by first | omega | (simp <;> omega)) _)))) HE.out).use ?_); intro w1 hb1 hz1 hc1 hf1; clear hc1 hf1)
    go_loopw [5, 6] (fun vv kk wr => ∃ k : Nat, k ≤ l.length ∧ kk = .int .i64 k ∧ wr.ownsRow w.heap.size 32 2 vv (mapK mir l k).length (cells2 (mapK mir l k)) ∧ Below w.heap.size w wr) (fun _ kk _ => l.length - (intOf kk).toNat)
    case atStart => exact ⟨0, Nat.zero_le _, rfl, World.ownsRow_nil _ _ _ _, hb1⟩
    case round =>
      obtain ⟨k, hk, rfl, hown, hbw⟩ := hrel
      by_cases hlt : k < l.length
      · have hg : decide ((k : Int) < (l.length : Int)) = true := by simpa using hlt
        obtain ⟨b, o, rfl, hB, hcell, hdell⟩ := HP.out.cellB hbw hlt
        obtain ⟨⟨y1, y2⟩, y3, y4⟩ := gi_bd HV.out hlt
        have hml := mapK_length (mir) l k
        have hk0 : (0 : Int) ≤ (k : Int) := Int.natCast_nonneg _
        have hk1 : (k : Int) < (l.length : Int) := by omega
        have hob := own_ne hown (show b < w.heap.size by omega)
        have hws := hbw.size
        go_wp2
        go_region_held3 (fun w' => w'.cell? ⟨b, o + k * 2, none⟩ = some (.int .i64 (gi l (0, 0) k).1) ∧ w'.cell? ⟨b, o + k * 2 + 1, none⟩ = some (.int .i64 (gi l (0, 0) k).2))
          (first
            | go_keep
            | (go_split_ands
               refine ⟨?_, ?_⟩
               · (rw [hgrow.cell_far _ (by simp; omega) (Ne.symm hob)]; assumption)
               · (rw [hgrow.cell_far _ (by simp; omega) (Ne.symm hob)]; assumption)))
          ((refine step_append_lies _ (by rfl) _ _ _ (by rfl) w.heap.size 32 i0 _ 2 16 Try.underlying22 hi0 hz0 hi1 hi2 rfl (by decide) _ _ _ (by rfl) ((hown.alloc _).drew)
              ⟨wr.heap.size, 0, none⟩ 1 1 (cells2 [mir (gi l (0, 0) k)]) (by rfl) (by rfl) (app_srcD _ _ _ _ _ (rfl) (rfl)) (cells2_one _)
              (by omega) (by unfold maxLen; omega) (by omega) (by simp; omega) (wr.heap.size + 1) (by simp) ?_; intro gg cap' w4 hown4 hgrow hat hlt4))
        have hb4 := ((hbw.alloc hws _).drew).grown hgrow (by simp; omega) (fun b h => by have := own_block_le2 hown b h; omega)
        go_wp2
        rw [hml] at hown4
        go_roundw
        case rel => exact ⟨k + 1, by omega, by go_num, by rw [mapK_succ]; exact own_more2 hown4 (by omega), hb4⟩
        case measure => simp [intOf]; omega
      · have hg : decide ((k : Int) < (l.length : Int)) = false := by simpa using hlt
        obtain rfl : k = l.length := by omega
        go_wp2
        go_ret2
        exact ⟨_, by rw [HZ0.out]; rfl, by rw [HL.out, if_pos HZ.out, ← mapK_all]; exact hown, hbw⟩
  · have h1 : (e == 0) = false := by simpa using hz
    have h2 : (e != 0) = true := by simpa using hz
    have HZ := Lib.hid hz
    clear hz
    go_enter Try.func48, Try.ntmps48
    go_wp2_with (go_at_call 28; (with_reducible refine (rvalidate_is _ (HP.out.below (by (repeat' (first | exact Below.refl _ _ | assumption | refine below_new ?_ _ | refine below_draw ?_ | refine below_tail (by assumption) ?_ | refine below_set ?_ (by first | omega | (simp <;> omega)) _)))) HE.out).use ?_); intro w1 hb1 hz1 hc1 hf1; clear hc1 hf1)
    go_ret2
    exact ⟨_, rfl, by rw [HL.out, if_neg (by rw [HE.out]; exact HZ.out)]; exact World.ownsRow_nil _ _ _ _, by (repeat' (first | exact Below.refl _ _ | assumption | refine below_new ?_ _ | refine below_draw ?_ | refine below_tail (by assumption) ?_ | refine below_set ?_ (by first | omega | (simp <;> omega)) _))⟩
end Go.Proofs.Ythiemglckmociaa
