/- What OnBorder of package plot gives: the sides' greatest common divisors. Conditions: the list lies in memory as said. -/
import Derived.Test.YthiemglckmociaaPtSideLaw
namespace Go.Proofs.Ythiemglckmociaa
open Go.RowKit Go.Shelf
attribute [local go_sem] Oper.semAt_some wide_fn

theorem gcd_step (a b : Int) : Int.gcd b (a.tmod b) = Int.gcd a b := by
  show Nat.gcd b.natAbs (a.tmod b).natAbs = Nat.gcd a.natAbs b.natAbs
  rw [Int.natAbs_tmod, Nat.gcd_comm b.natAbs, ← Nat.gcd_rec, Nat.gcd_comm]
theorem tmod_bd {a b : Int} (hb : b ≠ 0) : (a.tmod b).natAbs < b.natAbs := by
  rw [Int.natAbs_tmod]; exact Nat.mod_lt _ (by omega)
set_option maxHeartbeats 1000000 in
theorem gcd_calls (a b : Int) (w : World) (ha : -100000 ≤ a ∧ a ≤ 100000) (hb : -100000 ≤ b ∧ b ≤ 100000) : Gives Try.prog 57 #[.int .i64 a, .int .i64 b] w (.int .i64 (Int.gcd a b)) := by
  obtain ⟨a1, a2⟩ := ha
  obtain ⟨b1, b2⟩ := hb
  obtain ⟨g, hg⟩ : ∃ g, Int.gcd a b = g := ⟨_, rfl⟩
  have HG := Lib.hid hg
  rw [hg]
  clear hg
  unfold Gives
  go_enter Try.func57, Try.ntmps57
  go_wp2
  go_loopw [0, 1] (fun p q wr => ∃ x y : Int, p = .int .i64 x ∧ q = .int .i64 y ∧ Hid (Int.gcd x y = g) ∧ (-100000 ≤ x ∧ x ≤ 100000) ∧ (-100000 ≤ y ∧ y ≤ 100000) ∧ Below w.heap.size w wr) (fun _ q _ => (intOf q).natAbs)
  case atStart => exact ⟨a, b, rfl, rfl, HG.out, ⟨a1, a2⟩, ⟨b1, b2⟩, Below.refl _ _⟩
  case round =>
    obtain ⟨x, y, rfl, rfl, hgx, ⟨x1, x2⟩, ⟨y1, y2⟩, hB⟩ := hrel
    by_cases hy : y = 0
    · subst hy
      have hgn : (Int.gcd x 0 : Int) = max x (-x) := by rw [Int.gcd_zero_right]; omega
      have HGN := Lib.hid hgn
      clear hgn
      rcases Int.lt_or_le 0 x with hp | hp
      · have hm : max x (-x) = x := by omega
        have HM := Lib.hid hm
        clear hm
        go_wp2
        go_ret
        exact ⟨ret_int (by rw [← hgx.out, HGN.out, HM.out]), hB⟩
      · have hm : max x (-x) = -x := by omega
        have HM := Lib.hid hm
        clear hm
        have hx0 : x = 0 ∨ x < 0 := by omega
        go_wp2
        all_goals
          go_ret
          exact ⟨ret_int (by rw [← hgx.out, HGN.out, HM.out] <;> omega), hB⟩
    · have e1 : (y == 0) = false := by simpa using hy
      have e2 : (y != 0) = true := by simpa using hy
      have HS := Lib.hid ((gcd_step x y).trans hgx.out)
      have hm := tmod_bd (a := x) hy
      obtain ⟨m, hme⟩ : ∃ m, x.tmod y = m := ⟨_, rfl⟩
      rw [hme] at hm
      have hy0 : ¬ y = 0 := hy
      go_wp2
      refine region_q mixed (by kernel_rfl) ?_
      repeat (go_big_quiet_step (fail))
      refine wpQuiet_nil ?_
      intro wq hbq
      have HME := Lib.hid hme
      clear hme
      go_wp2
      go_roundw
      case rel => exact ⟨y, m, rfl, by first | rfl | rw [HME.out], by unfold Hid; rw [← HME.out]; exact HS.out, ⟨y1, y2⟩, by omega, below_tail hbq hB⟩
      case measure => simp [intOf]; omega

theorem gcd_is {a b : Int} {g : Int} (w : World) (ha : -100000 ≤ a ∧ a ≤ 100000) (hb : -100000 ≤ b ∧ b ≤ 100000) (h : (Int.gcd a b : Int) = g) : Gives Try.prog 57 #[.int .i64 a, .int .i64 b] w (.int .i64 g) := h ▸ gcd_calls a b w ha hb
/-- How many points a side has, without its end. -/
def gcdS (a b : Int × Int) : Int := Int.gcd (b.1 - a.1) (b.2 - a.2)
theorem gcd_le (a b : Int) : Int.gcd a b ≤ a.natAbs + b.natAbs := by
  show Nat.gcd a.natAbs b.natAbs ≤ _
  by_cases h : a.natAbs = 0
  · rw [h, Nat.gcd_zero_left]; omega
  · have := Nat.gcd_le_left b.natAbs (Nat.pos_of_ne_zero h); omega
theorem gcdS_bd {a b : Int × Int} (ha : bdP a) (hb : bdP b) : 0 ≤ gcdS a b ∧ gcdS a b ≤ 8000 := by
  have := gcd_le (b.1 - a.1) (b.2 - a.2)
  unfold bdP at ha hb
  unfold gcdS; omega
def bordK (l : List (Int × Int)) (k : Nat) : Int := sumN (fun i => gcdS (cor l i) (cor l (i + 1))) k
theorem bordK_succ (l : List (Int × Int)) (k : Nat) : bordK l (k + 1) = bordK l k + gcdS (cor l k) (cor l (k + 1)) := rfl
theorem bordK_bd {l : List (Int × Int)} (h : ∀ i, bdP (cor l i)) : ∀ k : Nat, 0 ≤ bordK l k ∧ bordK l k ≤ 8000 * k
  | 0 => by simp [bordK, sumN]
  | k + 1 => by
    have := bordK_bd h k
    have := gcdS_bd (h k) (h (k + 1))
    rw [bordK_succ]; omega
def bordF (l : List (Int × Int)) : Int := if validF l = 0 then bordK l l.length else 0

def BordI (pa pb : Int × Int) (bk gv : Int) (M g7 _k : Nat) (sv : Value) (w y : World) (v0 v1 v2 v3 v4 v5 v6 v7 v8 v9 v10 v11 v12 v13 v14 v15 v16 v34 : Value) (d : Nat → Bool) (a : Act) (x : World) : Prop :=
  ∃ u17 u18 u19 u20 u21 u22 u23 u24 u25 u26 u27 u28 u29 u30 u31 u32 u33 : Value, a = ⟨#[v0, v1, v2, v3, v4, v5, v6, v7, v8, v9, v10, v11, v12, v13, v14, v15, v16, u17, u18, u19, u20, u21, u22, u23, u24, u25, u26, u27, u28, u29, u30, u31, u32, u33, v34], []⟩ ∧
    (Below w.heap.size w x) ∧
    (y.heap.size ≤ x.heap.size) ∧
    (KeepsOthers y x) ∧
    (x.cell? ⟨g7, 0, none⟩ = some (.int .i64 pa.1)) ∧
    (x.cell? ⟨g7, 1, none⟩ = some (.int .i64 pa.2)) ∧
    (x.cell? ⟨g7, 2, none⟩ = some (.int .i64 pb.1)) ∧
    (x.cell? ⟨g7, 3, none⟩ = some (.int .i64 pb.2)) ∧
    (x.cell? ⟨M + 1, 0, none⟩ = some (sv)) ∧
    (x.frozen? ⟨M, 0, none⟩ = false) ∧
    (d 17 = false → x.cell? ⟨M, 0, none⟩ = some (.int .i64 bk)) ∧
    (d 17 = true → x.cell? ⟨M, 0, none⟩ = some (.int .i64 (bk + gv))) ∧
    (d 17 = true → d 0 = true) ∧
    (d 0 = true → u17 = .int .i64 bk) ∧
    (d 1 = true → u18 = .pointer (some ⟨g7, 2, none⟩)) ∧
    (d 2 = true → u19 = .pointer (some ⟨g7, 2, none⟩)) ∧
    (d 3 = true → u20 = .int .i64 pb.1) ∧
    (d 4 = true → u21 = .pointer (some ⟨g7, 0, none⟩)) ∧
    (d 5 = true → u22 = .pointer (some ⟨g7, 0, none⟩)) ∧
    (d 6 = true → u23 = .int .i64 pa.1) ∧
    (d 7 = true → u24 = .int .i64 (pb.1 - pa.1)) ∧
    (d 8 = true → u25 = .pointer (some ⟨g7, 2, none⟩)) ∧
    (d 9 = true → u26 = .pointer (some ⟨g7, 3, none⟩)) ∧
    (d 10 = true → u27 = .int .i64 pb.2) ∧
    (d 11 = true → u28 = .pointer (some ⟨g7, 0, none⟩)) ∧
    (d 12 = true → u29 = .pointer (some ⟨g7, 1, none⟩)) ∧
    (d 13 = true → u30 = .int .i64 pa.2) ∧
    (d 14 = true → u31 = .int .i64 (pb.2 - pa.2)) ∧
    (d 15 = true → u32 = .int .i64 gv) ∧
    (d 16 = true → u33 = .int .i64 (bk + gv))

set_option maxHeartbeats 4000000 in
set_option maxRecDepth 100000 in
theorem OnBorder_calls (v : Value) (l : List (Int × Int)) (w : World) (h : PairsAt w v l) :
    Gives Try.prog 19 #[v] w (.tuple #[.int .i64 (bordF l), .int .i64 (validF l)]) := by
  have HP := Lib.hid h
  obtain ⟨sa, cap, rfl, hlc, hcm, _⟩ := h
  have HR : Hid (bordF l = if validF l = 0 then bordK l l.length else 0) := rfl
  unfold Gives
  obtain ⟨e, he⟩ : ∃ e, validF l = e := ⟨_, rfl⟩
  have HE := Lib.hid he
  clear he
  by_cases hz : e = 0
  · have HZ := Lib.hid (HE.out.trans hz)
    have hv := valid_iff.1 HZ.out
    have hlo := hv.lo
    have hhi := hv.hi
    have HBD := Lib.hid hv.bd
    have hbf : bordF l = bordK l l.length := by rw [HR.out, if_pos HZ.out]
    have HBF := Lib.hid hbf
    subst hz
    clear hv hbf
    refine (callsIn_wide (n := 9)).1 ?_
    refine callsIn_of_wp_marks Try.func19 rfl trivial ?_ rfl
    simp only [Try.ntmps19, List.size_toArray, List.length_cons, List.length_nil, Nat.reduceAdd, Nat.reduceSub, Array.replicate_succ, Array.replicate_zero, List.push_toArray, List.append_toArray, List.nil_append, List.cons_append]
    gi_wp2_with (first | (gi_at_call 27; refine (callsIn_wide.2 ((validate_is _ HP.out HE.out).use ?_)); intro w1 hb1 hz1 hc1 hf1; clear hc1 hf1) | (gi_at_call 56; refine (callsIn_wide.2 (sides_calls _ _ _ _)).mono ?_; rintro e w' ⟨rfl, rfl⟩))
    obtain ⟨M, hM⟩ : ∃ M, w1.heap.size = M := ⟨_, rfl⟩
    obtain ⟨W0, hW0⟩ : ∃ W0, ((w1.alloc (.cells #[.int .i64 0] 3)).alloc (.cells #[.slice sa l.length cap] 22)) = W0 := ⟨_, rfl⟩
    rw [hW0]
    have hB0 : Below w.heap.size w W0 := by rw [← hW0]; (repeat' (first | exact Below.refl _ _ | assumption | refine below_new ?_ _ | refine below_draw ?_ | refine below_tail (by assumption) ?_ | refine below_set ?_ (by first | omega | (simp <;> omega)) _))
    have hsz0 : W0.heap.size = M + 2 := by rw [← hW0]; simp [go_sem, hM]
    have e3 : W0.cell? ⟨M, 0, none⟩ = some (.int .i64 0) := by rw [← hW0, ← hM]; simp [go_sem]
    have e4 : W0.frozen? ⟨M, 0, none⟩ = false := by rw [← hW0, ← hM]; simp [go_sem]
    have e5 : W0.cell? ⟨M + 1, 0, none⟩ = some (.slice sa l.length cap) := by rw [← hW0, ← hM]; simp [go_sem]
    rw [hM] at hz1
    rw [hM]
    clear hW0 hb1
    refine wide_rangeBox (gf := 103) (lb := #[.pointer (some ⟨M + 1, 0, none⟩)]) rfl (enters_of Try.func103 (by kernel_rfl) rfl) (sides_iter (M + 1) _ l (by omega) (by omega)) (fun _ => rfl)
      (fun k W => Below w.heap.size w W ∧ k ≤ l.length ∧ W.cell? ⟨M + 1, 0, none⟩ = some (.slice sa l.length cap) ∧ W.cell? ⟨M, 0, none⟩ = some (.int .i64 (bordK l k)) ∧ W.frozen? ⟨M, 0, none⟩ = false)
      (fun cd k W => False)
      (fun k W ⟨hB, hk, f0, f1, z0⟩ => ⟨f0, HP.out.below hB⟩)
      (fun k W W' ⟨hB, hk, f0, f1, z0⟩ hb => ⟨hB.trans (hb.mono (by omega)), hk, (hb.cell (p := ⟨M + 1, 0, none⟩) (by dsimp only; omega)).trans f0, (hb.cell (p := ⟨M, 0, none⟩) (by dsimp only; omega)).trans f1, (hb.frozen (p := ⟨M, 0, none⟩) (by dsimp only; omega)).trans z0⟩)
      (fun cd k W W' h hb => h)
      (fun e => by cases e)
      ?start
      (fun k a' W => ∃ (y0 : Value) (y1 : Value) (y2 : Value) (y3 : Value) (y4 : Value) (y8 : Value) (y9 : Value) (y10 : Value) (y11 : Value) (y12 : Value) (y13 : Value) (y14 : Value) (g7 : Nat), a' = { tmps := #[y0, y1, y2, y3, y4, .pointer (some ⟨M, 0, none⟩), undef, .pointer (some ⟨g7, 0, none⟩), y8, y9, y10, y11, y12, y13, y14, .int .i64 k, .agg #[.int .i64 (cor l k).1, .int .i64 (cor l k).2, .int .i64 (cor l (k + 1)).1, .int .i64 (cor l (k + 1)).2], undef, undef, undef, undef, undef, undef, undef, undef, undef, undef, undef, undef, undef, undef, undef, undef, undef, undef], defers := [] } ∧ W.cell? ⟨g7, 0, none⟩ = some (.int .i64 (cor l k).1) ∧ W.cell? ⟨g7, 1, none⟩ = some (.int .i64 (cor l k).2) ∧ W.cell? ⟨g7, 2, none⟩ = some (.int .i64 (cor l (k + 1)).1) ∧ W.cell? ⟨g7, 3, none⟩ = some (.int .i64 (cor l (k + 1)).2) ∧ W0.heap.size ≤ g7 ∧ g7 < W.heap.size)
      (fun k a' W l o hl hr ⟨y0, y1, y2, y3, y4, y8, y9, y10, y11, y12, y13, y14, g7, ha, c0, c1, c2, c3, lo7, hi7⟩ => ⟨y0, y1, y2, y3, y4, y8, y9, y10, y11, y12, y13, y14, g7, ha, cell_putObj_loop hr c0, cell_putObj_loop hr c1, cell_putObj_loop hr c2, cell_putObj_loop hr c3, lo7, by simpa [World.putObj] using hi7⟩) ?assign ?body ?done ?stop
    case assign =>
      rintro l' k W K hsW ⟨hB, hk, f0, f1, z0⟩ hm hK
      have hkl := hm _ rfl
      gi_wp2
      have hb3 := below_new (Below.refl W.heap.size W) (.cells #[.int .i64 (cor l k).1, .int .i64 (cor l k).2, .int .i64 (cor l (k + 1)).1, .int .i64 (cor l (k + 1)).2] 56)
      exact hK _ _ (keeps_of_below hb3) ⟨hB.trans (hb3.mono (by omega)), hk, (hb3.cell (p := ⟨M + 1, 0, none⟩) (by dsimp only; omega)).trans f0, (hb3.cell (p := ⟨M, 0, none⟩) (by dsimp only; omega)).trans f1, (hb3.frozen (p := ⟨M, 0, none⟩) (by dsimp only; omega)).trans z0⟩
        ⟨_, _, _, _, _, _, _, _, _, _, _, _, _, rfl, by simp [go_sem], by simp [go_sem], by simp [go_sem], by simp [go_sem], by first | omega | (simp <;> omega), by first | omega | (simp <;> omega)⟩
    case body =>
      rintro l' k a' W hl hr hsW ⟨hB, hk, f0, f1, z0⟩ ⟨y0, y1, y2, y3, y4, y8, y9, y10, y11, y12, y13, y14, g7, rfl, c0, c1, c2, c3, lo7, hi7⟩ hm
      have hkl := hm _ rfl
      clear hm
      have HA := HBD.out k
      have HB := HBD.out (k + 1)
      have hbk := bordK_bd HBD.out k
      have HS := Lib.hid (bordK_succ l k)
      generalize hpa : cor l k = pa at *
      generalize hpb : cor l (k + 1) = pb at *
      have hgb := gcdS_bd HA HB
      obtain ⟨⟨a1, a2⟩, a3, a4⟩ := id HA
      obtain ⟨⟨d1, d2⟩, d3, d4⟩ := id HB
      obtain ⟨bk, hbke⟩ : ∃ b, bordK l k = b := ⟨_, rfl⟩
      rw [hbke] at f1 hbk
      obtain ⟨gv, hgve⟩ : ∃ b, gcdS pa pb = b := ⟨_, rfl⟩
      rw [hgve] at hgb
      have HBK := Lib.hid hbke
      have HGV : Hid ((Int.gcd (pb.1 - pa.1) (pb.2 - pa.2) : Int) = gv) := hgve
      have HGE := Lib.hid hgve
      clear hpa hpb hbke hgve
      gi_wp2
      refine wpR_region_inv mixed (by kernel_rfl) (by kernel_rfl) (BordI pa pb bk gv M g7 k (.slice sa l.length cap) w W (y0) (y1) (y2) (y3) (y4) (.pointer (some ⟨M, 0, none⟩)) undef (.pointer (some ⟨g7, 0, none⟩)) (y8) (y9) (y10) (y11) (y12) (y13) (y14) (.int .i64 k) (.agg #[.int .i64 pa.1, .int .i64 pa.2, .int .i64 pb.1, .int .i64 pb.2]) undef) ?h0 ?hstep ?hend
      case h0 =>
        unfold BordI
        exact ⟨_, _, _, _, _, _, _, _, _, _, _, _, _, _, _, _, _, rfl, below_draw hB, Nat.le_refl _, KeepsOthers.drew _, c0, c1, c2, c3, f0, z0, fun _ => f1, fun h => no_false h.symm, fun h => no_false h.symm, fun h => no_false h.symm, fun h => no_false h.symm, fun h => no_false h.symm, fun h => no_false h.symm, fun h => no_false h.symm, fun h => no_false h.symm, fun h => no_false h.symm, fun h => no_false h.symm, fun h => no_false h.symm, fun h => no_false h.symm, fun h => no_false h.symm, fun h => no_false h.symm, fun h => no_false h.symm, fun h => no_false h.symm, fun h => no_false h.symm, fun h => no_false h.symm, fun h => no_false h.symm⟩
      case hstep =>
        intro d a x hI i hi hdi hed
        unfold BordI at hI
        obtain ⟨u17, u18, u19, u20, u21, u22, u23, u24, u25, u26, u27, u28, u29, u30, u31, u32, u33, rfl, fb, fh, fko, fk0, fk1, fk2, fk3, fk4, fz, fp0, fp1, fcl0, f0, f1, f2, f3, f4, f5, f6, f7, f8, f9, f10, f11, f12, f13, f14, f15, f16⟩ := hI
        have hi' : i < 18 := hi
        clear hi
        rcases (show i = 0 ∨ i = 1 ∨ i = 2 ∨ i = 3 ∨ i = 4 ∨ i = 5 ∨ i = 6 ∨ i = 7 ∨ i = 8 ∨ i = 9 ∨ i = 10 ∨ i = 11 ∨ i = 12 ∨ i = 13 ∨ i = 14 ∨ i = 15 ∨ i = 16 ∨ i = 17 by omega) with rfl | rfl | rfl | rfl | rfl | rfl | rfl | rfl | rfl | rfl | rfl | rfl | rfl | rfl | rfl | rfl | rfl | rfl
        · skip
          clear hed
          have fp0x := fp0
          replace fp0x := fp0x (Bool.eq_false_iff.2 (fun h => not_both (fcl0 h) hdi))
          refine wpOp_step rfl (fun K hK => ?_)
          go_simp
          (try (refine hK _ _ ?_; clear hK K))
          unfold BordI
          refine ⟨_, _, _, _, _, _, _, _, _, _, _, _, _, _, _, _, _, rfl, ?_⟩
          exact ⟨fb,
            fh,
            fko,
            fk0,
            fk1,
            fk2,
            fk3,
            fk4,
            fz,
            fp0,
            fp1,
            fun _ => rfl,
            (by first | exact fun _ => rfl | exact f0),
            (by first | exact f1 | exact fun _ => rfl),
            (by first | exact f2 | exact fun _ => rfl),
            (by first | exact f3 | exact fun _ => rfl),
            (by first | exact f4 | exact fun _ => rfl),
            (by first | exact f5 | exact fun _ => rfl),
            (by first | exact f6 | exact fun _ => rfl),
            (by first | exact f7 | exact fun _ => rfl),
            (by first | exact f8 | exact fun _ => rfl),
            (by first | exact f9 | exact fun _ => rfl),
            (by first | exact f10 | exact fun _ => rfl),
            (by first | exact f11 | exact fun _ => rfl),
            (by first | exact f12 | exact fun _ => rfl),
            (by first | exact f13 | exact fun _ => rfl),
            (by first | exact f14 | exact fun _ => rfl),
            (by first | exact f15 | exact fun _ => rfl),
            (by first | exact f16 | exact fun _ => rfl)⟩
        · skip
          clear hed
          have fp0x := fp0
          clear fp0x
          refine wpOp_step rfl (fun K hK => ?_)
          go_simp
          (try (refine hK _ _ ?_; clear hK K))
          unfold BordI
          refine ⟨_, _, _, _, _, _, _, _, _, _, _, _, _, _, _, _, _, rfl, ?_⟩
          exact ⟨fb,
            fh,
            fko,
            fk0,
            fk1,
            fk2,
            fk3,
            fk4,
            fz,
            fp0,
            fp1,
            fcl0,
            (by first | exact f0 | exact fun _ => rfl),
            (by first | exact fun _ => rfl | exact f1),
            (by first | exact f2 | exact fun _ => rfl),
            (by first | exact f3 | exact fun _ => rfl),
            (by first | exact f4 | exact fun _ => rfl),
            (by first | exact f5 | exact fun _ => rfl),
            (by first | exact f6 | exact fun _ => rfl),
            (by first | exact f7 | exact fun _ => rfl),
            (by first | exact f8 | exact fun _ => rfl),
            (by first | exact f9 | exact fun _ => rfl),
            (by first | exact f10 | exact fun _ => rfl),
            (by first | exact f11 | exact fun _ => rfl),
            (by first | exact f12 | exact fun _ => rfl),
            (by first | exact f13 | exact fun _ => rfl),
            (by first | exact f14 | exact fun _ => rfl),
            (by first | exact f15 | exact fun _ => rfl),
            (by first | exact f16 | exact fun _ => rfl)⟩
        · skip
          have e1 : d 1 = true := done_of hed (by kernel_rfl)
          clear hed
          have g1 := f1 e1
          subst g1
          have fp0x := fp0
          clear fp0x
          refine wpOp_step rfl (fun K hK => ?_)
          go_simp
          (try (refine hK _ _ ?_; clear hK K))
          unfold BordI
          refine ⟨_, _, _, _, _, _, _, _, _, _, _, _, _, _, _, _, _, rfl, ?_⟩
          exact ⟨fb,
            fh,
            fko,
            fk0,
            fk1,
            fk2,
            fk3,
            fk4,
            fz,
            fp0,
            fp1,
            fcl0,
            (by first | exact f0 | exact fun _ => rfl),
            (by first | exact fun _ => rfl | exact f1),
            (by first | exact fun _ => rfl | exact f2),
            (by first | exact f3 | exact fun _ => rfl),
            (by first | exact f4 | exact fun _ => rfl),
            (by first | exact f5 | exact fun _ => rfl),
            (by first | exact f6 | exact fun _ => rfl),
            (by first | exact f7 | exact fun _ => rfl),
            (by first | exact f8 | exact fun _ => rfl),
            (by first | exact f9 | exact fun _ => rfl),
            (by first | exact f10 | exact fun _ => rfl),
            (by first | exact f11 | exact fun _ => rfl),
            (by first | exact f12 | exact fun _ => rfl),
            (by first | exact f13 | exact fun _ => rfl),
            (by first | exact f14 | exact fun _ => rfl),
            (by first | exact f15 | exact fun _ => rfl),
            (by first | exact f16 | exact fun _ => rfl)⟩
        · skip
          have e2 : d 2 = true := done_of hed (by kernel_rfl)
          clear hed
          have g2 := f2 e2
          subst g2
          have fp0x := fp0
          clear fp0x
          refine wpOp_step rfl (fun K hK => ?_)
          go_simp
          (try (refine hK _ _ ?_; clear hK K))
          unfold BordI
          refine ⟨_, _, _, _, _, _, _, _, _, _, _, _, _, _, _, _, _, rfl, ?_⟩
          exact ⟨fb,
            fh,
            fko,
            fk0,
            fk1,
            fk2,
            fk3,
            fk4,
            fz,
            fp0,
            fp1,
            fcl0,
            (by first | exact f0 | exact fun _ => rfl),
            (by first | exact f1 | exact fun _ => rfl),
            (by first | exact fun _ => rfl | exact f2),
            (by first | exact fun _ => rfl | exact f3),
            (by first | exact f4 | exact fun _ => rfl),
            (by first | exact f5 | exact fun _ => rfl),
            (by first | exact f6 | exact fun _ => rfl),
            (by first | exact f7 | exact fun _ => rfl),
            (by first | exact f8 | exact fun _ => rfl),
            (by first | exact f9 | exact fun _ => rfl),
            (by first | exact f10 | exact fun _ => rfl),
            (by first | exact f11 | exact fun _ => rfl),
            (by first | exact f12 | exact fun _ => rfl),
            (by first | exact f13 | exact fun _ => rfl),
            (by first | exact f14 | exact fun _ => rfl),
            (by first | exact f15 | exact fun _ => rfl),
            (by first | exact f16 | exact fun _ => rfl)⟩
        · skip
          clear hed
          have fp0x := fp0
          clear fp0x
          refine wpOp_step rfl (fun K hK => ?_)
          go_simp
          (try (refine hK _ _ ?_; clear hK K))
          unfold BordI
          refine ⟨_, _, _, _, _, _, _, _, _, _, _, _, _, _, _, _, _, rfl, ?_⟩
          exact ⟨fb,
            fh,
            fko,
            fk0,
            fk1,
            fk2,
            fk3,
            fk4,
            fz,
            fp0,
            fp1,
            fcl0,
            (by first | exact f0 | exact fun _ => rfl),
            (by first | exact f1 | exact fun _ => rfl),
            (by first | exact f2 | exact fun _ => rfl),
            (by first | exact f3 | exact fun _ => rfl),
            (by first | exact fun _ => rfl | exact f4),
            (by first | exact f5 | exact fun _ => rfl),
            (by first | exact f6 | exact fun _ => rfl),
            (by first | exact f7 | exact fun _ => rfl),
            (by first | exact f8 | exact fun _ => rfl),
            (by first | exact f9 | exact fun _ => rfl),
            (by first | exact f10 | exact fun _ => rfl),
            (by first | exact f11 | exact fun _ => rfl),
            (by first | exact f12 | exact fun _ => rfl),
            (by first | exact f13 | exact fun _ => rfl),
            (by first | exact f14 | exact fun _ => rfl),
            (by first | exact f15 | exact fun _ => rfl),
            (by first | exact f16 | exact fun _ => rfl)⟩
        · skip
          have e4 : d 4 = true := done_of hed (by kernel_rfl)
          clear hed
          have g4 := f4 e4
          subst g4
          have fp0x := fp0
          clear fp0x
          refine wpOp_step rfl (fun K hK => ?_)
          go_simp
          (try (refine hK _ _ ?_; clear hK K))
          unfold BordI
          refine ⟨_, _, _, _, _, _, _, _, _, _, _, _, _, _, _, _, _, rfl, ?_⟩
          exact ⟨fb,
            fh,
            fko,
            fk0,
            fk1,
            fk2,
            fk3,
            fk4,
            fz,
            fp0,
            fp1,
            fcl0,
            (by first | exact f0 | exact fun _ => rfl),
            (by first | exact f1 | exact fun _ => rfl),
            (by first | exact f2 | exact fun _ => rfl),
            (by first | exact f3 | exact fun _ => rfl),
            (by first | exact fun _ => rfl | exact f4),
            (by first | exact fun _ => rfl | exact f5),
            (by first | exact f6 | exact fun _ => rfl),
            (by first | exact f7 | exact fun _ => rfl),
            (by first | exact f8 | exact fun _ => rfl),
            (by first | exact f9 | exact fun _ => rfl),
            (by first | exact f10 | exact fun _ => rfl),
            (by first | exact f11 | exact fun _ => rfl),
            (by first | exact f12 | exact fun _ => rfl),
            (by first | exact f13 | exact fun _ => rfl),
            (by first | exact f14 | exact fun _ => rfl),
            (by first | exact f15 | exact fun _ => rfl),
            (by first | exact f16 | exact fun _ => rfl)⟩
        · skip
          have e5 : d 5 = true := done_of hed (by kernel_rfl)
          clear hed
          have g5 := f5 e5
          subst g5
          have fp0x := fp0
          clear fp0x
          refine wpOp_step rfl (fun K hK => ?_)
          go_simp
          (try (refine hK _ _ ?_; clear hK K))
          unfold BordI
          refine ⟨_, _, _, _, _, _, _, _, _, _, _, _, _, _, _, _, _, rfl, ?_⟩
          exact ⟨fb,
            fh,
            fko,
            fk0,
            fk1,
            fk2,
            fk3,
            fk4,
            fz,
            fp0,
            fp1,
            fcl0,
            (by first | exact f0 | exact fun _ => rfl),
            (by first | exact f1 | exact fun _ => rfl),
            (by first | exact f2 | exact fun _ => rfl),
            (by first | exact f3 | exact fun _ => rfl),
            (by first | exact f4 | exact fun _ => rfl),
            (by first | exact fun _ => rfl | exact f5),
            (by first | exact fun _ => rfl | exact f6),
            (by first | exact f7 | exact fun _ => rfl),
            (by first | exact f8 | exact fun _ => rfl),
            (by first | exact f9 | exact fun _ => rfl),
            (by first | exact f10 | exact fun _ => rfl),
            (by first | exact f11 | exact fun _ => rfl),
            (by first | exact f12 | exact fun _ => rfl),
            (by first | exact f13 | exact fun _ => rfl),
            (by first | exact f14 | exact fun _ => rfl),
            (by first | exact f15 | exact fun _ => rfl),
            (by first | exact f16 | exact fun _ => rfl)⟩
        · skip
          have e3 : d 3 = true := done_of hed (by kernel_rfl)
          have e6 : d 6 = true := done_of hed (by kernel_rfl)
          clear hed
          have g3 := f3 e3
          subst g3
          have g6 := f6 e6
          subst g6
          have fp0x := fp0
          clear fp0x
          have hw : IntKind.i64.wrap (pb.1 - pa.1) = pb.1 - pa.1 := IntWalk.i64_in _ (by omega)
          refine wpOp_step rfl (fun K hK => ?_)
          go_simp
          (try (refine hK _ _ ?_; clear hK K))
          unfold BordI
          refine ⟨_, _, _, _, _, _, _, _, _, _, _, _, _, _, _, _, _, rfl, ?_⟩
          exact ⟨fb,
            fh,
            fko,
            fk0,
            fk1,
            fk2,
            fk3,
            fk4,
            fz,
            fp0,
            fp1,
            fcl0,
            (by first | exact f0 | exact fun _ => rfl),
            (by first | exact f1 | exact fun _ => rfl),
            (by first | exact f2 | exact fun _ => rfl),
            (by first | exact fun _ => rfl | exact f3),
            (by first | exact f4 | exact fun _ => rfl),
            (by first | exact f5 | exact fun _ => rfl),
            (by first | exact fun _ => rfl | exact f6),
            (by first | exact fun _ => rfl | exact f7),
            (by first | exact f8 | exact fun _ => rfl),
            (by first | exact f9 | exact fun _ => rfl),
            (by first | exact f10 | exact fun _ => rfl),
            (by first | exact f11 | exact fun _ => rfl),
            (by first | exact f12 | exact fun _ => rfl),
            (by first | exact f13 | exact fun _ => rfl),
            (by first | exact f14 | exact fun _ => rfl),
            (by first | exact f15 | exact fun _ => rfl),
            (by first | exact f16 | exact fun _ => rfl)⟩
        · skip
          clear hed
          have fp0x := fp0
          clear fp0x
          refine wpOp_step rfl (fun K hK => ?_)
          go_simp
          (try (refine hK _ _ ?_; clear hK K))
          unfold BordI
          refine ⟨_, _, _, _, _, _, _, _, _, _, _, _, _, _, _, _, _, rfl, ?_⟩
          exact ⟨fb,
            fh,
            fko,
            fk0,
            fk1,
            fk2,
            fk3,
            fk4,
            fz,
            fp0,
            fp1,
            fcl0,
            (by first | exact f0 | exact fun _ => rfl),
            (by first | exact f1 | exact fun _ => rfl),
            (by first | exact f2 | exact fun _ => rfl),
            (by first | exact f3 | exact fun _ => rfl),
            (by first | exact f4 | exact fun _ => rfl),
            (by first | exact f5 | exact fun _ => rfl),
            (by first | exact f6 | exact fun _ => rfl),
            (by first | exact f7 | exact fun _ => rfl),
            (by first | exact fun _ => rfl | exact f8),
            (by first | exact f9 | exact fun _ => rfl),
            (by first | exact f10 | exact fun _ => rfl),
            (by first | exact f11 | exact fun _ => rfl),
            (by first | exact f12 | exact fun _ => rfl),
            (by first | exact f13 | exact fun _ => rfl),
            (by first | exact f14 | exact fun _ => rfl),
            (by first | exact f15 | exact fun _ => rfl),
            (by first | exact f16 | exact fun _ => rfl)⟩
        · skip
          have e8 : d 8 = true := done_of hed (by kernel_rfl)
          clear hed
          have g8 := f8 e8
          subst g8
          have fp0x := fp0
          clear fp0x
          refine wpOp_step rfl (fun K hK => ?_)
          go_simp
          (try (refine hK _ _ ?_; clear hK K))
          unfold BordI
          refine ⟨_, _, _, _, _, _, _, _, _, _, _, _, _, _, _, _, _, rfl, ?_⟩
          exact ⟨fb,
            fh,
            fko,
            fk0,
            fk1,
            fk2,
            fk3,
            fk4,
            fz,
            fp0,
            fp1,
            fcl0,
            (by first | exact f0 | exact fun _ => rfl),
            (by first | exact f1 | exact fun _ => rfl),
            (by first | exact f2 | exact fun _ => rfl),
            (by first | exact f3 | exact fun _ => rfl),
            (by first | exact f4 | exact fun _ => rfl),
            (by first | exact f5 | exact fun _ => rfl),
            (by first | exact f6 | exact fun _ => rfl),
            (by first | exact f7 | exact fun _ => rfl),
            (by first | exact fun _ => rfl | exact f8),
            (by first | exact fun _ => rfl | exact f9),
            (by first | exact f10 | exact fun _ => rfl),
            (by first | exact f11 | exact fun _ => rfl),
            (by first | exact f12 | exact fun _ => rfl),
            (by first | exact f13 | exact fun _ => rfl),
            (by first | exact f14 | exact fun _ => rfl),
            (by first | exact f15 | exact fun _ => rfl),
            (by first | exact f16 | exact fun _ => rfl)⟩
        · skip
          have e9 : d 9 = true := done_of hed (by kernel_rfl)
          clear hed
          have g9 := f9 e9
          subst g9
          have fp0x := fp0
          clear fp0x
          refine wpOp_step rfl (fun K hK => ?_)
          go_simp
          (try (refine hK _ _ ?_; clear hK K))
          unfold BordI
          refine ⟨_, _, _, _, _, _, _, _, _, _, _, _, _, _, _, _, _, rfl, ?_⟩
          exact ⟨fb,
            fh,
            fko,
            fk0,
            fk1,
            fk2,
            fk3,
            fk4,
            fz,
            fp0,
            fp1,
            fcl0,
            (by first | exact f0 | exact fun _ => rfl),
            (by first | exact f1 | exact fun _ => rfl),
            (by first | exact f2 | exact fun _ => rfl),
            (by first | exact f3 | exact fun _ => rfl),
            (by first | exact f4 | exact fun _ => rfl),
            (by first | exact f5 | exact fun _ => rfl),
            (by first | exact f6 | exact fun _ => rfl),
            (by first | exact f7 | exact fun _ => rfl),
            (by first | exact f8 | exact fun _ => rfl),
            (by first | exact fun _ => rfl | exact f9),
            (by first | exact fun _ => rfl | exact f10),
            (by first | exact f11 | exact fun _ => rfl),
            (by first | exact f12 | exact fun _ => rfl),
            (by first | exact f13 | exact fun _ => rfl),
            (by first | exact f14 | exact fun _ => rfl),
            (by first | exact f15 | exact fun _ => rfl),
            (by first | exact f16 | exact fun _ => rfl)⟩
        · skip
          clear hed
          have fp0x := fp0
          clear fp0x
          refine wpOp_step rfl (fun K hK => ?_)
          go_simp
          (try (refine hK _ _ ?_; clear hK K))
          unfold BordI
          refine ⟨_, _, _, _, _, _, _, _, _, _, _, _, _, _, _, _, _, rfl, ?_⟩
          exact ⟨fb,
            fh,
            fko,
            fk0,
            fk1,
            fk2,
            fk3,
            fk4,
            fz,
            fp0,
            fp1,
            fcl0,
            (by first | exact f0 | exact fun _ => rfl),
            (by first | exact f1 | exact fun _ => rfl),
            (by first | exact f2 | exact fun _ => rfl),
            (by first | exact f3 | exact fun _ => rfl),
            (by first | exact f4 | exact fun _ => rfl),
            (by first | exact f5 | exact fun _ => rfl),
            (by first | exact f6 | exact fun _ => rfl),
            (by first | exact f7 | exact fun _ => rfl),
            (by first | exact f8 | exact fun _ => rfl),
            (by first | exact f9 | exact fun _ => rfl),
            (by first | exact f10 | exact fun _ => rfl),
            (by first | exact fun _ => rfl | exact f11),
            (by first | exact f12 | exact fun _ => rfl),
            (by first | exact f13 | exact fun _ => rfl),
            (by first | exact f14 | exact fun _ => rfl),
            (by first | exact f15 | exact fun _ => rfl),
            (by first | exact f16 | exact fun _ => rfl)⟩
        · skip
          have e11 : d 11 = true := done_of hed (by kernel_rfl)
          clear hed
          have g11 := f11 e11
          subst g11
          have fp0x := fp0
          clear fp0x
          refine wpOp_step rfl (fun K hK => ?_)
          go_simp
          (try (refine hK _ _ ?_; clear hK K))
          unfold BordI
          refine ⟨_, _, _, _, _, _, _, _, _, _, _, _, _, _, _, _, _, rfl, ?_⟩
          exact ⟨fb,
            fh,
            fko,
            fk0,
            fk1,
            fk2,
            fk3,
            fk4,
            fz,
            fp0,
            fp1,
            fcl0,
            (by first | exact f0 | exact fun _ => rfl),
            (by first | exact f1 | exact fun _ => rfl),
            (by first | exact f2 | exact fun _ => rfl),
            (by first | exact f3 | exact fun _ => rfl),
            (by first | exact f4 | exact fun _ => rfl),
            (by first | exact f5 | exact fun _ => rfl),
            (by first | exact f6 | exact fun _ => rfl),
            (by first | exact f7 | exact fun _ => rfl),
            (by first | exact f8 | exact fun _ => rfl),
            (by first | exact f9 | exact fun _ => rfl),
            (by first | exact f10 | exact fun _ => rfl),
            (by first | exact fun _ => rfl | exact f11),
            (by first | exact fun _ => rfl | exact f12),
            (by first | exact f13 | exact fun _ => rfl),
            (by first | exact f14 | exact fun _ => rfl),
            (by first | exact f15 | exact fun _ => rfl),
            (by first | exact f16 | exact fun _ => rfl)⟩
        · skip
          have e12 : d 12 = true := done_of hed (by kernel_rfl)
          clear hed
          have g12 := f12 e12
          subst g12
          have fp0x := fp0
          clear fp0x
          refine wpOp_step rfl (fun K hK => ?_)
          go_simp
          (try (refine hK _ _ ?_; clear hK K))
          unfold BordI
          refine ⟨_, _, _, _, _, _, _, _, _, _, _, _, _, _, _, _, _, rfl, ?_⟩
          exact ⟨fb,
            fh,
            fko,
            fk0,
            fk1,
            fk2,
            fk3,
            fk4,
            fz,
            fp0,
            fp1,
            fcl0,
            (by first | exact f0 | exact fun _ => rfl),
            (by first | exact f1 | exact fun _ => rfl),
            (by first | exact f2 | exact fun _ => rfl),
            (by first | exact f3 | exact fun _ => rfl),
            (by first | exact f4 | exact fun _ => rfl),
            (by first | exact f5 | exact fun _ => rfl),
            (by first | exact f6 | exact fun _ => rfl),
            (by first | exact f7 | exact fun _ => rfl),
            (by first | exact f8 | exact fun _ => rfl),
            (by first | exact f9 | exact fun _ => rfl),
            (by first | exact f10 | exact fun _ => rfl),
            (by first | exact f11 | exact fun _ => rfl),
            (by first | exact fun _ => rfl | exact f12),
            (by first | exact fun _ => rfl | exact f13),
            (by first | exact f14 | exact fun _ => rfl),
            (by first | exact f15 | exact fun _ => rfl),
            (by first | exact f16 | exact fun _ => rfl)⟩
        · skip
          have e10 : d 10 = true := done_of hed (by kernel_rfl)
          have e13 : d 13 = true := done_of hed (by kernel_rfl)
          clear hed
          have g10 := f10 e10
          subst g10
          have g13 := f13 e13
          subst g13
          have fp0x := fp0
          clear fp0x
          have hw : IntKind.i64.wrap (pb.2 - pa.2) = pb.2 - pa.2 := IntWalk.i64_in _ (by omega)
          refine wpOp_step rfl (fun K hK => ?_)
          go_simp
          (try (refine hK _ _ ?_; clear hK K))
          unfold BordI
          refine ⟨_, _, _, _, _, _, _, _, _, _, _, _, _, _, _, _, _, rfl, ?_⟩
          exact ⟨fb,
            fh,
            fko,
            fk0,
            fk1,
            fk2,
            fk3,
            fk4,
            fz,
            fp0,
            fp1,
            fcl0,
            (by first | exact f0 | exact fun _ => rfl),
            (by first | exact f1 | exact fun _ => rfl),
            (by first | exact f2 | exact fun _ => rfl),
            (by first | exact f3 | exact fun _ => rfl),
            (by first | exact f4 | exact fun _ => rfl),
            (by first | exact f5 | exact fun _ => rfl),
            (by first | exact f6 | exact fun _ => rfl),
            (by first | exact f7 | exact fun _ => rfl),
            (by first | exact f8 | exact fun _ => rfl),
            (by first | exact f9 | exact fun _ => rfl),
            (by first | exact fun _ => rfl | exact f10),
            (by first | exact f11 | exact fun _ => rfl),
            (by first | exact f12 | exact fun _ => rfl),
            (by first | exact fun _ => rfl | exact f13),
            (by first | exact fun _ => rfl | exact f14),
            (by first | exact f15 | exact fun _ => rfl),
            (by first | exact f16 | exact fun _ => rfl)⟩
        · skip
          have e7 : d 7 = true := done_of hed (by kernel_rfl)
          have e14 : d 14 = true := done_of hed (by kernel_rfl)
          clear hed
          have g7 := f7 e7
          subst g7
          have g14 := f14 e14
          subst g14
          have fp0x := fp0
          clear fp0x
          refine wpOp_step rfl (fun K hK => ?_)
          go_simp
          go_at_call 57
          refine (gcd_is _ (by omega) (by omega) HGV.out).use ?_
          intro w3 hb3 hz3 hc3 hf3
          clear hc3 hf3
          (try (refine hK _ _ ?_; clear hK K))
          unfold BordI
          refine ⟨_, _, _, _, _, _, _, _, _, _, _, _, _, _, _, _, _, rfl, ?_⟩
          exact ⟨below_tail hb3 fb,
            Nat.le_trans fh hz3,
            keeps_step hb3 fko,
            (hb3.cell (p := ⟨g7, 0, none⟩) (by dsimp only; omega)).trans fk0,
            (hb3.cell (p := ⟨g7, 1, none⟩) (by dsimp only; omega)).trans fk1,
            (hb3.cell (p := ⟨g7, 2, none⟩) (by dsimp only; omega)).trans fk2,
            (hb3.cell (p := ⟨g7, 3, none⟩) (by dsimp only; omega)).trans fk3,
            (hb3.cell (p := ⟨M + 1, 0, none⟩) (by dsimp only; omega)).trans fk4,
            (hb3.frozen (p := ⟨M, 0, none⟩) (by dsimp only; omega)).trans fz,
            fun h => (hb3.cell (p := ⟨M, 0, none⟩) (by dsimp only; omega)).trans (fp0 h),
            fun h => (hb3.cell (p := ⟨M, 0, none⟩) (by dsimp only; omega)).trans (fp1 h),
            fcl0,
            (by first | exact f0 | exact fun _ => rfl),
            (by first | exact f1 | exact fun _ => rfl),
            (by first | exact f2 | exact fun _ => rfl),
            (by first | exact f3 | exact fun _ => rfl),
            (by first | exact f4 | exact fun _ => rfl),
            (by first | exact f5 | exact fun _ => rfl),
            (by first | exact f6 | exact fun _ => rfl),
            (by first | exact fun _ => rfl | exact f7),
            (by first | exact f8 | exact fun _ => rfl),
            (by first | exact f9 | exact fun _ => rfl),
            (by first | exact f10 | exact fun _ => rfl),
            (by first | exact f11 | exact fun _ => rfl),
            (by first | exact f12 | exact fun _ => rfl),
            (by first | exact f13 | exact fun _ => rfl),
            (by first | exact fun _ => rfl | exact f14),
            (by first | exact fun _ => rfl | exact f15),
            (by first | exact f16 | exact fun _ => rfl)⟩
        · skip
          have e0 : d 0 = true := done_of hed (by kernel_rfl)
          have e15 : d 15 = true := done_of hed (by kernel_rfl)
          clear hed
          have g0 := f0 e0
          subst g0
          have g15 := f15 e15
          subst g15
          have fp0x := fp0
          clear fp0x
          have hw : IntKind.i64.wrap (bk + gv) = bk + gv := IntWalk.i64_in _ (by omega)
          refine wpOp_step rfl (fun K hK => ?_)
          go_simp
          (try (refine hK _ _ ?_; clear hK K))
          unfold BordI
          refine ⟨_, _, _, _, _, _, _, _, _, _, _, _, _, _, _, _, _, rfl, ?_⟩
          exact ⟨fb,
            fh,
            fko,
            fk0,
            fk1,
            fk2,
            fk3,
            fk4,
            fz,
            fp0,
            fp1,
            fcl0,
            (by first | exact fun _ => rfl | exact f0),
            (by first | exact f1 | exact fun _ => rfl),
            (by first | exact f2 | exact fun _ => rfl),
            (by first | exact f3 | exact fun _ => rfl),
            (by first | exact f4 | exact fun _ => rfl),
            (by first | exact f5 | exact fun _ => rfl),
            (by first | exact f6 | exact fun _ => rfl),
            (by first | exact f7 | exact fun _ => rfl),
            (by first | exact f8 | exact fun _ => rfl),
            (by first | exact f9 | exact fun _ => rfl),
            (by first | exact f10 | exact fun _ => rfl),
            (by first | exact f11 | exact fun _ => rfl),
            (by first | exact f12 | exact fun _ => rfl),
            (by first | exact f13 | exact fun _ => rfl),
            (by first | exact f14 | exact fun _ => rfl),
            (by first | exact fun _ => rfl | exact f15),
            (by first | exact fun _ => rfl | exact f16)⟩
        · skip
          have e16 : d 16 = true := done_of hed (by kernel_rfl)
          have e0 : d 0 = true := done_of hed (by kernel_rfl)
          clear hed
          have g16 := f16 e16
          subst g16
          have fp0x := fp0
          replace fp0x := fp0x hdi
          refine wpOp_step rfl (fun K hK => ?_)
          go_simp
          (try (refine hK _ _ ?_; clear hK K))
          unfold BordI
          refine ⟨_, _, _, _, _, _, _, _, _, _, _, _, _, _, _, _, _, rfl, ?_⟩
          exact ⟨below_set fb (by dsimp only; omega) _,
            (by simpa using fh),
            fko.trans (KeepsOthers.setCell _ _ _),
            (World.cell?_setCell_other _ _ _ _ (by simp <;> omega)).trans fk0,
            (World.cell?_setCell_other _ _ _ _ (by simp <;> omega)).trans fk1,
            (World.cell?_setCell_other _ _ _ _ (by simp <;> omega)).trans fk2,
            (World.cell?_setCell_other _ _ _ _ (by simp <;> omega)).trans fk3,
            (World.cell?_setCell_other _ _ _ _ (by simp <;> omega)).trans fk4,
            (World.frozen?_setCell _ _ _ _).trans fz,
            fun h => no_false h,
            fun _ => World.cell?_setCell_same' _ _ _ (by rw [fp0x]; rfl),
            fun _ => e0,
            (by first | exact f0 | exact fun _ => rfl),
            (by first | exact f1 | exact fun _ => rfl),
            (by first | exact f2 | exact fun _ => rfl),
            (by first | exact f3 | exact fun _ => rfl),
            (by first | exact f4 | exact fun _ => rfl),
            (by first | exact f5 | exact fun _ => rfl),
            (by first | exact f6 | exact fun _ => rfl),
            (by first | exact f7 | exact fun _ => rfl),
            (by first | exact f8 | exact fun _ => rfl),
            (by first | exact f9 | exact fun _ => rfl),
            (by first | exact f10 | exact fun _ => rfl),
            (by first | exact f11 | exact fun _ => rfl),
            (by first | exact f12 | exact fun _ => rfl),
            (by first | exact f13 | exact fun _ => rfl),
            (by first | exact f14 | exact fun _ => rfl),
            (by first | exact f15 | exact fun _ => rfl),
            (by first | exact fun _ => rfl | exact f16)⟩
      case hend =>
        intro d a x hI hall
        unfold BordI at hI
        obtain ⟨u17, u18, u19, u20, u21, u22, u23, u24, u25, u26, u27, u28, u29, u30, u31, u32, u33, rfl, fb, fh, fko, fk0, fk1, fk2, fk3, fk4, fz, fp0, fp1, fcl0, f0, f1, f2, f3, f4, f5, f6, f7, f8, f9, f10, f11, f12, f13, f14, f15, f16⟩ := hI
        have hl0 := hall 0 (show 0 < 18 by omega)
        have hl1 := hall 1 (show 1 < 18 by omega)
        have hl2 := hall 2 (show 2 < 18 by omega)
        have hl3 := hall 3 (show 3 < 18 by omega)
        have hl4 := hall 4 (show 4 < 18 by omega)
        have hl5 := hall 5 (show 5 < 18 by omega)
        have hl6 := hall 6 (show 6 < 18 by omega)
        have hl7 := hall 7 (show 7 < 18 by omega)
        have hl8 := hall 8 (show 8 < 18 by omega)
        have hl9 := hall 9 (show 9 < 18 by omega)
        have hl10 := hall 10 (show 10 < 18 by omega)
        have hl11 := hall 11 (show 11 < 18 by omega)
        have hl12 := hall 12 (show 12 < 18 by omega)
        have hl13 := hall 13 (show 13 < 18 by omega)
        have hl14 := hall 14 (show 14 < 18 by omega)
        have hl15 := hall 15 (show 15 < 18 by omega)
        have hl16 := hall 16 (show 16 < 18 by omega)
        have hl17 := hall 17 (show 17 < 18 by omega)
        have g0 := f0 hl0
        subst g0
        have g1 := f1 hl1
        subst g1
        have g2 := f2 hl2
        subst g2
        have g3 := f3 hl3
        subst g3
        have g4 := f4 hl4
        subst g4
        have g5 := f5 hl5
        subst g5
        have g6 := f6 hl6
        subst g6
        have g7 := f7 hl7
        subst g7
        have g8 := f8 hl8
        subst g8
        have g9 := f9 hl9
        subst g9
        have g10 := f10 hl10
        subst g10
        have g11 := f11 hl11
        subst g11
        have g12 := f12 hl12
        subst g12
        have g13 := f13 hl13
        subst g13
        have g14 := f14 hl14
        subst g14
        have g15 := f15 hl15
        subst g15
        have g16 := f16 hl16
        subst g16
        have fq := fp1 hl17
        clear fp0 fp1 f0 f1 f2 f3 f4 f5 f6 f7 f8 f9 f10 f11 f12 f13 f14 f15 f16
        clear hall hl0 hl1 hl2 hl3 hl4 hl5 hl6 hl7 hl8 hl9 hl10 hl11 hl12 hl13 hl14 hl15 hl16 hl17
        dsimp only
        exact ⟨fko, fb, by omega, fk4, by rw [HS.out, HBK.out, HGE.out]; exact fq, fz⟩
    case done =>
      rintro m D W hm hD ⟨hB, hk, f0, f1, z0⟩ hK
      cases hm
      gi_wp2
      refine ⟨by simp, .inl ⟨_, _, rfl, run_takeDeferred hK, ?_⟩⟩
      have hP := below_obj (B := w.heap.size) (D := D) (W := W) (.deferred none) (by omega) hB.size
      exact ⟨.tuple #[.int .i64 (bordK l l.length), .int .i64 0], by simp [results, Try.f19, go_sem], by rw [HBF.out, HE.out], hB.trans hP⟩
    case stop => intro D c k W hD h; exact h.elim
    case start => exact ⟨hB0, Nat.zero_le _, e5, e3, e4⟩
  · have h1 : (e == 0) = false := by simpa using hz
    have h2 : (e != 0) = true := by simpa using hz
    have HZ := Lib.hid hz
    clear hz
    go_enter Try.func19, Try.ntmps19
    go_wp2_with (go_at_call 27; (with_reducible refine (validate_is _ (HP.out.below (by (repeat' (first | exact Below.refl _ _ | assumption | refine below_new ?_ _ | refine below_draw ?_ | refine below_tail (by assumption) ?_ | refine below_set ?_ (by first | omega | (simp <;> omega)) _)))) HE.out).use ?_); intro w1 hb1 hz1 hc1 hf1; (try simp at hz1); clear hc1 hf1)
    go_ret2
    exact ⟨by rw [HR.out, if_neg (by rw [HE.out]; exact HZ.out), HE.out]; rfl, by (repeat' (first | exact Below.refl _ _ | assumption | refine below_new ?_ _ | refine below_draw ?_ | refine below_tail (by assumption) ?_ | refine below_set ?_ (by first | omega | (simp <;> omega)) _))⟩

end Go.Proofs.Ythiemglckmociaa
