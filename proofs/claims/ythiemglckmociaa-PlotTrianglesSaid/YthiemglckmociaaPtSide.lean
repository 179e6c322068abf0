/- What side of the reference of package plot gives. Conditions: coordinates are small; the list lies in memory as said. -/
import Derived.Test.YthiemglckmociaaPtWhere
namespace Go.Proofs.Ythiemglckmociaa
open Go.RowKit Go.Shelf

theorem cr_bd (x a b : Int × Int) : -1 ≤ cr x a b ∧ cr x a b ≤ 1 := by unfold cr; split <;> (try split) <;> omega
/-- How often the first k sides go round a point. -/
def windK (l : List (Int × Int)) (x : Int × Int) (k : Nat) : Int := sumN (fun i => cr x (cor l i) (cor l (i + 1))) k
theorem windK_bd (l : List (Int × Int)) (x : Int × Int) : ∀ k : Nat, -(k : Int) ≤ windK l x k ∧ windK l x k ≤ k
  | 0 => by simp [windK, sumN]
  | k + 1 => by
    have := windK_bd l x k
    have := cr_bd x (cor l k) (cor l (k + 1))
    unfold windK sumN
    unfold windK at *
    omega
theorem windK_succ (l : List (Int × Int)) (x : Int × Int) (k : Nat) : windK l x (k + 1) = windK l x k + cr x (cor l k) (cor l (k + 1)) := rfl
def sideF (l : List (Int × Int)) (x : Int × Int) : Int := if onAny l x = true then 0 else if windK l x l.length = 0 then -1 else 1

def SideI (pa pb : Int × Int) (b0 o0 n0 cap k m : Nat) (y : World) (v0 v1 v2 v3 v4 v5 v6 v9 v10 v11 v12 v13 v14 v27 v28 v29 v30 v31 v32 v33 v34 v35 v36 v37 v38 v39 v40 v41 v42 v43 v44 v45 v46 v47 v48 v49 v50 v51 v52 v53 v54 v55 v56 v57 v58 v59 v60 v61 v62 v63 v64 v65 v66 v67 v68 v69 v70 v71 v72 v73 v74 : Value) (d : Nat → Bool) (a : Act) (x : World) : Prop :=
  ∃ u7 u8 u15 u16 u17 u18 u19 u20 u21 u22 u23 u24 u25 u26 : Value, a = ⟨#[v0, v1, v2, v3, v4, v5, v6, u7, u8, v9, v10, v11, v12, v13, v14, u15, u16, u17, u18, u19, u20, u21, u22, u23, u24, u25, u26, v27, v28, v29, v30, v31, v32, v33, v34, v35, v36, v37, v38, v39, v40, v41, v42, v43, v44, v45, v46, v47, v48, v49, v50, v51, v52, v53, v54, v55, v56, v57, v58, v59, v60, v61, v62, v63, v64, v65, v66, v67, v68, v69, v70, v71, v72, v73, v74], []⟩ ∧
    (Below y.heap.size y x) ∧
    (d 0 = true → u15 = .slice (some ⟨b0, o0, none⟩) n0 cap) ∧
    (d 1 = true → u16 = .int .i64 (k : Nat)) ∧
    (d 2 = true → u17 = .pointer (some ⟨b0, o0 + k * 2, none⟩)) ∧
    (d 3 = true → u18 = .agg #[.int .i64 pa.1, .int .i64 pa.2]) ∧
    (d 4 = true → u19 = .slice (some ⟨b0, o0, none⟩) n0 cap) ∧
    (d 5 = true → u20 = .int .i64 (k : Nat)) ∧
    (d 6 = true → u21 = .int .i64 ((k : Int) + 1)) ∧
    (d 7 = true → u22 = .slice (some ⟨b0, o0, none⟩) n0 cap) ∧
    (d 8 = true → u23 = .int .i64 (n0 : Nat)) ∧
    (d 9 = true → u24 = .int .i64 (m : Nat)) ∧
    (d 10 = true → u25 = .pointer (some ⟨b0, o0 + m * 2, none⟩)) ∧
    (d 11 = true → u26 = .agg #[.int .i64 pb.1, .int .i64 pb.2]) ∧
    (d 14 = true → d 12 = true) ∧
    (d 12 = true → ∃ (g : Nat) (cs : Nat → Value), u7 = .pointer (some ⟨g, 0, none⟩) ∧ y.heap.size ≤ g ∧ x.heap[g]? = some (.cells #[cs 0, cs 1] 32 (0, 0)) ∧ (d 14 = true → cs 0 = .int .i64 pa.1 ∧ cs 1 = .int .i64 pa.2)) ∧
    (d 15 = true → d 13 = true) ∧
    (d 13 = true → ∃ (g : Nat) (cs : Nat → Value), u8 = .pointer (some ⟨g, 0, none⟩) ∧ y.heap.size ≤ g ∧ x.heap[g]? = some (.cells #[cs 0, cs 1] 32 (0, 0)) ∧ (d 15 = true → cs 0 = .int .i64 pb.1 ∧ cs 1 = .int .i64 pb.2)) ∧
    (d 12 = true → d 13 = true → u7 ≠ u8)

set_option maxHeartbeats 4000000 in
set_option maxRecDepth 100000 in
theorem rside_calls (v : Value) (l : List (Int × Int)) (pt : Int × Int) (w : World) (h : PairsAt w v l) (h0 : 0 < l.length) (_h1 : l.length ≤ 1000) (hbd : ∀ i, bdP (cor l i)) (hpt : bdP pt) :
    Gives Try.prog 73 #[v, .agg #[.int .i64 pt.1, .int .i64 pt.2]] w (.int .i64 (sideF l pt)) := by
  have HP := Lib.hid h
  have HBD := Lib.hid hbd
  have HW : Hid (sideF l pt = if onAny l pt = true then 0 else if windK l pt l.length = 0 then -1 else 1) := rfl
  obtain ⟨sa, cap, rfl, hlc, hcm, hcell⟩ := h
  obtain ⟨b0, o0, rfl, hb0, _, _⟩ := hcell 0 h0
  clear hbd hcell
  obtain ⟨⟨x1, x2⟩, x3, x4⟩ := id hpt
  unfold Gives
  go_enter Try.func73, Try.ntmps73
  go_wp2
  go_loopw [5, 6] (fun r i wr => ∃ k : Nat, k ≤ l.length ∧ i = .int .i64 k ∧ r = .int .i64 (windK l pt k) ∧ Hid (∀ j, j < k → onB (cor l j) (cor l (j + 1)) pt = false) ∧ Below w.heap.size w wr ∧ w.heap.size < wr.heap.size ∧ wr.cell? ⟨w.heap.size, 0, none⟩ = some (.int .i64 pt.1) ∧ wr.cell? ⟨w.heap.size, 1, none⟩ = some (.int .i64 pt.2)) (fun _ i _ => l.length - (intOf i).toNat)
  case atStart => exact ⟨0, Nat.zero_le _, rfl, rfl, fun j hj => absurd hj (by omega), by (repeat' (first | exact Below.refl _ _ | assumption | refine below_new ?_ _ | refine below_draw ?_ | refine below_tail (by assumption) ?_ | refine below_set ?_ (by first | omega | (simp <;> omega)) _)), by simp, by simp, by simp⟩
  case round =>
    obtain ⟨k, hk, rfl, rfl, u0, hB, hsz, f0, f1⟩ := hrel
    have hwb := windK_bd l pt k
    obtain ⟨rv, hrv⟩ : ∃ r, windK l pt k = r := ⟨_, rfl⟩
    rw [hrv] at hwb
    rw [hrv]
    by_cases hlt : k < l.length
    · have HS := Lib.hid ((windK_succ l pt k).trans (by rw [hrv]))
      have HRV := Lib.hid hrv
      clear hrv
      have HP2 := HP.out.below hB
      obtain ⟨b0', o0', e1, hb2, c0, c1⟩ := HP2.cellAt hlt
      cases e1
      obtain ⟨m, hm1, hm2, hm3⟩ := cor_at (l := l) k 1 h0
      obtain ⟨b0', o0', e1, _, c2, c3⟩ := HP2.cellAt hm2
      cases e1
      have hm1' : ((k : Int) + 1) % (l.length : Int) = (m : Int) := hm1
      clear hm1 HP2
      have HA := HBD.out k
      have HB := HBD.out (k + 1)
      have HAN := Lib.hid (anyN_true (f := fun i => onB (cor l i) (cor l (i + 1)) pt) hlt)
      have E1 := cor_lt hlt
      rw [← E1] at c0 c1
      rw [← hm3] at c2 c3
      clear E1 hm3
      generalize hpa : cor l k = pa at *
      generalize hpb : cor l (k + 1) = pb at *
      have HPA := Lib.hid hpa
      have HPB := Lib.hid hpb
      clear hpa hpb
      have hidx1 : (0 : Int) ≤ k := by omega
      go_wp2
      refine wp_region_inv mixed (by kernel_rfl) (SideI pa pb b0 o0 l.length cap k m wr (.slice (some ⟨b0, o0, none⟩) l.length cap) (.agg #[.int .i64 pt.1, .int .i64 pt.2]) undef (.pointer (some ⟨w.heap.size, 0, none⟩)) (u4) (.int .i64 rv) (.int .i64 k) (.int .i64 k) (.slice (some ⟨b0, o0, none⟩) l.length cap) (.int .i64 l.length) (.bool true) (u13) (u14) (u27) (u28) (u29) (u30) (u31) (u32) (u33) (u34) (u35) (u36) (u37) (u38) (u39) (u40) (u41) (u42) (u43) (u44) (u45) (u46) (u47) (u48) (u49) (u50) (u51) (u52) (u53) (u54) (u55) (u56) (u57) (u58) (u59) (u60) (u61) (u62) (u63) (u64) (u65) (u66) (u67) (u68) (u69) (u70) (u71) (u72) undef undef) ?h0 ?hstep ?hend
      case h0 =>
        unfold SideI
        exact ⟨_, _, _, _, _, _, _, _, _, _, _, _, _, _, rfl, below_draw (Below.refl _ _), fun h => no_false h.symm, fun h => no_false h.symm, fun h => no_false h.symm, fun h => no_false h.symm, fun h => no_false h.symm, fun h => no_false h.symm, fun h => no_false h.symm, fun h => no_false h.symm, fun h => no_false h.symm, fun h => no_false h.symm, fun h => no_false h.symm, fun h => no_false h.symm, fun h => no_false h.symm, fun h => no_false h.symm, fun h => no_false h.symm, fun h => no_false h.symm, fun h _ => no_false h.symm⟩
      case hstep =>
        intro d a x hI i hi hdi hed
        unfold SideI at hI
        obtain ⟨u7, u8, u15, u16, u17, u18, u19, u20, u21, u22, u23, u24, u25, u26, rfl, fb, f0, f1, f2, f3, f4, f5, f6, f7, f8, f9, f10, f11, fc0, fx0, fc1, fx1, fp01⟩ := hI
        have hi' : i < 16 := hi
        clear hi
        rcases (show i = 0 ∨ i = 1 ∨ i = 2 ∨ i = 3 ∨ i = 4 ∨ i = 5 ∨ i = 6 ∨ i = 7 ∨ i = 8 ∨ i = 9 ∨ i = 10 ∨ i = 11 ∨ i = 12 ∨ i = 13 ∨ i = 14 ∨ i = 15 by omega) with rfl | rfl | rfl | rfl | rfl | rfl | rfl | rfl | rfl | rfl | rfl | rfl | rfl | rfl | rfl | rfl
        · skip
          clear hed
          refine wpOp_step rfl (fun K hK => ?_)
          go_simp
          (try (refine hK _ _ ?_; clear hK K))
          unfold SideI
          refine ⟨_, _, _, _, _, _, _, _, _, _, _, _, _, _, rfl, ?_⟩
          exact ⟨fb,
            (by first | exact fun _ => rfl | exact f0),
            f1,
            f2,
            f3,
            f4,
            f5,
            f6,
            f7,
            f8,
            f9,
            f10,
            f11,
            fc0,
            fx0,
            fc1,
            fx1,
            fp01⟩
        · skip
          clear hed
          refine wpOp_step rfl (fun K hK => ?_)
          go_simp
          (try (refine hK _ _ ?_; clear hK K))
          unfold SideI
          refine ⟨_, _, _, _, _, _, _, _, _, _, _, _, _, _, rfl, ?_⟩
          exact ⟨fb,
            f0,
            (by first | exact fun _ => rfl | exact f1),
            f2,
            f3,
            f4,
            f5,
            f6,
            f7,
            f8,
            f9,
            f10,
            f11,
            fc0,
            fx0,
            fc1,
            fx1,
            fp01⟩
        · skip
          have e0 : d 0 = true := done_of hed (by kernel_rfl)
          have e1 : d 1 = true := done_of hed (by kernel_rfl)
          clear hed
          have g0 := f0 e0
          subst g0
          have g1 := f1 e1
          subst g1
          refine wpOp_step rfl (fun K hK => ?_)
          go_simp
          (try (refine hK _ _ ?_; clear hK K))
          unfold SideI
          refine ⟨_, _, _, _, _, _, _, _, _, _, _, _, _, _, rfl, ?_⟩
          exact ⟨fb,
            (by first | exact fun _ => rfl | exact f0),
            (by first | exact fun _ => rfl | exact f1),
            (by first | exact fun _ => rfl | exact f2),
            f3,
            f4,
            f5,
            f6,
            f7,
            f8,
            f9,
            f10,
            f11,
            fc0,
            fx0,
            fc1,
            fx1,
            fp01⟩
        · skip
          have e2 : d 2 = true := done_of hed (by kernel_rfl)
          clear hed
          have g2 := f2 e2
          subst g2
          have k0 : x.cell? ⟨b0, o0 + k * 2, none⟩ = some (.int .i64 pa.1) := (fb.cell (p := ⟨b0, o0 + k * 2, none⟩) hb2).trans c0
          have k1 : x.cell? ⟨b0, o0 + k * 2 + 1, none⟩ = some (.int .i64 pa.2) := (fb.cell (p := ⟨b0, o0 + k * 2 + 1, none⟩) hb2).trans c1
          refine wpOp_step rfl (fun K hK => ?_)
          go_simp
          (try (refine hK _ _ ?_; clear hK K))
          unfold SideI
          refine ⟨_, _, _, _, _, _, _, _, _, _, _, _, _, _, rfl, ?_⟩
          exact ⟨fb,
            f0,
            f1,
            (by first | exact fun _ => rfl | exact f2),
            (by first | exact fun _ => rfl | exact f3),
            f4,
            f5,
            f6,
            f7,
            f8,
            f9,
            f10,
            f11,
            fc0,
            fx0,
            fc1,
            fx1,
            fp01⟩
        · skip
          clear hed
          refine wpOp_step rfl (fun K hK => ?_)
          go_simp
          (try (refine hK _ _ ?_; clear hK K))
          unfold SideI
          refine ⟨_, _, _, _, _, _, _, _, _, _, _, _, _, _, rfl, ?_⟩
          exact ⟨fb,
            f0,
            f1,
            f2,
            f3,
            (by first | exact fun _ => rfl | exact f4),
            f5,
            f6,
            f7,
            f8,
            f9,
            f10,
            f11,
            fc0,
            fx0,
            fc1,
            fx1,
            fp01⟩
        · skip
          clear hed
          refine wpOp_step rfl (fun K hK => ?_)
          go_simp
          (try (refine hK _ _ ?_; clear hK K))
          unfold SideI
          refine ⟨_, _, _, _, _, _, _, _, _, _, _, _, _, _, rfl, ?_⟩
          exact ⟨fb,
            f0,
            f1,
            f2,
            f3,
            f4,
            (by first | exact fun _ => rfl | exact f5),
            f6,
            f7,
            f8,
            f9,
            f10,
            f11,
            fc0,
            fx0,
            fc1,
            fx1,
            fp01⟩
        · skip
          have e5 : d 5 = true := done_of hed (by kernel_rfl)
          clear hed
          have g5 := f5 e5
          subst g5
          have hw1 : IntKind.i64.wrap ((k : Int) + 1) = (k : Int) + 1 := IntWalk.i64_in _ (by omega)
          refine wpOp_step rfl (fun K hK => ?_)
          go_simp
          (try (refine hK _ _ ?_; clear hK K))
          unfold SideI
          refine ⟨_, _, _, _, _, _, _, _, _, _, _, _, _, _, rfl, ?_⟩
          exact ⟨fb,
            f0,
            f1,
            f2,
            f3,
            f4,
            (by first | exact fun _ => rfl | exact f5),
            (by first | exact fun _ => rfl | exact f6),
            f7,
            f8,
            f9,
            f10,
            f11,
            fc0,
            fx0,
            fc1,
            fx1,
            fp01⟩
        · skip
          clear hed
          refine wpOp_step rfl (fun K hK => ?_)
          go_simp
          (try (refine hK _ _ ?_; clear hK K))
          unfold SideI
          refine ⟨_, _, _, _, _, _, _, _, _, _, _, _, _, _, rfl, ?_⟩
          exact ⟨fb,
            f0,
            f1,
            f2,
            f3,
            f4,
            f5,
            f6,
            (by first | exact fun _ => rfl | exact f7),
            f8,
            f9,
            f10,
            f11,
            fc0,
            fx0,
            fc1,
            fx1,
            fp01⟩
        · skip
          have e7 : d 7 = true := done_of hed (by kernel_rfl)
          clear hed
          have g7 := f7 e7
          subst g7
          refine wpOp_step rfl (fun K hK => ?_)
          go_simp
          (try (refine hK _ _ ?_; clear hK K))
          unfold SideI
          refine ⟨_, _, _, _, _, _, _, _, _, _, _, _, _, _, rfl, ?_⟩
          exact ⟨fb,
            f0,
            f1,
            f2,
            f3,
            f4,
            f5,
            f6,
            (by first | exact fun _ => rfl | exact f7),
            (by first | exact fun _ => rfl | exact f8),
            f9,
            f10,
            f11,
            fc0,
            fx0,
            fc1,
            fx1,
            fp01⟩
        · skip
          have e6 : d 6 = true := done_of hed (by kernel_rfl)
          have e8 : d 8 = true := done_of hed (by kernel_rfl)
          clear hed
          have g6 := f6 e6
          subst g6
          have g8 := f8 e8
          subst g8
          have hr1 : ((k : Int) + 1).tmod (l.length : Int) = (m : Int) := by rw [Int.tmod_eq_emod_of_nonneg (by omega)]; exact hm1'
          have hl0 : ¬ l = [] := fun e => by rw [e] at h0; simp at h0
          refine wpOp_step rfl (fun K hK => ?_)
          go_simp
          (try (refine hK _ _ ?_; clear hK K))
          unfold SideI
          refine ⟨_, _, _, _, _, _, _, _, _, _, _, _, _, _, rfl, ?_⟩
          exact ⟨fb,
            f0,
            f1,
            f2,
            f3,
            f4,
            f5,
            (by first | exact fun _ => rfl | exact f6),
            f7,
            (by first | exact fun _ => rfl | exact f8),
            (by first | exact fun _ => rfl | exact f9),
            f10,
            f11,
            fc0,
            fx0,
            fc1,
            fx1,
            fp01⟩
        · skip
          have e4 : d 4 = true := done_of hed (by kernel_rfl)
          have e9 : d 9 = true := done_of hed (by kernel_rfl)
          clear hed
          have g4 := f4 e4
          subst g4
          have g9 := f9 e9
          subst g9
          refine wpOp_step rfl (fun K hK => ?_)
          go_simp
          (try (refine hK _ _ ?_; clear hK K))
          unfold SideI
          refine ⟨_, _, _, _, _, _, _, _, _, _, _, _, _, _, rfl, ?_⟩
          exact ⟨fb,
            f0,
            f1,
            f2,
            f3,
            (by first | exact fun _ => rfl | exact f4),
            f5,
            f6,
            f7,
            f8,
            (by first | exact fun _ => rfl | exact f9),
            (by first | exact fun _ => rfl | exact f10),
            f11,
            fc0,
            fx0,
            fc1,
            fx1,
            fp01⟩
        · skip
          have e10 : d 10 = true := done_of hed (by kernel_rfl)
          clear hed
          have g10 := f10 e10
          subst g10
          have k0 : x.cell? ⟨b0, o0 + m * 2, none⟩ = some (.int .i64 pb.1) := (fb.cell (p := ⟨b0, o0 + m * 2, none⟩) hb2).trans c2
          have k1 : x.cell? ⟨b0, o0 + m * 2 + 1, none⟩ = some (.int .i64 pb.2) := (fb.cell (p := ⟨b0, o0 + m * 2 + 1, none⟩) hb2).trans c3
          refine wpOp_step rfl (fun K hK => ?_)
          go_simp
          (try (refine hK _ _ ?_; clear hK K))
          unfold SideI
          refine ⟨_, _, _, _, _, _, _, _, _, _, _, _, _, _, rfl, ?_⟩
          exact ⟨fb,
            f0,
            f1,
            f2,
            f3,
            f4,
            f5,
            f6,
            f7,
            f8,
            f9,
            (by first | exact fun _ => rfl | exact f10),
            (by first | exact fun _ => rfl | exact f11),
            fc0,
            fx0,
            fc1,
            fx1,
            fp01⟩
        · skip
          clear hed
          have hb3 : Below x.heap.size x (x.alloc (.cells #[.int .i64 0, .int .i64 0] 32)) := (Below.refl _ _).alloc (Nat.le_refl _) _
          have hblk : Hid ((x.alloc (.cells #[.int .i64 0, .int .i64 0] 32)).heap[x.heap.size]? = some (.cells #[.int .i64 0, .int .i64 0] 32 (0, 0))) := World.alloc_heap_new _ _
          refine wpOp_step rfl (fun K hK => ?_)
          go_simp
          replace hblk := hblk.out
          (try (refine hK _ _ ?_; clear hK K))
          unfold SideI
          refine ⟨_, _, _, _, _, _, _, _, _, _, _, _, _, _, rfl, ?_⟩
          exact ⟨below_tail hb3 fb,
            f0,
            f1,
            f2,
            f3,
            f4,
            f5,
            f6,
            f7,
            f8,
            f9,
            f10,
            f11,
            fun _ => rfl,
            fun _ => ⟨_, fun i => if i = 0 then .int .i64 0 else .int .i64 0, rfl, fb.size, hblk, fun h => not_both (fc0 h) hdi⟩,
            fc1,
            fun hal => let ⟨g, cs, e, hg, hx, h⟩ := fx1 hal; ⟨g, cs, e, hg, blk_below hx hb3, h⟩,
            fun _ h => (fun e => by obtain ⟨g2, _, e2, _, hx2, _⟩ := fx1 h; rw [e2] at e; cases e; exact absurd (Array.getElem?_eq_some_iff.1 hx2).1 (Nat.lt_irrefl _))⟩
        · skip
          clear hed
          have hb3 : Below x.heap.size x (x.alloc (.cells #[.int .i64 0, .int .i64 0] 32)) := (Below.refl _ _).alloc (Nat.le_refl _) _
          have hblk : Hid ((x.alloc (.cells #[.int .i64 0, .int .i64 0] 32)).heap[x.heap.size]? = some (.cells #[.int .i64 0, .int .i64 0] 32 (0, 0))) := World.alloc_heap_new _ _
          refine wpOp_step rfl (fun K hK => ?_)
          go_simp
          replace hblk := hblk.out
          (try (refine hK _ _ ?_; clear hK K))
          unfold SideI
          refine ⟨_, _, _, _, _, _, _, _, _, _, _, _, _, _, rfl, ?_⟩
          exact ⟨below_tail hb3 fb,
            f0,
            f1,
            f2,
            f3,
            f4,
            f5,
            f6,
            f7,
            f8,
            f9,
            f10,
            f11,
            fc0,
            fun hal => let ⟨g, cs, e, hg, hx, h⟩ := fx0 hal; ⟨g, cs, e, hg, blk_below hx hb3, h⟩,
            fun _ => rfl,
            fun _ => ⟨_, fun i => if i = 0 then .int .i64 0 else .int .i64 0, rfl, fb.size, hblk, fun h => not_both (fc1 h) hdi⟩,
            fun h _ => (fun e => by obtain ⟨g2, _, e2, _, hx2, _⟩ := fx0 h; rw [e2] at e; cases e; exact absurd (Array.getElem?_eq_some_iff.1 hx2).1 (Nat.lt_irrefl _))⟩
        · skip
          have e3 : d 3 = true := done_of hed (by kernel_rfl)
          have e12 : d 12 = true := done_of hed (by kernel_rfl)
          clear hed
          have g3 := f3 e3
          subst g3
          obtain ⟨g, cs, e7, hg, hx, h13⟩ := fx0 e12
          subst e7
          have k0 := cell_of_block hx 0
          have l0 := frozen_of_block hx 0
          have k1 := cell_of_block hx 1
          have l1 := frozen_of_block hx 1
          simp at k0 k1
          have hgr : Hid (x.grownBy ((x.setCell ⟨g, 0, none⟩ (.int .i64 pa.1)).setCell ⟨g, 1, none⟩ (.int .i64 pa.2)) (some g)) := (grown_trans (grown_set x ⟨g, 0, none⟩ (.int .i64 pa.1)) (grown_set (x.setCell ⟨g, 0, none⟩ (.int .i64 pa.1)) ⟨g, 1, none⟩ (.int .i64 pa.2)))
          have hblk : Hid (((x.setCell ⟨g, 0, none⟩ (.int .i64 pa.1)).setCell ⟨g, 1, none⟩ (.int .i64 pa.2)).heap[g]? = some (.cells #[.int .i64 pa.1, .int .i64 pa.2] 32 (0, 0))) := (block_set (block_set hx 0 _) 1 _)
          have HX := Lib.hid hx
          clear hx
          refine wpOp_step rfl (fun K hK => ?_)
          go_simp
          replace hgr := hgr.out
          replace hblk := hblk.out
          (try (refine hK _ _ ?_; clear hK K))
          unfold SideI
          refine ⟨_, _, _, _, _, _, _, _, _, _, _, _, _, _, rfl, ?_⟩
          exact ⟨below_grow fb hgr (fun k hk => by cases hk; exact hg),
            f0,
            f1,
            f2,
            (by first | exact fun _ => rfl | exact f3),
            f4,
            f5,
            f6,
            f7,
            f8,
            f9,
            f10,
            f11,
            fun _ => e12,
            fun _ => ⟨g, fun i => if i = 0 then .int .i64 pa.1 else .int .i64 pa.2, rfl, hg, hblk, fun _ => ⟨rfl, rfl⟩⟩,
            fc1,
            fun hal => let ⟨g2, cs, e, hg2, hx2, h⟩ := fx1 hal; ⟨g2, cs, e, hg2, (hgr.block g2 (Array.getElem?_eq_some_iff.1 hx2).1 (fun e2 => (fp01 e12 hal) (by cases e2; exact e.symm))).trans hx2, h⟩,
            fp01⟩
        · skip
          have e11 : d 11 = true := done_of hed (by kernel_rfl)
          have e13 : d 13 = true := done_of hed (by kernel_rfl)
          clear hed
          have g11 := f11 e11
          subst g11
          obtain ⟨g, cs, e7, hg, hx, h13⟩ := fx1 e13
          subst e7
          have k0 := cell_of_block hx 0
          have l0 := frozen_of_block hx 0
          have k1 := cell_of_block hx 1
          have l1 := frozen_of_block hx 1
          simp at k0 k1
          have hgr : Hid (x.grownBy ((x.setCell ⟨g, 0, none⟩ (.int .i64 pb.1)).setCell ⟨g, 1, none⟩ (.int .i64 pb.2)) (some g)) := (grown_trans (grown_set x ⟨g, 0, none⟩ (.int .i64 pb.1)) (grown_set (x.setCell ⟨g, 0, none⟩ (.int .i64 pb.1)) ⟨g, 1, none⟩ (.int .i64 pb.2)))
          have hblk : Hid (((x.setCell ⟨g, 0, none⟩ (.int .i64 pb.1)).setCell ⟨g, 1, none⟩ (.int .i64 pb.2)).heap[g]? = some (.cells #[.int .i64 pb.1, .int .i64 pb.2] 32 (0, 0))) := (block_set (block_set hx 0 _) 1 _)
          have HX := Lib.hid hx
          clear hx
          refine wpOp_step rfl (fun K hK => ?_)
          go_simp
          replace hgr := hgr.out
          replace hblk := hblk.out
          (try (refine hK _ _ ?_; clear hK K))
          unfold SideI
          refine ⟨_, _, _, _, _, _, _, _, _, _, _, _, _, _, rfl, ?_⟩
          exact ⟨below_grow fb hgr (fun k hk => by cases hk; exact hg),
            f0,
            f1,
            f2,
            f3,
            f4,
            f5,
            f6,
            f7,
            f8,
            f9,
            f10,
            (by first | exact fun _ => rfl | exact f11),
            fc0,
            fun hal => let ⟨g2, cs, e, hg2, hx2, h⟩ := fx0 hal; ⟨g2, cs, e, hg2, (hgr.block g2 (Array.getElem?_eq_some_iff.1 hx2).1 (fun e2 => (fp01 hal e13) (by cases e2; exact e))).trans hx2, h⟩,
            fun _ => e13,
            fun _ => ⟨g, fun i => if i = 0 then .int .i64 pb.1 else .int .i64 pb.2, rfl, hg, hblk, fun _ => ⟨rfl, rfl⟩⟩,
            fp01⟩
      case hend =>
        intro d a x hI hall
        unfold SideI at hI
        obtain ⟨u7, u8, u15, u16, u17, u18, u19, u20, u21, u22, u23, u24, u25, u26, rfl, fb, f0, f1, f2, f3, f4, f5, f6, f7, f8, f9, f10, f11, fc0, fx0, fc1, fx1, fp01⟩ := hI
        have hl0 := hall 0 (show 0 < 16 by omega)
        have hl1 := hall 1 (show 1 < 16 by omega)
        have hl2 := hall 2 (show 2 < 16 by omega)
        have hl3 := hall 3 (show 3 < 16 by omega)
        have hl4 := hall 4 (show 4 < 16 by omega)
        have hl5 := hall 5 (show 5 < 16 by omega)
        have hl6 := hall 6 (show 6 < 16 by omega)
        have hl7 := hall 7 (show 7 < 16 by omega)
        have hl8 := hall 8 (show 8 < 16 by omega)
        have hl9 := hall 9 (show 9 < 16 by omega)
        have hl10 := hall 10 (show 10 < 16 by omega)
        have hl11 := hall 11 (show 11 < 16 by omega)
        have hl12 := hall 12 (show 12 < 16 by omega)
        have hl13 := hall 13 (show 13 < 16 by omega)
        have hl14 := hall 14 (show 14 < 16 by omega)
        have hl15 := hall 15 (show 15 < 16 by omega)
        have g0 := f0 hl0
        subst g0
        have g1 := f1 hl1
        subst g1
        have g2 := f2 hl2
        subst g2
        have g3 := f3 hl3
        subst g3
        have g4 := f4 hl4
        subst g4
        have g5 := f5 hl5
        subst g5
        have g6 := f6 hl6
        subst g6
        have g7 := f7 hl7
        subst g7
        have g8 := f8 hl8
        subst g8
        have g9 := f9 hl9
        subst g9
        have g10 := f10 hl10
        subst g10
        have g11 := f11 hl11
        subst g11
        obtain ⟨ga, cs, e7, hga, hxa, h13⟩ := fx0 hl12
        obtain ⟨ex0, ex1⟩ := h13 hl14
        rw [ex0, ex1] at hxa
        subst e7
        clear h13 ex0 ex1
        obtain ⟨gb, cs, e7, hgb, hxb, h13⟩ := fx1 hl13
        obtain ⟨ex0, ex1⟩ := h13 hl15
        rw [ex0, ex1] at hxb
        subst e7
        clear h13 ex0 ex1
        have hne : ga ≠ gb := fun e => fp01 hl12 hl13 (by rw [e])
        have hsza := (Array.getElem?_eq_some_iff.1 hxa).1
        have qa0 := cell_of_block hxa 0
        have qfa0 := frozen_of_block hxa 0
        have qa1 := cell_of_block hxa 1
        have qfa1 := frozen_of_block hxa 1
        simp at qa0 qa1
        clear hxa
        have hszb := (Array.getElem?_eq_some_iff.1 hxb).1
        have qb0 := cell_of_block hxb 0
        have qfb0 := frozen_of_block hxb 0
        have qb1 := cell_of_block hxb 1
        have qfb1 := frozen_of_block hxb 1
        simp at qb0 qb1
        clear hxb
        clear f0 f1 f2 f3 f4 f5 f6 f7 f8 f9 f10 f11 fc0 fx0 fc1 fx1 fp01
        clear hall hl0 hl1 hl2 hl3 hl4 hl5 hl6 hl7 hl8 hl9 hl10 hl11 hl12 hl13 hl14 hl15
        dsimp only
        replace hB := below_tail fb hB
        replace f0 := (fb.cell (p := ⟨w.heap.size, 0, none⟩) (by dsimp only; omega)).trans f0
        replace f1 := (fb.cell (p := ⟨w.heap.size, 1, none⟩) (by dsimp only; omega)).trans f1
        have hga4 : w.heap.size + 1 ≤ ga := by omega
        have hgb4 : w.heap.size + 1 ≤ gb := by omega
        have na : w.heap.size ≠ ga := by omega
        have nb : w.heap.size ≠ gb := by omega
        have hsx : w.heap.size < x.heap.size := by omega
        clear fb hga hgb c0 c1 c2 c3
        obtain ⟨wq, hwq⟩ : ∃ wq, wq = x := ⟨_, rfl⟩
        subst hwq
        cases hon : onB pa pb pt
        case true =>
          have HON := Lib.hid hon
          clear hon
          have hok0 : onAny l pt = true := HAN.out HON.out
          have hok := Lib.hid hok0
          clear hok0
          go_wp2_with (go_at_call 102; (with_reducible refine (ron_is _ hpt HA HB HON.out).use ?_); intro w1 hb1 hz1 hc1 hf1; have f0_1 := (hc1 (w.heap.size) 0 (by first | omega | (simp <;> omega))).trans f0; have f1_1 := (hc1 (w.heap.size) 1 (by first | omega | (simp <;> omega))).trans f1; have qa0_1 := (hc1 (ga) 0 (by first | omega | (simp <;> omega))).trans qa0; have qa1_1 := (hc1 (ga) 1 (by first | omega | (simp <;> omega))).trans qa1; have qb0_1 := (hc1 (gb) 0 (by first | omega | (simp <;> omega))).trans qb0; have qb1_1 := (hc1 (gb) 1 (by first | omega | (simp <;> omega))).trans qb1; have hs1 : w.heap.size < w1.heap.size := (by omega); clear hc1 hf1)
          go_ret
          exact ⟨ret_int (by rw [HW.out, if_pos hok.out]), by (repeat' (first | exact Below.refl _ _ | assumption | refine below_new ?_ _ | refine below_draw ?_ | refine below_tail (by assumption) ?_ | refine below_set ?_ (by first | omega | (simp <;> omega)) _))⟩
        case false =>
          have HON := Lib.hid hon
          clear hon
          by_cases hc1 : pa.2 ≤ pt.2
          · by_cases hc2 : pt.2 < pb.2
            · skip
              have d1 : decide (pa.2 ≤ pt.2) = true := decide_eq_true hc1
              have d2 : decide (pt.2 < pa.2) = false := decide_eq_false (by omega)
              have d3 : decide (pt.2 < pb.2) = true := decide_eq_true hc2
              obtain ⟨t, ht⟩ : ∃ t, turn pa pb pt = t := ⟨_, rfl⟩
              have HT := Lib.hid ht
              clear ht
              by_cases hc3 : 0 < t
              · skip
                have d4 := decide_eq_true hc3
                have HC : Hid (cr pt pa pb = 1) := by
                  unfold Hid cr
                  rw [HT.out, if_pos (by omega)]
                go_wp2_with (first | (go_at_call 102; (with_reducible refine (ron_is _ hpt HA HB HON.out).use ?_); intro w1 hb1 hz1 hc1 hf1; have f0_1 := (hc1 (w.heap.size) 0 (by first | omega | (simp <;> omega))).trans f0; have f1_1 := (hc1 (w.heap.size) 1 (by first | omega | (simp <;> omega))).trans f1; have qa0_1 := (hc1 (ga) 0 (by first | omega | (simp <;> omega))).trans qa0; have qa1_1 := (hc1 (ga) 1 (by first | omega | (simp <;> omega))).trans qa1; have qb0_1 := (hc1 (gb) 0 (by first | omega | (simp <;> omega))).trans qb0; have qb1_1 := (hc1 (gb) 1 (by first | omega | (simp <;> omega))).trans qb1; have hs1 : w.heap.size < w1.heap.size := (by omega); clear hc1 hf1) | (go_at_call 89; (with_reducible refine (rturn_is _ HA HB hpt HT.out).use ?_); intro w2 hb2 hz2 hc2 hf2; have f0_2 := (hc2 (w.heap.size) 0 (by first | omega | (simp <;> omega))).trans f0_1; have f1_2 := (hc2 (w.heap.size) 1 (by first | omega | (simp <;> omega))).trans f1_1; have qa0_2 := (hc2 (ga) 0 (by first | omega | (simp <;> omega))).trans qa0_1; have qa1_2 := (hc2 (ga) 1 (by first | omega | (simp <;> omega))).trans qa1_1; have qb0_2 := (hc2 (gb) 0 (by first | omega | (simp <;> omega))).trans qb0_1; have qb1_2 := (hc2 (gb) 1 (by first | omega | (simp <;> omega))).trans qb1_1; have hs2 : w.heap.size < w2.heap.size := (by omega); clear hc2 hf2))
                go_roundw
                case rel => exact ⟨k + 1, by omega, by go_num, by rw [HS.out, HC.out], fun j hj => (Nat.lt_succ_iff_lt_or_eq.1 hj).elim (u0.out j) (fun e => by subst e; rw [HPA.out, HPB.out]; exact HON.out), by (repeat' (first | exact Below.refl _ _ | assumption | refine below_new ?_ _ | refine below_draw ?_ | refine below_tail (by assumption) ?_ | refine below_set ?_ (by first | omega | (simp <;> omega)) _)), by omega, f0_2, f1_2⟩
                case measure => simp [intOf]; omega
              · skip
                have d4 := decide_eq_false hc3
                have HC : Hid (cr pt pa pb = 0) := by
                  unfold Hid cr
                  rw [HT.out, if_neg (by omega), if_neg (by omega)]
                go_wp2_with (first | (go_at_call 102; (with_reducible refine (ron_is _ hpt HA HB HON.out).use ?_); intro w1 hb1 hz1 hc1 hf1; have f0_1 := (hc1 (w.heap.size) 0 (by first | omega | (simp <;> omega))).trans f0; have f1_1 := (hc1 (w.heap.size) 1 (by first | omega | (simp <;> omega))).trans f1; have qa0_1 := (hc1 (ga) 0 (by first | omega | (simp <;> omega))).trans qa0; have qa1_1 := (hc1 (ga) 1 (by first | omega | (simp <;> omega))).trans qa1; have qb0_1 := (hc1 (gb) 0 (by first | omega | (simp <;> omega))).trans qb0; have qb1_1 := (hc1 (gb) 1 (by first | omega | (simp <;> omega))).trans qb1; have hs1 : w.heap.size < w1.heap.size := (by omega); clear hc1 hf1) | (go_at_call 89; (with_reducible refine (rturn_is _ HA HB hpt HT.out).use ?_); intro w2 hb2 hz2 hc2 hf2; have f0_2 := (hc2 (w.heap.size) 0 (by first | omega | (simp <;> omega))).trans f0_1; have f1_2 := (hc2 (w.heap.size) 1 (by first | omega | (simp <;> omega))).trans f1_1; have qa0_2 := (hc2 (ga) 0 (by first | omega | (simp <;> omega))).trans qa0_1; have qa1_2 := (hc2 (ga) 1 (by first | omega | (simp <;> omega))).trans qa1_1; have qb0_2 := (hc2 (gb) 0 (by first | omega | (simp <;> omega))).trans qb0_1; have qb1_2 := (hc2 (gb) 1 (by first | omega | (simp <;> omega))).trans qb1_1; have hs2 : w.heap.size < w2.heap.size := (by omega); clear hc2 hf2))
                go_roundw
                case rel => exact ⟨k + 1, by omega, by go_num, by rw [HS.out, HC.out, Int.add_zero], fun j hj => (Nat.lt_succ_iff_lt_or_eq.1 hj).elim (u0.out j) (fun e => by subst e; rw [HPA.out, HPB.out]; exact HON.out), by (repeat' (first | exact Below.refl _ _ | assumption | refine below_new ?_ _ | refine below_draw ?_ | refine below_tail (by assumption) ?_ | refine below_set ?_ (by first | omega | (simp <;> omega)) _)), by omega, f0_2, f1_2⟩
                case measure => simp [intOf]; omega
            · skip
              have d1 : decide (pa.2 ≤ pt.2) = true := decide_eq_true hc1
              have d2 : decide (pt.2 < pa.2) = false := decide_eq_false (by omega)
              have d3 : decide (pt.2 < pb.2) = false := decide_eq_false hc2
              have HC : Hid (cr pt pa pb = 0) := by
                unfold Hid cr
                rw [if_neg (by omega), if_neg (by omega)]
              go_wp2_with (first | (go_at_call 102; (with_reducible refine (ron_is _ hpt HA HB HON.out).use ?_); intro w1 hb1 hz1 hc1 hf1; have f0_1 := (hc1 (w.heap.size) 0 (by first | omega | (simp <;> omega))).trans f0; have f1_1 := (hc1 (w.heap.size) 1 (by first | omega | (simp <;> omega))).trans f1; have qa0_1 := (hc1 (ga) 0 (by first | omega | (simp <;> omega))).trans qa0; have qa1_1 := (hc1 (ga) 1 (by first | omega | (simp <;> omega))).trans qa1; have qb0_1 := (hc1 (gb) 0 (by first | omega | (simp <;> omega))).trans qb0; have qb1_1 := (hc1 (gb) 1 (by first | omega | (simp <;> omega))).trans qb1; have hs1 : w.heap.size < w1.heap.size := (by omega); clear hc1 hf1))
              go_roundw
              case rel => exact ⟨k + 1, by omega, by go_num, by rw [HS.out, HC.out, Int.add_zero], fun j hj => (Nat.lt_succ_iff_lt_or_eq.1 hj).elim (u0.out j) (fun e => by subst e; rw [HPA.out, HPB.out]; exact HON.out), by (repeat' (first | exact Below.refl _ _ | assumption | refine below_new ?_ _ | refine below_draw ?_ | refine below_tail (by assumption) ?_ | refine below_set ?_ (by first | omega | (simp <;> omega)) _)), by omega, f0_1, f1_1⟩
              case measure => simp [intOf]; omega
          · by_cases hc2 : pb.2 ≤ pt.2
            · skip
              have d1 : decide (pa.2 ≤ pt.2) = false := decide_eq_false hc1
              have d2 : decide (pt.2 < pa.2) = true := decide_eq_true (by omega)
              have d3 : decide (pb.2 ≤ pt.2) = true := decide_eq_true hc2
              obtain ⟨t, ht⟩ : ∃ t, turn pa pb pt = t := ⟨_, rfl⟩
              have HT := Lib.hid ht
              clear ht
              by_cases hc3 : t < 0
              · skip
                have d4 := decide_eq_true hc3
                have HC : Hid (cr pt pa pb = (-1)) := by
                  unfold Hid cr
                  rw [HT.out, if_neg (by omega), if_pos (by omega)]
                go_wp2_with (first | (go_at_call 102; (with_reducible refine (ron_is _ hpt HA HB HON.out).use ?_); intro w1 hb1 hz1 hc1 hf1; have f0_1 := (hc1 (w.heap.size) 0 (by first | omega | (simp <;> omega))).trans f0; have f1_1 := (hc1 (w.heap.size) 1 (by first | omega | (simp <;> omega))).trans f1; have qa0_1 := (hc1 (ga) 0 (by first | omega | (simp <;> omega))).trans qa0; have qa1_1 := (hc1 (ga) 1 (by first | omega | (simp <;> omega))).trans qa1; have qb0_1 := (hc1 (gb) 0 (by first | omega | (simp <;> omega))).trans qb0; have qb1_1 := (hc1 (gb) 1 (by first | omega | (simp <;> omega))).trans qb1; have hs1 : w.heap.size < w1.heap.size := (by omega); clear hc1 hf1) | (go_at_call 89; (with_reducible refine (rturn_is _ HA HB hpt HT.out).use ?_); intro w2 hb2 hz2 hc2 hf2; have f0_2 := (hc2 (w.heap.size) 0 (by first | omega | (simp <;> omega))).trans f0_1; have f1_2 := (hc2 (w.heap.size) 1 (by first | omega | (simp <;> omega))).trans f1_1; have qa0_2 := (hc2 (ga) 0 (by first | omega | (simp <;> omega))).trans qa0_1; have qa1_2 := (hc2 (ga) 1 (by first | omega | (simp <;> omega))).trans qa1_1; have qb0_2 := (hc2 (gb) 0 (by first | omega | (simp <;> omega))).trans qb0_1; have qb1_2 := (hc2 (gb) 1 (by first | omega | (simp <;> omega))).trans qb1_1; have hs2 : w.heap.size < w2.heap.size := (by omega); clear hc2 hf2))
                go_roundw
                case rel => exact ⟨k + 1, by omega, by go_num, by rw [HS.out, HC.out]; simp [Int.sub_eq_add_neg], fun j hj => (Nat.lt_succ_iff_lt_or_eq.1 hj).elim (u0.out j) (fun e => by subst e; rw [HPA.out, HPB.out]; exact HON.out), by (repeat' (first | exact Below.refl _ _ | assumption | refine below_new ?_ _ | refine below_draw ?_ | refine below_tail (by assumption) ?_ | refine below_set ?_ (by first | omega | (simp <;> omega)) _)), by omega, f0_2, f1_2⟩
                case measure => simp [intOf]; omega
              · skip
                have d4 := decide_eq_false hc3
                have HC : Hid (cr pt pa pb = 0) := by
                  unfold Hid cr
                  rw [HT.out, if_neg (by omega), if_neg (by omega)]
                go_wp2_with (first | (go_at_call 102; (with_reducible refine (ron_is _ hpt HA HB HON.out).use ?_); intro w1 hb1 hz1 hc1 hf1; have f0_1 := (hc1 (w.heap.size) 0 (by first | omega | (simp <;> omega))).trans f0; have f1_1 := (hc1 (w.heap.size) 1 (by first | omega | (simp <;> omega))).trans f1; have qa0_1 := (hc1 (ga) 0 (by first | omega | (simp <;> omega))).trans qa0; have qa1_1 := (hc1 (ga) 1 (by first | omega | (simp <;> omega))).trans qa1; have qb0_1 := (hc1 (gb) 0 (by first | omega | (simp <;> omega))).trans qb0; have qb1_1 := (hc1 (gb) 1 (by first | omega | (simp <;> omega))).trans qb1; have hs1 : w.heap.size < w1.heap.size := (by omega); clear hc1 hf1) | (go_at_call 89; (with_reducible refine (rturn_is _ HA HB hpt HT.out).use ?_); intro w2 hb2 hz2 hc2 hf2; have f0_2 := (hc2 (w.heap.size) 0 (by first | omega | (simp <;> omega))).trans f0_1; have f1_2 := (hc2 (w.heap.size) 1 (by first | omega | (simp <;> omega))).trans f1_1; have qa0_2 := (hc2 (ga) 0 (by first | omega | (simp <;> omega))).trans qa0_1; have qa1_2 := (hc2 (ga) 1 (by first | omega | (simp <;> omega))).trans qa1_1; have qb0_2 := (hc2 (gb) 0 (by first | omega | (simp <;> omega))).trans qb0_1; have qb1_2 := (hc2 (gb) 1 (by first | omega | (simp <;> omega))).trans qb1_1; have hs2 : w.heap.size < w2.heap.size := (by omega); clear hc2 hf2))
                go_roundw
                case rel => exact ⟨k + 1, by omega, by go_num, by rw [HS.out, HC.out, Int.add_zero], fun j hj => (Nat.lt_succ_iff_lt_or_eq.1 hj).elim (u0.out j) (fun e => by subst e; rw [HPA.out, HPB.out]; exact HON.out), by (repeat' (first | exact Below.refl _ _ | assumption | refine below_new ?_ _ | refine below_draw ?_ | refine below_tail (by assumption) ?_ | refine below_set ?_ (by first | omega | (simp <;> omega)) _)), by omega, f0_2, f1_2⟩
                case measure => simp [intOf]; omega
            · skip
              have d1 : decide (pa.2 ≤ pt.2) = false := decide_eq_false hc1
              have d2 : decide (pt.2 < pa.2) = true := decide_eq_true (by omega)
              have d3 : decide (pb.2 ≤ pt.2) = false := decide_eq_false hc2
              have HC : Hid (cr pt pa pb = 0) := by
                unfold Hid cr
                rw [if_neg (by omega), if_neg (by omega)]
              go_wp2_with (first | (go_at_call 102; (with_reducible refine (ron_is _ hpt HA HB HON.out).use ?_); intro w1 hb1 hz1 hc1 hf1; have f0_1 := (hc1 (w.heap.size) 0 (by first | omega | (simp <;> omega))).trans f0; have f1_1 := (hc1 (w.heap.size) 1 (by first | omega | (simp <;> omega))).trans f1; have qa0_1 := (hc1 (ga) 0 (by first | omega | (simp <;> omega))).trans qa0; have qa1_1 := (hc1 (ga) 1 (by first | omega | (simp <;> omega))).trans qa1; have qb0_1 := (hc1 (gb) 0 (by first | omega | (simp <;> omega))).trans qb0; have qb1_1 := (hc1 (gb) 1 (by first | omega | (simp <;> omega))).trans qb1; have hs1 : w.heap.size < w1.heap.size := (by omega); clear hc1 hf1))
              go_roundw
              case rel => exact ⟨k + 1, by omega, by go_num, by rw [HS.out, HC.out, Int.add_zero], fun j hj => (Nat.lt_succ_iff_lt_or_eq.1 hj).elim (u0.out j) (fun e => by subst e; rw [HPA.out, HPB.out]; exact HON.out), by (repeat' (first | exact Below.refl _ _ | assumption | refine below_new ?_ _ | refine below_draw ?_ | refine below_tail (by assumption) ?_ | refine below_set ?_ (by first | omega | (simp <;> omega)) _)), by omega, f0_1, f1_1⟩
              case measure => simp [intOf]; omega
    · obtain rfl : k = l.length := by omega
      have hno : onAny l pt = false := anyN_false u0.out
      have HNO := Lib.hid hno
      clear hno u0
      have HRV := Lib.hid hrv
      clear hrv
      by_cases hr0 : rv = 0
      · subst hr0
        go_wp2
        go_ret
        exact ⟨ret_int (by rw [HW.out, if_neg (by rw [HNO.out]; simp), if_pos HRV.out]), hB⟩
      · have h1 : (rv != 0) = true := by simpa using hr0
        have h2 : (rv == 0) = false := by simpa using hr0
        have HR0 := Lib.hid hr0
        go_wp2
        go_ret
        exact ⟨ret_int (by rw [HW.out, if_neg (by rw [HNO.out]; simp), HRV.out, if_neg HR0.out]), hB⟩

end Go.Proofs.Ythiemglckmociaa
