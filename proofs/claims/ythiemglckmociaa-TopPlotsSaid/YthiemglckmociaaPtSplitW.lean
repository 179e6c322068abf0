/- What splits of package plot gives. Conditions: the list lies in memory as said and is a plot; the corners are there. -/
import Derived.Test.YthiemglckmociaaPtCutA
import Derived.Test.YthiemglckmociaaPtKnown
import Derived.Test.YthiemglckmociaaPtRev
import Derived.Laws.OwnMore
import Derived.BigRegionIn
import Derived.Deep.RegionHeld3
namespace Go.Proofs.Ythiemglckmociaa
open Go.RowKit Go.Shelf
attribute [local go_sem] Oper.semAt_some wide_fn
attribute [local go_sem high] eql_pt eqg_pt

def SplitI (pi pj : Int × Int) (b o n0 cap i j : Nat) (y : World) (v0 v1 v2 v3 v4 v5 v6 v7 v9 v10 v11 v12 v13 v14 v15 v16 v17 v18 v19 v20 v21 v22 v23 v24 v25 v26 v27 v28 v29 v30 v31 v32 v33 v34 v35 v45 v46 v47 v48 v49 v50 v51 v52 v53 v54 v55 v56 v57 v58 v59 v60 v61 v62 v63 v64 v65 v66 v67 v68 v69 v70 v71 v72 v73 v74 v75 v76 v77 v78 v79 v80 v81 v82 v83 v84 v85 v86 v87 v88 v89 v90 v91 v92 v93 v94 v95 v96 v97 v98 v99 v100 v101 v102 v103 v104 v105 v106 v107 v108 v109 v110 v111 v112 v113 v114 v115 v116 v117 v118 v119 v120 v121 v122 v123 v124 v125 v126 v127 v128 v129 v130 v131 v132 v133 v134 v135 v136 v137 v138 v139 v140 v141 v142 v143 v144 v145 v146 v147 v148 v149 v150 v151 v152 : Value) (d : Nat → Bool) (a : Act) (x : World) : Prop :=
  ∃ u8 u36 u37 u38 u39 u40 u41 u42 u43 u44 : Value, a = ⟨#[v0, v1, v2, v3, v4, v5, v6, v7, u8, v9, v10, v11, v12, v13, v14, v15, v16, v17, v18, v19, v20, v21, v22, v23, v24, v25, v26, v27, v28, v29, v30, v31, v32, v33, v34, v35, u36, u37, u38, u39, u40, u41, u42, u43, u44, v45, v46, v47, v48, v49, v50, v51, v52, v53, v54, v55, v56, v57, v58, v59, v60, v61, v62, v63, v64, v65, v66, v67, v68, v69, v70, v71, v72, v73, v74, v75, v76, v77, v78, v79, v80, v81, v82, v83, v84, v85, v86, v87, v88, v89, v90, v91, v92, v93, v94, v95, v96, v97, v98, v99, v100, v101, v102, v103, v104, v105, v106, v107, v108, v109, v110, v111, v112, v113, v114, v115, v116, v117, v118, v119, v120, v121, v122, v123, v124, v125, v126, v127, v128, v129, v130, v131, v132, v133, v134, v135, v136, v137, v138, v139, v140, v141, v142, v143, v144, v145, v146, v147, v148, v149, v150, v151, v152], []⟩ ∧
    (Below y.heap.size y x) ∧
    (d 0 = true → u36 = .slice (some ⟨b, o, none⟩) n0 cap) ∧
    (d 1 = true → u37 = .int .i64 (i : Nat)) ∧
    (d 2 = true → u38 = .pointer (some ⟨b, o + i * 2, none⟩)) ∧
    (d 3 = true → u39 = .agg #[.int .i64 pi.1, .int .i64 pi.2]) ∧
    (d 4 = true → u40 = .slice (some ⟨b, o, none⟩) n0 cap) ∧
    (d 5 = true → u41 = .int .i64 (j : Nat)) ∧
    (d 6 = true → u42 = .pointer (some ⟨b, o + j * 2, none⟩)) ∧
    (d 7 = true → u43 = .agg #[.int .i64 pj.1, .int .i64 pj.2]) ∧
    (d 8 = true → u44 = .agg #[.int .i64 pi.1, .int .i64 pi.2, .int .i64 pj.1, .int .i64 pj.2]) ∧
    (d 10 = true → d 9 = true) ∧
    (d 9 = true → ∃ (g : Nat) (cs : Nat → Value), u8 = .pointer (some ⟨g, 0, none⟩) ∧ y.heap.size ≤ g ∧ x.heap[g]? = some (.cells #[cs 0, cs 1, cs 2, cs 3] 56 (0, 0)) ∧ (d 10 = true → cs 0 = .int .i64 pi.1 ∧ cs 1 = .int .i64 pi.2 ∧ cs 2 = .int .i64 pj.1 ∧ cs 3 = .int .i64 pj.2))
/-- What lies where in a round. -/
structure SpIn (w W : World) (M M1 N1 N2 N3 g10 G b o n cap i j : Nat) (pi pj pa pb far : Int × Int) : Prop where
  hB : Below w.heap.size w W
  f0 : W.cell? ⟨M1, 0, none⟩ = some (.slice (some ⟨b, o, none⟩) n cap)
  f1 : W.cell? ⟨M, 0, none⟩ = some (.int .i64 pi.1)
  f2 : W.cell? ⟨M, 1, none⟩ = some (.int .i64 pi.2)
  f3 : W.cell? ⟨M, 2, none⟩ = some (.int .i64 pj.1)
  f4 : W.cell? ⟨M, 3, none⟩ = some (.int .i64 pj.2)
  f5 : W.cell? ⟨w.heap.size, 0, none⟩ = some (.slice (some ⟨b, o, none⟩) n cap)
  f6 : W.cell? ⟨N1, 0, none⟩ = some (.int .i64 i)
  f7 : W.cell? ⟨N2, 0, none⟩ = some (.int .i64 j)
  f8 : W.cell? ⟨N3, 0, none⟩ = some (.bool false)
  z0 : W.frozen? ⟨N3, 0, none⟩ = false
  c0 : W.cell? ⟨g10, 0, none⟩ = some (.int .i64 pa.1)
  c1 : W.cell? ⟨g10, 1, none⟩ = some (.int .i64 pa.2)
  c2 : W.cell? ⟨g10, 2, none⟩ = some (.int .i64 pb.1)
  c3 : W.cell? ⟨g10, 3, none⟩ = some (.int .i64 pb.2)
  p0 : W.cell? ⟨b, o + i * 2, none⟩ = some (.int .i64 pi.1)
  p1 : W.cell? ⟨b, o + i * 2 + 1, none⟩ = some (.int .i64 pi.2)
  p2 : W.cell? ⟨b, o + j * 2, none⟩ = some (.int .i64 pj.1)
  p3 : W.cell? ⟨b, o + j * 2 + 1, none⟩ = some (.int .i64 pj.2)
  d0 : W.cell? ⟨G, 0, none⟩ = some (.int .i64 far.1)
  d1 : W.cell? ⟨G, 1, none⟩ = some (.int .i64 far.2)
  y0 : W.frozen? ⟨G, 0, none⟩ = false
  y1 : W.frozen? ⟨G, 1, none⟩ = false
theorem SpIn.below {w W W' : World} {M M1 N1 N2 N3 g10 G b o n cap i j : Nat} {pi pj pa pb far : Int × Int} (h : SpIn w W M M1 N1 N2 N3 g10 G b o n cap i j pi pj pa pb far) (hb : Below W.heap.size W W') : SpIn w W' M M1 N1 N2 N3 g10 G b o n cap i j pi pj pa pb far := by
  have key : ∀ (p q : Nat) (v : Value), W.cell? ⟨p, q, none⟩ = some v → W'.cell? ⟨p, q, none⟩ = some v := fun p q v e => (hb.cell (p := ⟨p, q, none⟩) (block_lt_of_cell e)).trans e
  have keyz : ∀ (p q : Nat) (v : Value), W.cell? ⟨p, q, none⟩ = some v → W.frozen? ⟨p, q, none⟩ = false → W'.frozen? ⟨p, q, none⟩ = false := fun p q v e z => (hb.frozen (p := ⟨p, q, none⟩) (block_lt_of_cell e)).trans z
  exact ⟨below_tail hb h.hB, key _ _ _ h.f0, key _ _ _ h.f1, key _ _ _ h.f2, key _ _ _ h.f3, key _ _ _ h.f4, key _ _ _ h.f5, key _ _ _ h.f6, key _ _ _ h.f7, key _ _ _ h.f8, keyz _ _ _ h.f8 h.z0, key _ _ _ h.c0, key _ _ _ h.c1, key _ _ _ h.c2, key _ _ _ h.c3,
    key _ _ _ h.p0, key _ _ _ h.p1, key _ _ _ h.p2, key _ _ _ h.p3, key _ _ _ h.d0, key _ _ _ h.d1, keyz _ _ _ h.d0 h.y0, keyz _ _ _ h.d1 h.y1⟩
theorem SpIn.far {w W : World} {M M1 N1 N2 N3 g10 G b o n cap i j : Nat} {pi pj pa pb far : Int × Int} (h : SpIn w W M M1 N1 N2 N3 g10 G b o n cap i j pi pj pa pb far) (x : Int × Int)
    (hw : w.heap.size < N1 ∧ N1 < N2 ∧ N2 < N3 ∧ N3 < M ∧ M < M1 ∧ M1 < g10 ∧ g10 < G ∧ b < w.heap.size) : SpIn w ((W.setCell ⟨G, 0, none⟩ (.int .i64 x.1)).setCell ⟨G, 1, none⟩ (.int .i64 x.2)) M M1 N1 N2 N3 g10 G b o n cap i j pi pj pa pb x := by
  obtain ⟨h1, h2, h3, h4, h5, h6, h7, h8⟩ := hw
  exact ⟨below_set (below_set h.hB (by dsimp only; omega) _) (by dsimp only; omega) _, (put2_far (by omega)).trans h.f0, (put2_far (by omega)).trans h.f1, (put2_far (by omega)).trans h.f2, (put2_far (by omega)).trans h.f3, (put2_far (by omega)).trans h.f4, (put2_far (by omega)).trans h.f5, (put2_far (by omega)).trans h.f6, (put2_far (by omega)).trans h.f7, (put2_far (by omega)).trans h.f8, put2_fr.trans h.z0,
    (put2_far (by omega)).trans h.c0, (put2_far (by omega)).trans h.c1, (put2_far (by omega)).trans h.c2, (put2_far (by omega)).trans h.c3, (put2_far (by omega)).trans h.p0, (put2_far (by omega)).trans h.p1, (put2_far (by omega)).trans h.p2, (put2_far (by omega)).trans h.p3, put2_0 h.d0, put2_1 h.d1, put2_fr.trans h.y0, put2_fr.trans h.y1⟩
set_option maxHeartbeats 4000000 in
set_option maxRecDepth 100000 in
theorem splits_no (v : Value) (l : List (Int × Int)) (i j : Nat) (w : World) (h : PairsAt w v l) (hv : Valid l) (hi : i < l.length) (hj : j < l.length) (hnn : nextTo l.length i j = false) :
    Gives Try.prog 86 #[v, .int .i64 i, .int .i64 j] w (.bool (splitB l i j)) := by
  have HP := Lib.hid h
  have HV := Lib.hid hv
  have h3 := hv.lo
  have h10 := hv.hi
  obtain ⟨sa, cap, rfl, hlc, hcm, -⟩ := h
  obtain ⟨b, o, rfl, hBb, ci1, ci2⟩ := HP.out.cellAt hi
  obtain ⟨b', o', he, _, cj1, cj2⟩ := HP.out.cellAt hj
  cases he
  have hn := hnn
  simp only [nextTo, Bool.or_eq_false_iff] at hn
  obtain ⟨⟨n1, n2⟩, n3⟩ := hn
  obtain ⟨ni, hni⟩ : ∃ m : Nat, (i + 1) % l.length = m := ⟨_, rfl⟩
  obtain ⟨nj, hnj⟩ : ∃ m : Nat, (j + 1) % l.length = m := ⟨_, rfl⟩
  rw [hni] at n2
  rw [hnj] at n3
  have n1' : i ≠ j := by simpa using n1
  have n2' : ni ≠ j := by simpa using n2
  have n3' : nj ≠ i := by simpa using n3
  have x1 : ((i : Int) == (j : Int)) = false := by simp; omega
  have x2 : ((ni : Int) == (j : Int)) = false := by simp; omega
  have x3 : ((nj : Int) == (i : Int)) = false := by simp; omega
  have r1 : ((i : Int) + 1).tmod (l.length : Int) = (ni : Int) := by
    rw [Int.tmod_eq_emod_of_nonneg (by omega), ← hni, Int.natCast_emod]; rfl
  have r2 : ((j : Int) + 1).tmod (l.length : Int) = (nj : Int) := by
    rw [Int.tmod_eq_emod_of_nonneg (by omega), ← hnj, Int.natCast_emod]; rfl
  have hl0 : ¬ l = [] := fun e => by rw [e] at h3; simp at h3
  have hw1 : IntKind.i64.wrap ((i : Int) + 1) = (i : Int) + 1 := IntWalk.i64_in _ (by omega)
  have hw2 : IntKind.i64.wrap ((j : Int) + 1) = (j : Int) + 1 := IntWalk.i64_in _ (by omega)
  have HNB : Hid (nextTo l.length i j = false) := hnn
  clear hv n1 n2 n3 hni hnj n1' n2' n3' hnn
  have HBD : Hid (∀ q, bdP (cor l q)) := HV.out.bd
  have HI : bdP (gi l (0, 0) i) := by rw [← cor_lt hi]; exact HBD.out i
  have HJ : bdP (gi l (0, 0) j) := by rw [← cor_lt hj]; exact HBD.out j
  unfold Gives
  refine (callsIn_wide (n := 9)).1 ?_
  refine callsIn_of_wp_marks Try.func86 rfl trivial ?_ rfl
  simp only [Try.ntmps86, List.size_toArray, List.length_cons, List.length_nil, Nat.reduceAdd, Nat.reduceSub, Array.replicate_succ, Array.replicate_zero, List.push_toArray, List.append_toArray, List.nil_append, List.cons_append]
  gi_wp2
  gi_big_region
  gi_wp2
  obtain ⟨W1, hW1⟩ : ∃ W1, ((((w.alloc (.cells #[.slice (some ⟨b, o, none⟩) l.length cap] 22)).alloc (.cells #[.int .i64 i] 3)).alloc (.cells #[.int .i64 j] 3)).alloc (.cells #[.bool false] 4)).drew = W1 := ⟨_, rfl⟩
  rw [hW1]
  have hB1 : Below w.heap.size w W1 := by rw [← hW1]; (repeat' (first | exact Below.refl _ _ | assumption | refine below_new ?_ _ | refine below_draw ?_ | refine below_tail (by assumption) ?_ | refine below_set ?_ (by first | omega | (simp <;> omega)) _))
  have hz1 : W1.heap.size = w.heap.size + 4 := by rw [← hW1]; simp [go_sem]
  have e0 : W1.cell? ⟨w.heap.size, 0, none⟩ = some (.slice (some ⟨b, o, none⟩) l.length cap) := by rw [← hW1]; simp [go_sem]
  have e1 : W1.cell? ⟨w.heap.size + 1, 0, none⟩ = some (.int .i64 i) := by rw [← hW1]; simp [go_sem]
  have e2 : W1.cell? ⟨w.heap.size + 1 + 1, 0, none⟩ = some (.int .i64 j) := by rw [← hW1]; simp [go_sem]
  have e3 : W1.cell? ⟨w.heap.size + 1 + 1 + 1, 0, none⟩ = some (.bool false) := by rw [← hW1]; simp [go_sem]
  have e4 : W1.frozen? ⟨w.heap.size + 1 + 1 + 1, 0, none⟩ = false := by rw [← hW1]; simp [go_sem]
  clear hW1
  have di1 := (hB1.cell (p := ⟨b, o + i * 2, none⟩) hBb).trans ci1
  have di2 := (hB1.cell (p := ⟨b, o + i * 2 + 1, none⟩) hBb).trans ci2
  have dj1 := (hB1.cell (p := ⟨b, o + j * 2, none⟩) hBb).trans cj1
  have dj2 := (hB1.cell (p := ⟨b, o + j * 2 + 1, none⟩) hBb).trans cj2
  generalize hN1 : w.heap.size + 1 = N1 at *
  generalize hN2 : N1 + 1 = N2 at *
  generalize hN3 : N2 + 1 = N3 at *
  have hNN : w.heap.size < N1 ∧ N1 < N2 ∧ N2 < N3 ∧ N3 < W1.heap.size := by omega
  obtain ⟨hN12, hN23, hN34, hN4⟩ := hNN
  have HZ1 := Lib.hid hz1
  have HN := Lib.hid (And.intro hN1 (And.intro hN2 hN3))
  clear hz1 hN1 hN2 hN3
  have hbn : ¬ b = W1.heap.size := by omega
  have hn0 : ¬ w.heap.size = W1.heap.size := by omega
  have hn1 : ¬ N1 = W1.heap.size := by omega
  have hn2 : ¬ N2 = W1.heap.size := by omega
  generalize hpi : gi l (0, 0) i = pi at *
  generalize hpj : gi l (0, 0) j = pj at *
  have HPI : Hid (cor l i = pi) := (cor_lt hi).trans hpi
  have HPJ : Hid (cor l j = pj) := (cor_lt hj).trans hpj
  clear hpi hpj
  have hv0 : w.heap.size < W1.heap.size := by omega
  have hv1 : N1 < W1.heap.size := by omega
  have hv2 : N2 < W1.heap.size := by omega
  have hv4 : b < W1.heap.size := by omega
  refine wpIn_wide.2 ?_
  refine wp_region_inv mixed (by kernel_rfl) (SplitI pi pj b o l.length cap i j W1 (.slice (some ⟨b, o, none⟩) l.length cap) (.int .i64 i) (.int .i64 j) (.pointer (some ⟨w.heap.size, 0, none⟩)) (.pointer (some ⟨N1, 0, none⟩)) (.pointer (some ⟨N2, 0, none⟩)) (.pointer (some ⟨N3, 0, none⟩)) (.int .i64 l.length) undef undef undef undef undef undef (.slice (some ⟨b, o, none⟩) l.length cap) (.int .i64 l.length) (.int .i64 i) (.int .i64 j) (.bool false) (.bool false) (.int .i64 i) (.int .i64 ((i : Int) + 1)) (.int .i64 l.length) (.int .i64 ni) (.int .i64 j) (.bool false) (.bool false) (.bool false) (.int .i64 j) (.int .i64 ((j : Int) + 1)) (.int .i64 l.length) (.int .i64 nj) (.int .i64 i) (.bool false) (.bool false) undef undef undef undef undef undef undef undef undef undef undef undef undef undef undef undef undef undef undef undef undef undef undef undef undef undef undef undef undef undef undef undef undef undef undef undef undef undef undef undef undef undef undef undef undef undef undef undef undef undef undef undef undef undef undef undef undef undef undef undef undef undef undef undef undef undef undef undef undef undef undef undef undef undef undef undef undef undef undef undef undef undef undef undef undef undef undef undef undef undef undef undef undef undef undef undef undef undef undef undef undef undef undef undef undef undef undef undef) ?h0 ?hstep ?hend
  case h0 =>
    unfold SplitI
    exact ⟨_, _, _, _, _, _, _, _, _, _, rfl, below_draw (Below.refl _ _), fun h => no_false h.symm, fun h => no_false h.symm, fun h => no_false h.symm, fun h => no_false h.symm, fun h => no_false h.symm, fun h => no_false h.symm, fun h => no_false h.symm, fun h => no_false h.symm, fun h => no_false h.symm, fun h => no_false h.symm, fun h => no_false h.symm⟩
  case hstep =>
    intro d a x hI i hi hdi hed
    unfold SplitI at hI
    obtain ⟨u8, u36, u37, u38, u39, u40, u41, u42, u43, u44, rfl, fb, f0, f1, f2, f3, f4, f5, f6, f7, f8, fc0, fx0⟩ := hI
    have hi' : i < 11 := hi
    clear hi
    rcases (show i = 0 ∨ i = 1 ∨ i = 2 ∨ i = 3 ∨ i = 4 ∨ i = 5 ∨ i = 6 ∨ i = 7 ∨ i = 8 ∨ i = 9 ∨ i = 10 by omega) with rfl | rfl | rfl | rfl | rfl | rfl | rfl | rfl | rfl | rfl | rfl
    · as_aux_lemma =>
      clear hed
      have k0 : x.cell? ⟨w.heap.size, 0, none⟩ = some (.slice (some ⟨b, o, none⟩) l.length cap) := (fb.cell (p := ⟨w.heap.size, 0, none⟩) hv0).trans e0
      refine wpOp_step rfl (fun K hK => ?_)
      go_simp
      (try (refine hK _ _ ?_; clear hK K))
      unfold SplitI
      refine ⟨_, _, _, _, _, _, _, _, _, _, rfl, ?_⟩
      exact ⟨fb,
        (by first | exact fun _ => rfl | exact f0),
        f1,
        f2,
        f3,
        f4,
        f5,
        f6,
        f7,
        f8,
        fc0,
        fx0⟩
    · as_aux_lemma =>
      clear hed
      have k0 : x.cell? ⟨N1, 0, none⟩ = some (.int .i64 i) := (fb.cell (p := ⟨N1, 0, none⟩) hv1).trans e1
      refine wpOp_step rfl (fun K hK => ?_)
      go_simp
      (try (refine hK _ _ ?_; clear hK K))
      unfold SplitI
      refine ⟨_, _, _, _, _, _, _, _, _, _, rfl, ?_⟩
      exact ⟨fb,
        f0,
        (by first | exact fun _ => rfl | exact f1),
        f2,
        f3,
        f4,
        f5,
        f6,
        f7,
        f8,
        fc0,
        fx0⟩
    · as_aux_lemma =>
      have e0 : d 0 = true := done_of hed (by kernel_rfl)
      have e1 : d 1 = true := done_of hed (by kernel_rfl)
      clear hed
      have g0 := f0 e0
      subst g0
      have g1 := f1 e1
      subst g1
      refine wpOp_step rfl (fun K hK => ?_)
      go_simp
      (try (refine hK _ _ ?_; clear hK K))
      unfold SplitI
      refine ⟨_, _, _, _, _, _, _, _, _, _, rfl, ?_⟩
      exact ⟨fb,
        (by first | exact fun _ => rfl | exact f0),
        (by first | exact fun _ => rfl | exact f1),
        (by first | exact fun _ => rfl | exact f2),
        f3,
        f4,
        f5,
        f6,
        f7,
        f8,
        fc0,
        fx0⟩
    · as_aux_lemma =>
      have e2 : d 2 = true := done_of hed (by kernel_rfl)
      clear hed
      have g2 := f2 e2
      subst g2
      have k0 : x.cell? ⟨b, o + i * 2, none⟩ = some (.int .i64 pi.1) := (fb.cell (p := ⟨b, o + i * 2, none⟩) hv4).trans di1
      have k1 : x.cell? ⟨b, o + i * 2 + 1, none⟩ = some (.int .i64 pi.2) := (fb.cell (p := ⟨b, o + i * 2 + 1, none⟩) hv4).trans di2
      refine wpOp_step rfl (fun K hK => ?_)
      go_simp
      (try (refine hK _ _ ?_; clear hK K))
      unfold SplitI
      refine ⟨_, _, _, _, _, _, _, _, _, _, rfl, ?_⟩
      exact ⟨fb,
        f0,
        f1,
        (by first | exact fun _ => rfl | exact f2),
        (by first | exact fun _ => rfl | exact f3),
        f4,
        f5,
        f6,
        f7,
        f8,
        fc0,
        fx0⟩
    · as_aux_lemma =>
      clear hed
      have k0 : x.cell? ⟨w.heap.size, 0, none⟩ = some (.slice (some ⟨b, o, none⟩) l.length cap) := (fb.cell (p := ⟨w.heap.size, 0, none⟩) hv0).trans e0
      refine wpOp_step rfl (fun K hK => ?_)
      go_simp
      (try (refine hK _ _ ?_; clear hK K))
      unfold SplitI
      refine ⟨_, _, _, _, _, _, _, _, _, _, rfl, ?_⟩
      exact ⟨fb,
        f0,
        f1,
        f2,
        f3,
        (by first | exact fun _ => rfl | exact f4),
        f5,
        f6,
        f7,
        f8,
        fc0,
        fx0⟩
    · as_aux_lemma =>
      clear hed
      have k0 : x.cell? ⟨N2, 0, none⟩ = some (.int .i64 j) := (fb.cell (p := ⟨N2, 0, none⟩) hv2).trans e2
      refine wpOp_step rfl (fun K hK => ?_)
      go_simp
      (try (refine hK _ _ ?_; clear hK K))
      unfold SplitI
      refine ⟨_, _, _, _, _, _, _, _, _, _, rfl, ?_⟩
      exact ⟨fb,
        f0,
        f1,
        f2,
        f3,
        f4,
        (by first | exact fun _ => rfl | exact f5),
        f6,
        f7,
        f8,
        fc0,
        fx0⟩
    · as_aux_lemma =>
      have e4 : d 4 = true := done_of hed (by kernel_rfl)
      have e5 : d 5 = true := done_of hed (by kernel_rfl)
      clear hed
      have g4 := f4 e4
      subst g4
      have g5 := f5 e5
      subst g5
      refine wpOp_step rfl (fun K hK => ?_)
      go_simp
      (try (refine hK _ _ ?_; clear hK K))
      unfold SplitI
      refine ⟨_, _, _, _, _, _, _, _, _, _, rfl, ?_⟩
      exact ⟨fb,
        f0,
        f1,
        f2,
        f3,
        (by first | exact fun _ => rfl | exact f4),
        (by first | exact fun _ => rfl | exact f5),
        (by first | exact fun _ => rfl | exact f6),
        f7,
        f8,
        fc0,
        fx0⟩
    · as_aux_lemma =>
      have e6 : d 6 = true := done_of hed (by kernel_rfl)
      clear hed
      have g6 := f6 e6
      subst g6
      have k0 : x.cell? ⟨b, o + j * 2, none⟩ = some (.int .i64 pj.1) := (fb.cell (p := ⟨b, o + j * 2, none⟩) hv4).trans dj1
      have k1 : x.cell? ⟨b, o + j * 2 + 1, none⟩ = some (.int .i64 pj.2) := (fb.cell (p := ⟨b, o + j * 2 + 1, none⟩) hv4).trans dj2
      refine wpOp_step rfl (fun K hK => ?_)
      go_simp
      (try (refine hK _ _ ?_; clear hK K))
      unfold SplitI
      refine ⟨_, _, _, _, _, _, _, _, _, _, rfl, ?_⟩
      exact ⟨fb,
        f0,
        f1,
        f2,
        f3,
        f4,
        f5,
        (by first | exact fun _ => rfl | exact f6),
        (by first | exact fun _ => rfl | exact f7),
        f8,
        fc0,
        fx0⟩
    · as_aux_lemma =>
      have e3 : d 3 = true := done_of hed (by kernel_rfl)
      have e7 : d 7 = true := done_of hed (by kernel_rfl)
      clear hed
      have g3 := f3 e3
      subst g3
      have g7 := f7 e7
      subst g7
      refine wpOp_step rfl (fun K hK => ?_)
      go_simp
      (try (refine hK _ _ ?_; clear hK K))
      unfold SplitI
      refine ⟨_, _, _, _, _, _, _, _, _, _, rfl, ?_⟩
      exact ⟨fb,
        f0,
        f1,
        f2,
        (by first | exact fun _ => rfl | exact f3),
        f4,
        f5,
        f6,
        (by first | exact fun _ => rfl | exact f7),
        (by first | exact fun _ => rfl | exact f8),
        fc0,
        fx0⟩
    · as_aux_lemma =>
      clear hed
      have hb3 : Below x.heap.size x (x.alloc (.cells #[.int .i64 0, .int .i64 0, .int .i64 0, .int .i64 0] 56)) := (Below.refl _ _).alloc (Nat.le_refl _) _
      have hblk : Hid ((x.alloc (.cells #[.int .i64 0, .int .i64 0, .int .i64 0, .int .i64 0] 56)).heap[x.heap.size]? = some (.cells #[.int .i64 0, .int .i64 0, .int .i64 0, .int .i64 0] 56 (0, 0))) := World.alloc_heap_new _ _
      refine wpOp_step rfl (fun K hK => ?_)
      go_simp
      replace hblk := hblk.out
      (try (refine hK _ _ ?_; clear hK K))
      unfold SplitI
      refine ⟨_, _, _, _, _, _, _, _, _, _, rfl, ?_⟩
      exact ⟨below_tail hb3 fb,
        f0,
        f1,
        f2,
        f3,
        f4,
        f5,
        f6,
        f7,
        f8,
        fun _ => rfl,
        fun _ => ⟨_, fun i => if i = 0 then .int .i64 0 else if i = 1 then .int .i64 0 else if i = 2 then .int .i64 0 else .int .i64 0, rfl, fb.size, hblk, fun h => not_both (fc0 h) hdi⟩⟩
    · as_aux_lemma =>
      have e8 : d 8 = true := done_of hed (by kernel_rfl)
      have e9 : d 9 = true := done_of hed (by kernel_rfl)
      clear hed
      have g8 := f8 e8
      subst g8
      obtain ⟨g, cs, e7, hg, hx, h13⟩ := fx0 e9
      subst e7
      have k0 := cell_of_block hx 0
      have l0 := frozen_of_block hx 0
      have k1 := cell_of_block hx 1
      have l1 := frozen_of_block hx 1
      have k2 := cell_of_block hx 2
      have l2 := frozen_of_block hx 2
      have k3 := cell_of_block hx 3
      have l3 := frozen_of_block hx 3
      simp at k0 k1 k2 k3
      have hgr : Hid (x.grownBy ((((x.setCell ⟨g, 0, none⟩ (.int .i64 pi.1)).setCell ⟨g, 1, none⟩ (.int .i64 pi.2)).setCell ⟨g, 2, none⟩ (.int .i64 pj.1)).setCell ⟨g, 3, none⟩ (.int .i64 pj.2)) (some g)) := (grown_trans (grown_trans (grown_trans (grown_set x ⟨g, 0, none⟩ (.int .i64 pi.1)) (grown_set (x.setCell ⟨g, 0, none⟩ (.int .i64 pi.1)) ⟨g, 1, none⟩ (.int .i64 pi.2))) (grown_set ((x.setCell ⟨g, 0, none⟩ (.int .i64 pi.1)).setCell ⟨g, 1, none⟩ (.int .i64 pi.2)) ⟨g, 2, none⟩ (.int .i64 pj.1))) (grown_set (((x.setCell ⟨g, 0, none⟩ (.int .i64 pi.1)).setCell ⟨g, 1, none⟩ (.int .i64 pi.2)).setCell ⟨g, 2, none⟩ (.int .i64 pj.1)) ⟨g, 3, none⟩ (.int .i64 pj.2)))
      have hblk : Hid (((((x.setCell ⟨g, 0, none⟩ (.int .i64 pi.1)).setCell ⟨g, 1, none⟩ (.int .i64 pi.2)).setCell ⟨g, 2, none⟩ (.int .i64 pj.1)).setCell ⟨g, 3, none⟩ (.int .i64 pj.2)).heap[g]? = some (.cells #[.int .i64 pi.1, .int .i64 pi.2, .int .i64 pj.1, .int .i64 pj.2] 56 (0, 0))) := (block_set (block_set (block_set (block_set hx 0 _) 1 _) 2 _) 3 _)
      have HX := Lib.hid hx
      clear hx
      refine wpOp_step rfl (fun K hK => ?_)
      go_simp
      replace hgr := hgr.out
      replace hblk := hblk.out
      (try (refine hK _ _ ?_; clear hK K))
      unfold SplitI
      refine ⟨_, _, _, _, _, _, _, _, _, _, rfl, ?_⟩
      exact ⟨below_grow fb hgr (fun k hk => by cases hk; exact hg),
        f0,
        f1,
        f2,
        f3,
        f4,
        f5,
        f6,
        f7,
        (by first | exact fun _ => rfl | exact f8),
        fun _ => e9,
        fun _ => ⟨g, fun i => if i = 0 then .int .i64 pi.1 else if i = 1 then .int .i64 pi.2 else if i = 2 then .int .i64 pj.1 else .int .i64 pj.2, rfl, hg, hblk, fun _ => ⟨rfl, rfl, rfl, rfl⟩⟩⟩
  case hend =>
    intro d a x hI hall
    unfold SplitI at hI
    obtain ⟨u8, u36, u37, u38, u39, u40, u41, u42, u43, u44, rfl, fb, f0, f1, f2, f3, f4, f5, f6, f7, f8, fc0, fx0⟩ := hI
    have hl0 := hall 0 (show 0 < 11 by omega)
    have hl1 := hall 1 (show 1 < 11 by omega)
    have hl2 := hall 2 (show 2 < 11 by omega)
    have hl3 := hall 3 (show 3 < 11 by omega)
    have hl4 := hall 4 (show 4 < 11 by omega)
    have hl5 := hall 5 (show 5 < 11 by omega)
    have hl6 := hall 6 (show 6 < 11 by omega)
    have hl7 := hall 7 (show 7 < 11 by omega)
    have hl8 := hall 8 (show 8 < 11 by omega)
    have hl9 := hall 9 (show 9 < 11 by omega)
    have hl10 := hall 10 (show 10 < 11 by omega)
    have g0 := f0 hl0
    subst g0
    have g1 := f1 hl1
    subst g1
    have g2 := f2 hl2
    subst g2
    have g3 := f3 hl3
    subst g3
    have g4 := f4 hl4
    subst g4
    have g5 := f5 hl5
    subst g5
    have g6 := f6 hl6
    subst g6
    have g7 := f7 hl7
    subst g7
    have g8 := f8 hl8
    subst g8
    obtain ⟨ga, cs, e7, hga, hxa, h13⟩ := fx0 hl9
    obtain ⟨ex0, ex1, ex2, ex3⟩ := h13 hl10
    rw [ex0, ex1, ex2, ex3] at hxa
    subst e7
    clear h13 ex0 ex1 ex2 ex3
    have hsza := (Array.getElem?_eq_some_iff.1 hxa).1
    have qa0 := cell_of_block hxa 0
    have qfa0 := frozen_of_block hxa 0
    have qa1 := cell_of_block hxa 1
    have qfa1 := frozen_of_block hxa 1
    have qa2 := cell_of_block hxa 2
    have qfa2 := frozen_of_block hxa 2
    have qa3 := cell_of_block hxa 3
    have qfa3 := frozen_of_block hxa 3
    simp at qa0 qa1 qa2 qa3
    clear hxa
    clear f0 f1 f2 f3 f4 f5 f6 f7 f8 fc0 fx0
    clear hall hl0 hl1 hl2 hl3 hl4 hl5 hl6 hl7 hl8 hl9 hl10
    dsimp only
    have e0x := (fb.cell (p := ⟨w.heap.size, 0, none⟩) hv0).trans e0
    gi_wp2_with (gi_at_call 56; refine (callsIn_wide.2 (sides_calls _ _ _ _)).mono ?_; rintro e w' ⟨rfl, rfl⟩)
    obtain ⟨M1, hM1⟩ : ∃ M1, x.heap.size = M1 := ⟨_, rfl⟩
    obtain ⟨W0, hW0⟩ : ∃ W0, (x.alloc (.cells #[.slice (some ⟨b, o, none⟩) l.length cap] 22)) = W0 := ⟨_, rfl⟩
    rw [hW0, hM1]
    have hb10 : Below x.heap.size x W0 := by rw [← hW0]; (repeat' (first | exact Below.refl _ _ | assumption | refine below_new ?_ _ | refine below_draw ?_ | refine below_tail (by assumption) ?_ | refine below_set ?_ (by first | omega | (simp <;> omega)) _))
    have hbx : Below W1.heap.size W1 W0 := below_tail hb10 fb
    have hB0 : Below w.heap.size w W0 := below_tail hbx hB1
    have hsz : W0.heap.size = M1 + 1 := by rw [← hW0, ← hM1]; simp [go_sem]
    have s0 : W0.cell? ⟨M1, 0, none⟩ = some (.slice (some ⟨b, o, none⟩) l.length cap) := by rw [← hW0, ← hM1]; simp [go_sem]
    have s1 := (hb10.cell (p := ⟨ga, 0, none⟩) hsza).trans qa0
    have s2 := (hb10.cell (p := ⟨ga, 1, none⟩) hsza).trans qa1
    have s3 := (hb10.cell (p := ⟨ga, 2, none⟩) hsza).trans qa2
    have s4 := (hb10.cell (p := ⟨ga, 3, none⟩) hsza).trans qa3
    have s5 := (hbx.cell (p := ⟨w.heap.size, 0, none⟩) (by dsimp only; omega)).trans e0
    have s6 := (hbx.cell (p := ⟨N1, 0, none⟩) (by dsimp only; omega)).trans e1
    have s7 := (hbx.cell (p := ⟨N2, 0, none⟩) (by dsimp only; omega)).trans e2
    have s8 := (hbx.cell (p := ⟨N3, 0, none⟩) (by dsimp only; omega)).trans e3
    have s9 := (hbx.frozen (p := ⟨N3, 0, none⟩) (by dsimp only; omega)).trans e4
    have hNM : N3 < ga := by omega
    have hMM1 : ga < M1 := by omega
    have hsg : W1.heap.size ≤ ga := hga
    generalize ga = M at *
    have CI1 := Lib.hid ci1
    have CI2 := Lib.hid ci2
    have CJ1 := Lib.hid cj1
    have CJ2 := Lib.hid cj2
    clear e0x hW0 hb10 hbx hM1 di1 di2 dj1 dj2 ci1 ci2 cj1 cj2 hn0 hn1 hn2 hbn e0 e1 e2 e3 e4 hw1 hw2 r1 r2 x1 x2 x3 qa0 qa1 qa2 qa3 qfa0 qfa1 qfa2 qfa3 fb
    refine wide_rangeBox (gf := 103) (lb := #[.pointer (some ⟨M1, 0, none⟩)]) rfl (enters_of Try.func103 (by kernel_rfl) rfl) (sides_iter (M1) _ l (by omega) (by omega)) (fun _ => rfl)
      (fun k W => Below w.heap.size w W ∧ k ≤ l.length ∧ W.cell? ⟨M1, 0, none⟩ = some (.slice (some ⟨b, o, none⟩) l.length cap) ∧ W.cell? ⟨M, 0, none⟩ = some (.int .i64 pi.1) ∧ W.cell? ⟨M, 1, none⟩ = some (.int .i64 pi.2) ∧ W.cell? ⟨M, 2, none⟩ = some (.int .i64 pj.1) ∧ W.cell? ⟨M, 3, none⟩ = some (.int .i64 pj.2) ∧ W.cell? ⟨w.heap.size, 0, none⟩ = some (.slice (some ⟨b, o, none⟩) l.length cap) ∧ W.cell? ⟨N1, 0, none⟩ = some (.int .i64 i) ∧ W.cell? ⟨N2, 0, none⟩ = some (.int .i64 j) ∧ W.cell? ⟨N3, 0, none⟩ = some (.bool false) ∧ W.frozen? ⟨N3, 0, none⟩ = false ∧ Hid (∀ q, q < k → cutB l i j q = false))
      (fun cd k W => cd = .ret ∧ anyN (cutB l i j) l.length = true ∧ Below w.heap.size w W ∧ W.cell? ⟨N3, 0, none⟩ = some (.bool false))
      (fun k W ⟨hB, hk, f0, f1, f2, f3, f4, f5, f6, f7, f8, z0, u0⟩ => ⟨f0, HP.out.below hB⟩)
      (fun k W W' ⟨hB, hk, f0, f1, f2, f3, f4, f5, f6, f7, f8, z0, u0⟩ hb => ⟨hB.trans (hb.mono (by omega)), hk, (hb.cell (p := ⟨M1, 0, none⟩) (by dsimp only; omega)).trans f0, (hb.cell (p := ⟨M, 0, none⟩) (by dsimp only; omega)).trans f1, (hb.cell (p := ⟨M, 1, none⟩) (by dsimp only; omega)).trans f2, (hb.cell (p := ⟨M, 2, none⟩) (by dsimp only; omega)).trans f3, (hb.cell (p := ⟨M, 3, none⟩) (by dsimp only; omega)).trans f4, (hb.cell (p := ⟨w.heap.size, 0, none⟩) (by dsimp only; omega)).trans f5, (hb.cell (p := ⟨N1, 0, none⟩) (by dsimp only; omega)).trans f6, (hb.cell (p := ⟨N2, 0, none⟩) (by dsimp only; omega)).trans f7, (hb.cell (p := ⟨N3, 0, none⟩) (by dsimp only; omega)).trans f8, (hb.frozen (p := ⟨N3, 0, none⟩) (by dsimp only; omega)).trans z0, u0⟩)
      (fun cd k W W' ⟨e1, e2, hB, f3⟩ hb => ⟨e1, e2, hB.trans (hb.mono (by omega)), (hb.cell (p := ⟨N3, 0, none⟩) (by dsimp only; omega)).trans f3⟩)
      (fun e => by cases e)
      ?start
      (fun k a' W => ∃ (g10 : Nat), a' = { tmps := #[.slice (some ⟨b, o, none⟩) l.length cap, .int .i64 i, .int .i64 j, .pointer (some ⟨w.heap.size, 0, none⟩), .pointer (some ⟨N1, 0, none⟩), .pointer (some ⟨N2, 0, none⟩), .pointer (some ⟨N3, 0, none⟩), .int .i64 l.length, .pointer (some ⟨M, 0, none⟩), undef, .pointer (some ⟨g10, 0, none⟩), undef, undef, undef, undef, .slice (some ⟨b, o, none⟩) l.length cap, .int .i64 l.length, .int .i64 i, .int .i64 j, .bool false, .bool false, .int .i64 i, .int .i64 ((i : Int) + 1), .int .i64 l.length, .int .i64 ni, .int .i64 j, .bool false, .bool false, .bool false, .int .i64 j, .int .i64 ((j : Int) + 1), .int .i64 l.length, .int .i64 nj, .int .i64 i, .bool false, .bool false, .slice (some ⟨b, o, none⟩) l.length cap, .int .i64 i, .pointer (some ⟨b, o + i * 2, none⟩), .agg #[.int .i64 pi.1, .int .i64 pi.2], .slice (some ⟨b, o, none⟩) l.length cap, .int .i64 j, .pointer (some ⟨b, o + j * 2, none⟩), .agg #[.int .i64 pj.1, .int .i64 pj.2], .agg #[.int .i64 pi.1, .int .i64 pi.2, .int .i64 pj.1, .int .i64 pj.2], .slice (some ⟨b, o, none⟩) l.length cap, .func (.func 103) #[] #[.pointer (some ⟨M1, 0, none⟩)], .int .i64 k, .agg #[.int .i64 (cor l k).1, .int .i64 (cor l k).2, .int .i64 (cor l (k + 1)).1, .int .i64 (cor l (k + 1)).2], undef, undef, undef, undef, undef, undef, undef, undef, undef, undef, undef, undef, undef, undef, undef, undef, undef, undef, undef, undef, undef, undef, undef, undef, undef, undef, undef, undef, undef, undef, undef, undef, undef, undef, undef, undef, undef, undef, undef, undef, undef, undef, undef, undef, undef, undef, undef, undef, undef, undef, undef, undef, undef, undef, undef, undef, undef, undef, undef, undef, undef, undef, undef, undef, undef, undef, undef, undef, undef, undef, undef, undef, undef, undef, undef, undef, undef, undef, undef, undef, undef, undef, undef, undef, undef, undef, undef, undef, undef, undef, undef, undef, undef, undef, undef, undef, undef, undef, undef, undef, undef, undef, undef, undef], defers := [] } ∧ W.cell? ⟨g10, 0, none⟩ = some (.int .i64 (cor l k).1) ∧ W.cell? ⟨g10, 1, none⟩ = some (.int .i64 (cor l k).2) ∧ W.cell? ⟨g10, 2, none⟩ = some (.int .i64 (cor l (k + 1)).1) ∧ W.cell? ⟨g10, 3, none⟩ = some (.int .i64 (cor l (k + 1)).2) ∧ W0.heap.size ≤ g10 ∧ g10 < W.heap.size)
      (fun k a' W l o hl hr ⟨g10, ha, c0, c1, c2, c3, lo10, hi10⟩ => ⟨g10, ha, cell_putObj_loop hr c0, cell_putObj_loop hr c1, cell_putObj_loop hr c2, cell_putObj_loop hr c3, lo10, by simpa [World.putObj] using hi10⟩) ?assign ?body ?done ?stop
    case assign =>
      rintro l' k W K hsW ⟨hB, hk, f0, f1, f2, f3, f4, f5, f6, f7, f8, z0, u0⟩ hm hK
      have hkl := hm _ rfl
      gi_wp2
      have hb3 := below_new (Below.refl W.heap.size W) (.cells #[.int .i64 (cor l k).1, .int .i64 (cor l k).2, .int .i64 (cor l (k + 1)).1, .int .i64 (cor l (k + 1)).2] 56)
      exact hK _ _ (keeps_of_below hb3) ⟨hB.trans (hb3.mono (by omega)), hk, (hb3.cell (p := ⟨M1, 0, none⟩) (by dsimp only; omega)).trans f0, (hb3.cell (p := ⟨M, 0, none⟩) (by dsimp only; omega)).trans f1, (hb3.cell (p := ⟨M, 1, none⟩) (by dsimp only; omega)).trans f2, (hb3.cell (p := ⟨M, 2, none⟩) (by dsimp only; omega)).trans f3, (hb3.cell (p := ⟨M, 3, none⟩) (by dsimp only; omega)).trans f4, (hb3.cell (p := ⟨w.heap.size, 0, none⟩) (by dsimp only; omega)).trans f5, (hb3.cell (p := ⟨N1, 0, none⟩) (by dsimp only; omega)).trans f6, (hb3.cell (p := ⟨N2, 0, none⟩) (by dsimp only; omega)).trans f7, (hb3.cell (p := ⟨N3, 0, none⟩) (by dsimp only; omega)).trans f8, (hb3.frozen (p := ⟨N3, 0, none⟩) (by dsimp only; omega)).trans z0, u0⟩
        ⟨_, rfl, by simp [go_sem], by simp [go_sem], by simp [go_sem], by simp [go_sem], by first | omega | (simp <;> omega), by first | omega | (simp <;> omega)⟩
    case body =>
      rintro l' k a' W hl hr hsW ⟨hB, hk, f0, f1, f2, f3, f4, f5, f6, f7, f8, z0, u0⟩ ⟨g10, rfl, c0, c1, c2, c3, lo10, hi10⟩ hm
      have hkl := hm _ rfl
      clear hm
      have HA := HBD.out k
      have HB := HBD.out (k + 1)
      have HCUT := Lib.hid (cut_prog HV.out hi hj HNB.out hkl)
      have HAN := Lib.hid (anyN_true (f := cutB l i j) hkl)
      rw [HPI.out, HPJ.out] at HCUT
      generalize hpa : cor l k = pa at *
      generalize hpb : cor l (k + 1) = pb at *
      clear hpa hpb
      have hlo10 : M1 < g10 := by omega
      have p0 := (hB.cell (p := ⟨b, o + i * 2, none⟩) hBb).trans CI1.out
      have p1 := (hB.cell (p := ⟨b, o + i * 2 + 1, none⟩) hBb).trans CI2.out
      have p2 := (hB.cell (p := ⟨b, o + j * 2, none⟩) hBb).trans CJ1.out
      have p3 := (hB.cell (p := ⟨b, o + j * 2 + 1, none⟩) hBb).trans CJ2.out
      gi_wp2
      trace_state
      obtain ⟨Wt, hWt⟩ : ∃ Wt, W.alloc (.cells #[.int .i64 pb.1, .int .i64 pb.2] 32) = Wt := ⟨_, rfl⟩
      rw [hWt]
      have hbt : Below W.heap.size W Wt := by rw [← hWt]; exact below_new (Below.refl _ _) _
      have d0 : Wt.cell? ⟨W.heap.size, 0, none⟩ = some (.int .i64 pb.1) := by rw [← hWt]; simp [go_sem]
      have d1 : Wt.cell? ⟨W.heap.size, 1, none⟩ = some (.int .i64 pb.2) := by rw [← hWt]; simp [go_sem]
      have dz0 : Wt.frozen? ⟨W.heap.size, 0, none⟩ = false := by rw [← hWt]; simp [go_sem]
      have dz1 : Wt.frozen? ⟨W.heap.size, 1, none⟩ = false := by rw [← hWt]; simp [go_sem]
      clear hWt
      have hB1t := hB
      have HFx : Hid (SpIn w Wt M M1 N1 N2 N3 g10 W.heap.size b o l.length cap i j pi pj pa pb pb) := by
        have key : ∀ (p q : Nat) (v : Value), W.cell? ⟨p, q, none⟩ = some v → Wt.cell? ⟨p, q, none⟩ = some v := fun p q v e => (hbt.cell (p := ⟨p, q, none⟩) (block_lt_of_cell e)).trans e
        exact ⟨below_tail hbt hB, key _ _ _ f0, key _ _ _ f1, key _ _ _ f2, key _ _ _ f3, key _ _ _ f4, key _ _ _ f5, key _ _ _ f6, key _ _ _ f7, key _ _ _ f8, (hbt.frozen (p := ⟨N3, 0, none⟩) (block_lt_of_cell f8)).trans z0, key _ _ _ c0, key _ _ _ c1, key _ _ _ c2, key _ _ _ c3, key _ _ _ p0, key _ _ _ p1, key _ _ _ p2, key _ _ _ p3, d0, d1, dz0, dz1⟩
      have hkw := keeps_of_below hbt
      have hgG : g10 < W.heap.size := by omega
      clear hbt hB1t f0 f1 f2 f3 f4 f5 f6 f7 f8 z0 c0 c1 c2 c3 p0 p1 p2 p3 d0 d1 dz0 dz1 hB
      obtain ⟨G, hG⟩ : ∃ G, W.heap.size = G := ⟨_, rfl⟩
      rw [hG] at HFx hgG ⊢
      have HF := HFx
      clear hG HFx
      as_aux_lemma =>
        cases he1 : ((pa.1, pa.2) == (pi.1, pi.2))
        · cases he2 : ((pa.1, pa.2) == (pj.1, pj.2))
          · as_aux_lemma =>
            have qc0 := fun dr os => cell_regrown HF.out.c0 dr os
            have qc1 := fun dr os => cell_regrown HF.out.c1 dr os
            have qf5 := fun dr os => cell_regrown HF.out.f5 dr os
            have qf6 := fun dr os => cell_regrown HF.out.f6 dr os
            have qp0 := fun dr os => cell_regrown HF.out.p0 dr os
            have qp1 := fun dr os => cell_regrown HF.out.p1 dr os
            have qf7 := fun dr os => cell_regrown HF.out.f7 dr os
            have qp2 := fun dr os => cell_regrown HF.out.p2 dr os
            have qp3 := fun dr os => cell_regrown HF.out.p3 dr os
            gi_wp2
            refine regionR_q mixed (by kernel_rfl) (by kernel_rfl) ?_
            repeat (go_big_quiet_step (fail))
            refine wpQuiet_nil ?_
            intro wq hbq
            clear qc0 qc1 qf5 qf6 qp0 qp1 qf7 qp2 qp3
            replace HF := Lib.hid (HF.out.below hbq)
            replace hkw := keeps_step hbq hkw
            clear hbq
            have E1 := Lib.hid he1
            have E2 := Lib.hid he2
            clear he1 he2
            gi_wp2
            cases he1 : ((pb.1, pb.2) == (pi.1, pi.2))
            · cases he2 : ((pb.1, pb.2) == (pj.1, pj.2))
              · as_aux_lemma =>
                have qc2 := fun dr os => cell_regrown HF.out.c2 dr os
                have qc3 := fun dr os => cell_regrown HF.out.c3 dr os
                have qf5 := fun dr os => cell_regrown HF.out.f5 dr os
                have qf6 := fun dr os => cell_regrown HF.out.f6 dr os
                have qp0 := fun dr os => cell_regrown HF.out.p0 dr os
                have qp1 := fun dr os => cell_regrown HF.out.p1 dr os
                have qf7 := fun dr os => cell_regrown HF.out.f7 dr os
                have qp2 := fun dr os => cell_regrown HF.out.p2 dr os
                have qp3 := fun dr os => cell_regrown HF.out.p3 dr os
                gi_wp2
                refine regionR_q mixed (by kernel_rfl) (by kernel_rfl) ?_
                repeat (go_big_quiet_step (fail))
                refine wpQuiet_nil ?_
                intro wq hbq
                clear qc2 qc3 qf5 qf6 qp0 qp1 qf7 qp2 qp3
                replace HF := Lib.hid (HF.out.below hbq)
                replace hkw := keeps_step hbq hkw
                clear hbq
                have E3 := Lib.hid he1
                have E4 := Lib.hid he2
                clear he1 he2
                cases ht : touchB pa pb pi pj
                · have HTB := Lib.hid ht
                  clear ht
                  have c0 := HF.out.c0
                  have c1 := HF.out.c1
                  have c2 := HF.out.c2
                  have c3 := HF.out.c3
                  have f1 := HF.out.f1
                  have f2 := HF.out.f2
                  have f3 := HF.out.f3
                  have f4 := HF.out.f4
                  gi_wp2_with (gi_at_call 68; refine Calls.useR ((touch_is _ HA HB HI HJ HTB.out).use ?_); intro wt hbt2 hzt hct hft; have k8 := (hct N3 0 (block_lt_of_cell HF.out.f8)).trans HF.out.f8; have kz := (hft N3 0 (block_lt_of_cell HF.out.f8)).trans HF.out.z0; clear hct hft hzt)
                  clear c0 c1 c2 c3 f1 f2 f3 f4
                  replace HF := Lib.hid (HF.out.below hbt2)
                  replace hkw := keeps_step hbt2 hkw
                  clear hbt2
                  have hcb : cutB l i j k = false := by rw [HCUT.out, progCut]; simp [E1.out, E2.out, E3.out, E4.out, HTB.out]
                  have HCB := Lib.hid hcb
                  clear hcb
                  exact ⟨hkw, HF.out.hB, by omega, HF.out.f0, HF.out.f1, HF.out.f2, HF.out.f3, HF.out.f4, HF.out.f5, HF.out.f6, HF.out.f7, HF.out.f8, HF.out.z0, fun q hq => (Nat.lt_succ_iff_lt_or_eq.1 hq).elim (u0.out q) (fun e => by subst e; exact HCB.out)⟩
                · have HTB := Lib.hid ht
                  clear ht
                  have c0 := HF.out.c0
                  have c1 := HF.out.c1
                  have c2 := HF.out.c2
                  have c3 := HF.out.c3
                  have f1 := HF.out.f1
                  have f2 := HF.out.f2
                  have f3 := HF.out.f3
                  have f4 := HF.out.f4
                  gi_wp2_with (gi_at_call 68; refine Calls.useR ((touch_is _ HA HB HI HJ HTB.out).use ?_); intro wt hbt2 hzt hct hft; have k8 := (hct N3 0 (block_lt_of_cell HF.out.f8)).trans HF.out.f8; have kz := (hft N3 0 (block_lt_of_cell HF.out.f8)).trans HF.out.z0; clear hct hft hzt)
                  clear c0 c1 c2 c3 f1 f2 f3 f4
                  replace HF := Lib.hid (HF.out.below hbt2)
                  replace hkw := keeps_step hbt2 hkw
                  clear hbt2
                  have hcb : cutB l i j k = true := by rw [HCUT.out, progCut]; simp [E1.out, E2.out, E3.out, E4.out, HTB.out]
                  have hany := HAN.out hcb
                  have HANY := Lib.hid hany
                  clear hcb hany
                  exact ⟨hkw.trans (KeepsOthers.setCell _ _ _), rfl, HANY.out, below_set HF.out.hB (by dsimp only; omega) _, World.cell?_setCell_same' _ _ _ (by rw [k8]; rfl)⟩

              · as_aux_lemma =>
                have qc2 := fun dr os => cell_regrown HF.out.c2 dr os
                have qc3 := fun dr os => cell_regrown HF.out.c3 dr os
                have qf5 := fun dr os => cell_regrown HF.out.f5 dr os
                have qf6 := fun dr os => cell_regrown HF.out.f6 dr os
                have qp0 := fun dr os => cell_regrown HF.out.p0 dr os
                have qp1 := fun dr os => cell_regrown HF.out.p1 dr os
                have qf7 := fun dr os => cell_regrown HF.out.f7 dr os
                have qp2 := fun dr os => cell_regrown HF.out.p2 dr os
                have qp3 := fun dr os => cell_regrown HF.out.p3 dr os
                gi_wp2
                refine regionR_q mixed (by kernel_rfl) (by kernel_rfl) ?_
                repeat (go_big_quiet_step (fail))
                refine wpQuiet_nil ?_
                intro wq hbq
                clear qc2 qc3 qf5 qf6 qp0 qp1 qf7 qp2 qp3
                replace HF := Lib.hid (HF.out.below hbq)
                replace hkw := keeps_step hbq hkw
                clear hbq
                have E3 := Lib.hid he1
                have E4 := Lib.hid he2
                clear he1 he2
                have c0 := HF.out.c0
                have c1 := HF.out.c1
                have d0 := HF.out.d0
                have d1 := HF.out.d1
                have y0 := HF.out.y0
                have y1 := HF.out.y1
                gi_wp2
                clear c0 c1 d0 d1 y0 y1
                obtain ⟨Wf, hWf⟩ : ∃ Wf, (wq.setCell ⟨G, 0, none⟩ (.int .i64 pa.1)).setCell ⟨G, 1, none⟩ (.int .i64 pa.2) = Wf := ⟨_, rfl⟩
                rw [hWf]
                replace hkw : KeepsOthers W Wf := by rw [← hWf]; exact (hkw.trans (KeepsOthers.setCell _ _ _)).trans (KeepsOthers.setCell _ _ _)
                replace HF : Hid (SpIn w Wf M M1 N1 N2 N3 g10 G b o l.length cap i j pi pj pa pb pa) := by unfold Hid; rw [← hWf]; exact HF.out.far pa ⟨hN12, hN23, hN34, hNM, hMM1, hlo10, hgG, hBb⟩
                clear hWf
                cases ho1 : onB pi pj pa
                · have O1 := Lib.hid ho1
                  clear ho1
                  cases ho2 : onB pa pb pi
                  · have O2 := Lib.hid ho2
                    clear ho2
                    as_aux_lemma =>
                      have qf1 := fun dr os => cell_regrown HF.out.f1 dr os
                      have qf2 := fun dr os => cell_regrown HF.out.f2 dr os
                      have qf3 := fun dr os => cell_regrown HF.out.f3 dr os
                      have qf4 := fun dr os => cell_regrown HF.out.f4 dr os
                      have qd0 := fun dr os => cell_regrown HF.out.d0 dr os
                      have qd1 := fun dr os => cell_regrown HF.out.d1 dr os
                      have qc0 := fun dr os => cell_regrown HF.out.c0 dr os
                      have qc1 := fun dr os => cell_regrown HF.out.c1 dr os
                      have qc2 := fun dr os => cell_regrown HF.out.c2 dr os
                      have qc3 := fun dr os => cell_regrown HF.out.c3 dr os
                      have qf5 := fun dr os => cell_regrown HF.out.f5 dr os
                      have qf6 := fun dr os => cell_regrown HF.out.f6 dr os
                      have qp0 := fun dr os => cell_regrown HF.out.p0 dr os
                      have qp1 := fun dr os => cell_regrown HF.out.p1 dr os
                      gi_wp2
                      refine regionR_q mixed (by kernel_rfl) (by kernel_rfl) ?_
                      repeat (go_big_quiet_step (first | (go_at_call 104; exact Calls.regrown_of (on_is _ HI HJ HA O1.out)) | (go_at_call 104; exact Calls.regrown_of (on_is _ HA HB HI O2.out))))
                      refine wpQuiet_nil ?_
                      intro wq hbq
                      clear qf1 qf2 qf3 qf4 qd0 qd1 qc0 qc1 qc2 qc3 qf5 qf6 qp0 qp1
                      replace HF := Lib.hid (HF.out.below hbq)
                      replace hkw := keeps_step hbq hkw
                      clear hbq
                      have hcb : cutB l i j k = false := by rw [HCUT.out, progCut]; simp [E1.out, E2.out, E3.out, E4.out, O1.out, O2.out]
                      have HCB := Lib.hid hcb
                      clear hcb
                      gi_wp2
                      exact ⟨hkw, HF.out.hB, by omega, HF.out.f0, HF.out.f1, HF.out.f2, HF.out.f3, HF.out.f4, HF.out.f5, HF.out.f6, HF.out.f7, HF.out.f8, HF.out.z0, fun q hq => (Nat.lt_succ_iff_lt_or_eq.1 hq).elim (u0.out q) (fun e => by subst e; exact HCB.out)⟩
                  · have O2 := Lib.hid ho2
                    clear ho2
                    cases ho3 : onB pa pb pj
                    · have O3 := Lib.hid ho3
                      clear ho3
                      as_aux_lemma =>
                        have qf1 := fun dr os => cell_regrown HF.out.f1 dr os
                        have qf2 := fun dr os => cell_regrown HF.out.f2 dr os
                        have qf3 := fun dr os => cell_regrown HF.out.f3 dr os
                        have qf4 := fun dr os => cell_regrown HF.out.f4 dr os
                        have qd0 := fun dr os => cell_regrown HF.out.d0 dr os
                        have qd1 := fun dr os => cell_regrown HF.out.d1 dr os
                        have qc0 := fun dr os => cell_regrown HF.out.c0 dr os
                        have qc1 := fun dr os => cell_regrown HF.out.c1 dr os
                        have qc2 := fun dr os => cell_regrown HF.out.c2 dr os
                        have qc3 := fun dr os => cell_regrown HF.out.c3 dr os
                        have qf5 := fun dr os => cell_regrown HF.out.f5 dr os
                        have qf6 := fun dr os => cell_regrown HF.out.f6 dr os
                        have qp0 := fun dr os => cell_regrown HF.out.p0 dr os
                        have qp1 := fun dr os => cell_regrown HF.out.p1 dr os
                        have qf7 := fun dr os => cell_regrown HF.out.f7 dr os
                        have qp2 := fun dr os => cell_regrown HF.out.p2 dr os
                        have qp3 := fun dr os => cell_regrown HF.out.p3 dr os
                        gi_wp2
                        refine regionR_q mixed (by kernel_rfl) (by kernel_rfl) ?_
                        repeat (go_big_quiet_step (first | (go_at_call 104; exact Calls.regrown_of (on_is _ HI HJ HA O1.out)) | (go_at_call 104; exact Calls.regrown_of (on_is _ HA HB HI O2.out)) | (go_at_call 104; exact Calls.regrown_of (on_is _ HA HB HJ O3.out))))
                        refine wpQuiet_nil ?_
                        intro wq hbq
                        clear qf1 qf2 qf3 qf4 qd0 qd1 qc0 qc1 qc2 qc3 qf5 qf6 qp0 qp1 qf7 qp2 qp3
                        replace HF := Lib.hid (HF.out.below hbq)
                        replace hkw := keeps_step hbq hkw
                        clear hbq
                        have hcb : cutB l i j k = false := by rw [HCUT.out, progCut]; simp [E1.out, E2.out, E3.out, E4.out, O1.out, O2.out, O3.out]
                        have HCB := Lib.hid hcb
                        clear hcb
                        gi_wp2
                        exact ⟨hkw, HF.out.hB, by omega, HF.out.f0, HF.out.f1, HF.out.f2, HF.out.f3, HF.out.f4, HF.out.f5, HF.out.f6, HF.out.f7, HF.out.f8, HF.out.z0, fun q hq => (Nat.lt_succ_iff_lt_or_eq.1 hq).elim (u0.out q) (fun e => by subst e; exact HCB.out)⟩
                    · have O3 := Lib.hid ho3
                      clear ho3
                      as_aux_lemma =>
                        have qf1 := fun dr os => cell_regrown HF.out.f1 dr os
                        have qf2 := fun dr os => cell_regrown HF.out.f2 dr os
                        have qf3 := fun dr os => cell_regrown HF.out.f3 dr os
                        have qf4 := fun dr os => cell_regrown HF.out.f4 dr os
                        have qd0 := fun dr os => cell_regrown HF.out.d0 dr os
                        have qd1 := fun dr os => cell_regrown HF.out.d1 dr os
                        have qc0 := fun dr os => cell_regrown HF.out.c0 dr os
                        have qc1 := fun dr os => cell_regrown HF.out.c1 dr os
                        have qc2 := fun dr os => cell_regrown HF.out.c2 dr os
                        have qc3 := fun dr os => cell_regrown HF.out.c3 dr os
                        have qf5 := fun dr os => cell_regrown HF.out.f5 dr os
                        have qf6 := fun dr os => cell_regrown HF.out.f6 dr os
                        have qp0 := fun dr os => cell_regrown HF.out.p0 dr os
                        have qp1 := fun dr os => cell_regrown HF.out.p1 dr os
                        have qf7 := fun dr os => cell_regrown HF.out.f7 dr os
                        have qp2 := fun dr os => cell_regrown HF.out.p2 dr os
                        have qp3 := fun dr os => cell_regrown HF.out.p3 dr os
                        gi_wp2
                        refine regionR_q mixed (by kernel_rfl) (by kernel_rfl) ?_
                        repeat (go_big_quiet_step (first | (go_at_call 104; exact Calls.regrown_of (on_is _ HI HJ HA O1.out)) | (go_at_call 104; exact Calls.regrown_of (on_is _ HA HB HI O2.out)) | (go_at_call 104; exact Calls.regrown_of (on_is _ HA HB HJ O3.out))))
                        refine wpQuiet_nil ?_
                        intro wq hbq
                        clear qf1 qf2 qf3 qf4 qd0 qd1 qc0 qc1 qc2 qc3 qf5 qf6 qp0 qp1 qf7 qp2 qp3
                        replace HF := Lib.hid (HF.out.below hbq)
                        replace hkw := keeps_step hbq hkw
                        clear hbq
                        have hcb : cutB l i j k = true := by rw [HCUT.out, progCut]; simp [E1.out, E2.out, E3.out, E4.out, O1.out, O2.out, O3.out]
                        have hany := HAN.out hcb
                        have HANY := Lib.hid hany
                        clear hcb hany
                        have f8 := HF.out.f8
                        have z0 := HF.out.z0
                        gi_wp2
                        exact ⟨hkw.trans (KeepsOthers.setCell _ _ _), rfl, HANY.out, below_set HF.out.hB (by dsimp only; omega) _, World.cell?_setCell_same' _ _ _ (by rw [f8]; rfl)⟩
                · have O1 := Lib.hid ho1
                  clear ho1
                  as_aux_lemma =>
                    have qf1 := fun dr os => cell_regrown HF.out.f1 dr os
                    have qf2 := fun dr os => cell_regrown HF.out.f2 dr os
                    have qf3 := fun dr os => cell_regrown HF.out.f3 dr os
                    have qf4 := fun dr os => cell_regrown HF.out.f4 dr os
                    have qd0 := fun dr os => cell_regrown HF.out.d0 dr os
                    have qd1 := fun dr os => cell_regrown HF.out.d1 dr os
                    gi_wp2
                    refine regionR_q mixed (by kernel_rfl) (by kernel_rfl) ?_
                    repeat (go_big_quiet_step (first | (go_at_call 104; exact Calls.regrown_of (on_is _ HI HJ HA O1.out))))
                    refine wpQuiet_nil ?_
                    intro wq hbq
                    clear qf1 qf2 qf3 qf4 qd0 qd1
                    replace HF := Lib.hid (HF.out.below hbq)
                    replace hkw := keeps_step hbq hkw
                    clear hbq
                    have hcb : cutB l i j k = true := by rw [HCUT.out, progCut]; simp [E1.out, E2.out, E3.out, E4.out, O1.out]
                    have hany := HAN.out hcb
                    have HANY := Lib.hid hany
                    clear hcb hany
                    have f8 := HF.out.f8
                    have z0 := HF.out.z0
                    gi_wp2
                    exact ⟨hkw.trans (KeepsOthers.setCell _ _ _), rfl, HANY.out, below_set HF.out.hB (by dsimp only; omega) _, World.cell?_setCell_same' _ _ _ (by rw [f8]; rfl)⟩
            · as_aux_lemma =>
              have qc2 := fun dr os => cell_regrown HF.out.c2 dr os
              have qc3 := fun dr os => cell_regrown HF.out.c3 dr os
              have qf5 := fun dr os => cell_regrown HF.out.f5 dr os
              have qf6 := fun dr os => cell_regrown HF.out.f6 dr os
              have qp0 := fun dr os => cell_regrown HF.out.p0 dr os
              have qp1 := fun dr os => cell_regrown HF.out.p1 dr os
              gi_wp2
              refine regionR_q mixed (by kernel_rfl) (by kernel_rfl) ?_
              repeat (go_big_quiet_step (fail))
              refine wpQuiet_nil ?_
              intro wq hbq
              clear qc2 qc3 qf5 qf6 qp0 qp1
              replace HF := Lib.hid (HF.out.below hbq)
              replace hkw := keeps_step hbq hkw
              clear hbq
              have E3 := Lib.hid he1
              clear he1
              have c0 := HF.out.c0
              have c1 := HF.out.c1
              have d0 := HF.out.d0
              have d1 := HF.out.d1
              have y0 := HF.out.y0
              have y1 := HF.out.y1
              gi_wp2
              clear c0 c1 d0 d1 y0 y1
              obtain ⟨Wf, hWf⟩ : ∃ Wf, (wq.setCell ⟨G, 0, none⟩ (.int .i64 pa.1)).setCell ⟨G, 1, none⟩ (.int .i64 pa.2) = Wf := ⟨_, rfl⟩
              rw [hWf]
              replace hkw : KeepsOthers W Wf := by rw [← hWf]; exact (hkw.trans (KeepsOthers.setCell _ _ _)).trans (KeepsOthers.setCell _ _ _)
              replace HF : Hid (SpIn w Wf M M1 N1 N2 N3 g10 G b o l.length cap i j pi pj pa pb pa) := by unfold Hid; rw [← hWf]; exact HF.out.far pa ⟨hN12, hN23, hN34, hNM, hMM1, hlo10, hgG, hBb⟩
              clear hWf
              cases ho1 : onB pi pj pa
              · have O1 := Lib.hid ho1
                clear ho1
                cases ho2 : onB pa pb pi
                · have O2 := Lib.hid ho2
                  clear ho2
                  as_aux_lemma =>
                    have qf1 := fun dr os => cell_regrown HF.out.f1 dr os
                    have qf2 := fun dr os => cell_regrown HF.out.f2 dr os
                    have qf3 := fun dr os => cell_regrown HF.out.f3 dr os
                    have qf4 := fun dr os => cell_regrown HF.out.f4 dr os
                    have qd0 := fun dr os => cell_regrown HF.out.d0 dr os
                    have qd1 := fun dr os => cell_regrown HF.out.d1 dr os
                    have qc0 := fun dr os => cell_regrown HF.out.c0 dr os
                    have qc1 := fun dr os => cell_regrown HF.out.c1 dr os
                    have qc2 := fun dr os => cell_regrown HF.out.c2 dr os
                    have qc3 := fun dr os => cell_regrown HF.out.c3 dr os
                    have qf5 := fun dr os => cell_regrown HF.out.f5 dr os
                    have qf6 := fun dr os => cell_regrown HF.out.f6 dr os
                    have qp0 := fun dr os => cell_regrown HF.out.p0 dr os
                    have qp1 := fun dr os => cell_regrown HF.out.p1 dr os
                    gi_wp2
                    refine regionR_q mixed (by kernel_rfl) (by kernel_rfl) ?_
                    repeat (go_big_quiet_step (first | (go_at_call 104; exact Calls.regrown_of (on_is _ HI HJ HA O1.out)) | (go_at_call 104; exact Calls.regrown_of (on_is _ HA HB HI O2.out))))
                    refine wpQuiet_nil ?_
                    intro wq hbq
                    clear qf1 qf2 qf3 qf4 qd0 qd1 qc0 qc1 qc2 qc3 qf5 qf6 qp0 qp1
                    replace HF := Lib.hid (HF.out.below hbq)
                    replace hkw := keeps_step hbq hkw
                    clear hbq
                    have hcb : cutB l i j k = false := by rw [HCUT.out, progCut]; simp [E1.out, E2.out, E3.out, O1.out, O2.out]
                    have HCB := Lib.hid hcb
                    clear hcb
                    gi_wp2
                    exact ⟨hkw, HF.out.hB, by omega, HF.out.f0, HF.out.f1, HF.out.f2, HF.out.f3, HF.out.f4, HF.out.f5, HF.out.f6, HF.out.f7, HF.out.f8, HF.out.z0, fun q hq => (Nat.lt_succ_iff_lt_or_eq.1 hq).elim (u0.out q) (fun e => by subst e; exact HCB.out)⟩
                · have O2 := Lib.hid ho2
                  clear ho2
                  cases ho3 : onB pa pb pj
                  · have O3 := Lib.hid ho3
                    clear ho3
                    as_aux_lemma =>
                      have qf1 := fun dr os => cell_regrown HF.out.f1 dr os
                      have qf2 := fun dr os => cell_regrown HF.out.f2 dr os
                      have qf3 := fun dr os => cell_regrown HF.out.f3 dr os
                      have qf4 := fun dr os => cell_regrown HF.out.f4 dr os
                      have qd0 := fun dr os => cell_regrown HF.out.d0 dr os
                      have qd1 := fun dr os => cell_regrown HF.out.d1 dr os
                      have qc0 := fun dr os => cell_regrown HF.out.c0 dr os
                      have qc1 := fun dr os => cell_regrown HF.out.c1 dr os
                      have qc2 := fun dr os => cell_regrown HF.out.c2 dr os
                      have qc3 := fun dr os => cell_regrown HF.out.c3 dr os
                      have qf5 := fun dr os => cell_regrown HF.out.f5 dr os
                      have qf6 := fun dr os => cell_regrown HF.out.f6 dr os
                      have qp0 := fun dr os => cell_regrown HF.out.p0 dr os
                      have qp1 := fun dr os => cell_regrown HF.out.p1 dr os
                      have qf7 := fun dr os => cell_regrown HF.out.f7 dr os
                      have qp2 := fun dr os => cell_regrown HF.out.p2 dr os
                      have qp3 := fun dr os => cell_regrown HF.out.p3 dr os
                      gi_wp2
                      refine regionR_q mixed (by kernel_rfl) (by kernel_rfl) ?_
                      repeat (go_big_quiet_step (first | (go_at_call 104; exact Calls.regrown_of (on_is _ HI HJ HA O1.out)) | (go_at_call 104; exact Calls.regrown_of (on_is _ HA HB HI O2.out)) | (go_at_call 104; exact Calls.regrown_of (on_is _ HA HB HJ O3.out))))
                      refine wpQuiet_nil ?_
                      intro wq hbq
                      clear qf1 qf2 qf3 qf4 qd0 qd1 qc0 qc1 qc2 qc3 qf5 qf6 qp0 qp1 qf7 qp2 qp3
                      replace HF := Lib.hid (HF.out.below hbq)
                      replace hkw := keeps_step hbq hkw
                      clear hbq
                      have hcb : cutB l i j k = false := by rw [HCUT.out, progCut]; simp [E1.out, E2.out, E3.out, O1.out, O2.out, O3.out]
                      have HCB := Lib.hid hcb
                      clear hcb
                      gi_wp2
                      exact ⟨hkw, HF.out.hB, by omega, HF.out.f0, HF.out.f1, HF.out.f2, HF.out.f3, HF.out.f4, HF.out.f5, HF.out.f6, HF.out.f7, HF.out.f8, HF.out.z0, fun q hq => (Nat.lt_succ_iff_lt_or_eq.1 hq).elim (u0.out q) (fun e => by subst e; exact HCB.out)⟩
                  · have O3 := Lib.hid ho3
                    clear ho3
                    as_aux_lemma =>
                      have qf1 := fun dr os => cell_regrown HF.out.f1 dr os
                      have qf2 := fun dr os => cell_regrown HF.out.f2 dr os
                      have qf3 := fun dr os => cell_regrown HF.out.f3 dr os
                      have qf4 := fun dr os => cell_regrown HF.out.f4 dr os
                      have qd0 := fun dr os => cell_regrown HF.out.d0 dr os
                      have qd1 := fun dr os => cell_regrown HF.out.d1 dr os
                      have qc0 := fun dr os => cell_regrown HF.out.c0 dr os
                      have qc1 := fun dr os => cell_regrown HF.out.c1 dr os
                      have qc2 := fun dr os => cell_regrown HF.out.c2 dr os
                      have qc3 := fun dr os => cell_regrown HF.out.c3 dr os
                      have qf5 := fun dr os => cell_regrown HF.out.f5 dr os
                      have qf6 := fun dr os => cell_regrown HF.out.f6 dr os
                      have qp0 := fun dr os => cell_regrown HF.out.p0 dr os
                      have qp1 := fun dr os => cell_regrown HF.out.p1 dr os
                      have qf7 := fun dr os => cell_regrown HF.out.f7 dr os
                      have qp2 := fun dr os => cell_regrown HF.out.p2 dr os
                      have qp3 := fun dr os => cell_regrown HF.out.p3 dr os
                      gi_wp2
                      refine regionR_q mixed (by kernel_rfl) (by kernel_rfl) ?_
                      repeat (go_big_quiet_step (first | (go_at_call 104; exact Calls.regrown_of (on_is _ HI HJ HA O1.out)) | (go_at_call 104; exact Calls.regrown_of (on_is _ HA HB HI O2.out)) | (go_at_call 104; exact Calls.regrown_of (on_is _ HA HB HJ O3.out))))
                      refine wpQuiet_nil ?_
                      intro wq hbq
                      clear qf1 qf2 qf3 qf4 qd0 qd1 qc0 qc1 qc2 qc3 qf5 qf6 qp0 qp1 qf7 qp2 qp3
                      replace HF := Lib.hid (HF.out.below hbq)
                      replace hkw := keeps_step hbq hkw
                      clear hbq
                      have hcb : cutB l i j k = true := by rw [HCUT.out, progCut]; simp [E1.out, E2.out, E3.out, O1.out, O2.out, O3.out]
                      have hany := HAN.out hcb
                      have HANY := Lib.hid hany
                      clear hcb hany
                      have f8 := HF.out.f8
                      have z0 := HF.out.z0
                      gi_wp2
                      exact ⟨hkw.trans (KeepsOthers.setCell _ _ _), rfl, HANY.out, below_set HF.out.hB (by dsimp only; omega) _, World.cell?_setCell_same' _ _ _ (by rw [f8]; rfl)⟩
              · have O1 := Lib.hid ho1
                clear ho1
                as_aux_lemma =>
                  have qf1 := fun dr os => cell_regrown HF.out.f1 dr os
                  have qf2 := fun dr os => cell_regrown HF.out.f2 dr os
                  have qf3 := fun dr os => cell_regrown HF.out.f3 dr os
                  have qf4 := fun dr os => cell_regrown HF.out.f4 dr os
                  have qd0 := fun dr os => cell_regrown HF.out.d0 dr os
                  have qd1 := fun dr os => cell_regrown HF.out.d1 dr os
                  gi_wp2
                  refine regionR_q mixed (by kernel_rfl) (by kernel_rfl) ?_
                  repeat (go_big_quiet_step (first | (go_at_call 104; exact Calls.regrown_of (on_is _ HI HJ HA O1.out))))
                  refine wpQuiet_nil ?_
                  intro wq hbq
                  clear qf1 qf2 qf3 qf4 qd0 qd1
                  replace HF := Lib.hid (HF.out.below hbq)
                  replace hkw := keeps_step hbq hkw
                  clear hbq
                  have hcb : cutB l i j k = true := by rw [HCUT.out, progCut]; simp [E1.out, E2.out, E3.out, O1.out]
                  have hany := HAN.out hcb
                  have HANY := Lib.hid hany
                  clear hcb hany
                  have f8 := HF.out.f8
                  have z0 := HF.out.z0
                  gi_wp2
                  exact ⟨hkw.trans (KeepsOthers.setCell _ _ _), rfl, HANY.out, below_set HF.out.hB (by dsimp only; omega) _, World.cell?_setCell_same' _ _ _ (by rw [f8]; rfl)⟩
          · as_aux_lemma =>
            have qc0 := fun dr os => cell_regrown HF.out.c0 dr os
            have qc1 := fun dr os => cell_regrown HF.out.c1 dr os
            have qf5 := fun dr os => cell_regrown HF.out.f5 dr os
            have qf6 := fun dr os => cell_regrown HF.out.f6 dr os
            have qp0 := fun dr os => cell_regrown HF.out.p0 dr os
            have qp1 := fun dr os => cell_regrown HF.out.p1 dr os
            have qf7 := fun dr os => cell_regrown HF.out.f7 dr os
            have qp2 := fun dr os => cell_regrown HF.out.p2 dr os
            have qp3 := fun dr os => cell_regrown HF.out.p3 dr os
            gi_wp2
            refine regionR_q mixed (by kernel_rfl) (by kernel_rfl) ?_
            repeat (go_big_quiet_step (fail))
            refine wpQuiet_nil ?_
            intro wq hbq
            clear qc0 qc1 qf5 qf6 qp0 qp1 qf7 qp2 qp3
            replace HF := Lib.hid (HF.out.below hbq)
            replace hkw := keeps_step hbq hkw
            clear hbq
            have E1 := Lib.hid he1
            have E2 := Lib.hid he2
            clear he1 he2
            gi_wp2
            cases ho1 : onB pi pj pb
            · have O1 := Lib.hid ho1
              clear ho1
              cases ho2 : onB pa pb pi
              · have O2 := Lib.hid ho2
                clear ho2
                as_aux_lemma =>
                  have qf1 := fun dr os => cell_regrown HF.out.f1 dr os
                  have qf2 := fun dr os => cell_regrown HF.out.f2 dr os
                  have qf3 := fun dr os => cell_regrown HF.out.f3 dr os
                  have qf4 := fun dr os => cell_regrown HF.out.f4 dr os
                  have qd0 := fun dr os => cell_regrown HF.out.d0 dr os
                  have qd1 := fun dr os => cell_regrown HF.out.d1 dr os
                  have qc0 := fun dr os => cell_regrown HF.out.c0 dr os
                  have qc1 := fun dr os => cell_regrown HF.out.c1 dr os
                  have qc2 := fun dr os => cell_regrown HF.out.c2 dr os
                  have qc3 := fun dr os => cell_regrown HF.out.c3 dr os
                  have qf5 := fun dr os => cell_regrown HF.out.f5 dr os
                  have qf6 := fun dr os => cell_regrown HF.out.f6 dr os
                  have qp0 := fun dr os => cell_regrown HF.out.p0 dr os
                  have qp1 := fun dr os => cell_regrown HF.out.p1 dr os
                  gi_wp2
                  refine regionR_q mixed (by kernel_rfl) (by kernel_rfl) ?_
                  repeat (go_big_quiet_step (first | (go_at_call 104; exact Calls.regrown_of (on_is _ HI HJ HB O1.out)) | (go_at_call 104; exact Calls.regrown_of (on_is _ HA HB HI O2.out))))
                  refine wpQuiet_nil ?_
                  intro wq hbq
                  clear qf1 qf2 qf3 qf4 qd0 qd1 qc0 qc1 qc2 qc3 qf5 qf6 qp0 qp1
                  replace HF := Lib.hid (HF.out.below hbq)
                  replace hkw := keeps_step hbq hkw
                  clear hbq
                  have hcb : cutB l i j k = false := by rw [HCUT.out, progCut]; simp [E1.out, E2.out, O1.out, O2.out]
                  have HCB := Lib.hid hcb
                  clear hcb
                  gi_wp2
                  exact ⟨hkw, HF.out.hB, by omega, HF.out.f0, HF.out.f1, HF.out.f2, HF.out.f3, HF.out.f4, HF.out.f5, HF.out.f6, HF.out.f7, HF.out.f8, HF.out.z0, fun q hq => (Nat.lt_succ_iff_lt_or_eq.1 hq).elim (u0.out q) (fun e => by subst e; exact HCB.out)⟩
              · have O2 := Lib.hid ho2
                clear ho2
                cases ho3 : onB pa pb pj
                · have O3 := Lib.hid ho3
                  clear ho3
                  as_aux_lemma =>
                    have qf1 := fun dr os => cell_regrown HF.out.f1 dr os
                    have qf2 := fun dr os => cell_regrown HF.out.f2 dr os
                    have qf3 := fun dr os => cell_regrown HF.out.f3 dr os
                    have qf4 := fun dr os => cell_regrown HF.out.f4 dr os
                    have qd0 := fun dr os => cell_regrown HF.out.d0 dr os
                    have qd1 := fun dr os => cell_regrown HF.out.d1 dr os
                    have qc0 := fun dr os => cell_regrown HF.out.c0 dr os
                    have qc1 := fun dr os => cell_regrown HF.out.c1 dr os
                    have qc2 := fun dr os => cell_regrown HF.out.c2 dr os
                    have qc3 := fun dr os => cell_regrown HF.out.c3 dr os
                    have qf5 := fun dr os => cell_regrown HF.out.f5 dr os
                    have qf6 := fun dr os => cell_regrown HF.out.f6 dr os
                    have qp0 := fun dr os => cell_regrown HF.out.p0 dr os
                    have qp1 := fun dr os => cell_regrown HF.out.p1 dr os
                    have qf7 := fun dr os => cell_regrown HF.out.f7 dr os
                    have qp2 := fun dr os => cell_regrown HF.out.p2 dr os
                    have qp3 := fun dr os => cell_regrown HF.out.p3 dr os
                    gi_wp2
                    refine regionR_q mixed (by kernel_rfl) (by kernel_rfl) ?_
                    repeat (go_big_quiet_step (first | (go_at_call 104; exact Calls.regrown_of (on_is _ HI HJ HB O1.out)) | (go_at_call 104; exact Calls.regrown_of (on_is _ HA HB HI O2.out)) | (go_at_call 104; exact Calls.regrown_of (on_is _ HA HB HJ O3.out))))
                    refine wpQuiet_nil ?_
                    intro wq hbq
                    clear qf1 qf2 qf3 qf4 qd0 qd1 qc0 qc1 qc2 qc3 qf5 qf6 qp0 qp1 qf7 qp2 qp3
                    replace HF := Lib.hid (HF.out.below hbq)
                    replace hkw := keeps_step hbq hkw
                    clear hbq
                    have hcb : cutB l i j k = false := by rw [HCUT.out, progCut]; simp [E1.out, E2.out, O1.out, O2.out, O3.out]
                    have HCB := Lib.hid hcb
                    clear hcb
                    gi_wp2
                    exact ⟨hkw, HF.out.hB, by omega, HF.out.f0, HF.out.f1, HF.out.f2, HF.out.f3, HF.out.f4, HF.out.f5, HF.out.f6, HF.out.f7, HF.out.f8, HF.out.z0, fun q hq => (Nat.lt_succ_iff_lt_or_eq.1 hq).elim (u0.out q) (fun e => by subst e; exact HCB.out)⟩
                · have O3 := Lib.hid ho3
                  clear ho3
                  as_aux_lemma =>
                    have qf1 := fun dr os => cell_regrown HF.out.f1 dr os
                    have qf2 := fun dr os => cell_regrown HF.out.f2 dr os
                    have qf3 := fun dr os => cell_regrown HF.out.f3 dr os
                    have qf4 := fun dr os => cell_regrown HF.out.f4 dr os
                    have qd0 := fun dr os => cell_regrown HF.out.d0 dr os
                    have qd1 := fun dr os => cell_regrown HF.out.d1 dr os
                    have qc0 := fun dr os => cell_regrown HF.out.c0 dr os
                    have qc1 := fun dr os => cell_regrown HF.out.c1 dr os
                    have qc2 := fun dr os => cell_regrown HF.out.c2 dr os
                    have qc3 := fun dr os => cell_regrown HF.out.c3 dr os
                    have qf5 := fun dr os => cell_regrown HF.out.f5 dr os
                    have qf6 := fun dr os => cell_regrown HF.out.f6 dr os
                    have qp0 := fun dr os => cell_regrown HF.out.p0 dr os
                    have qp1 := fun dr os => cell_regrown HF.out.p1 dr os
                    have qf7 := fun dr os => cell_regrown HF.out.f7 dr os
                    have qp2 := fun dr os => cell_regrown HF.out.p2 dr os
                    have qp3 := fun dr os => cell_regrown HF.out.p3 dr os
                    gi_wp2
                    refine regionR_q mixed (by kernel_rfl) (by kernel_rfl) ?_
                    repeat (go_big_quiet_step (first | (go_at_call 104; exact Calls.regrown_of (on_is _ HI HJ HB O1.out)) | (go_at_call 104; exact Calls.regrown_of (on_is _ HA HB HI O2.out)) | (go_at_call 104; exact Calls.regrown_of (on_is _ HA HB HJ O3.out))))
                    refine wpQuiet_nil ?_
                    intro wq hbq
                    clear qf1 qf2 qf3 qf4 qd0 qd1 qc0 qc1 qc2 qc3 qf5 qf6 qp0 qp1 qf7 qp2 qp3
                    replace HF := Lib.hid (HF.out.below hbq)
                    replace hkw := keeps_step hbq hkw
                    clear hbq
                    have hcb : cutB l i j k = true := by rw [HCUT.out, progCut]; simp [E1.out, E2.out, O1.out, O2.out, O3.out]
                    have hany := HAN.out hcb
                    have HANY := Lib.hid hany
                    clear hcb hany
                    have f8 := HF.out.f8
                    have z0 := HF.out.z0
                    gi_wp2
                    exact ⟨hkw.trans (KeepsOthers.setCell _ _ _), rfl, HANY.out, below_set HF.out.hB (by dsimp only; omega) _, World.cell?_setCell_same' _ _ _ (by rw [f8]; rfl)⟩
            · have O1 := Lib.hid ho1
              clear ho1
              as_aux_lemma =>
                have qf1 := fun dr os => cell_regrown HF.out.f1 dr os
                have qf2 := fun dr os => cell_regrown HF.out.f2 dr os
                have qf3 := fun dr os => cell_regrown HF.out.f3 dr os
                have qf4 := fun dr os => cell_regrown HF.out.f4 dr os
                have qd0 := fun dr os => cell_regrown HF.out.d0 dr os
                have qd1 := fun dr os => cell_regrown HF.out.d1 dr os
                gi_wp2
                refine regionR_q mixed (by kernel_rfl) (by kernel_rfl) ?_
                repeat (go_big_quiet_step (first | (go_at_call 104; exact Calls.regrown_of (on_is _ HI HJ HB O1.out))))
                refine wpQuiet_nil ?_
                intro wq hbq
                clear qf1 qf2 qf3 qf4 qd0 qd1
                replace HF := Lib.hid (HF.out.below hbq)
                replace hkw := keeps_step hbq hkw
                clear hbq
                have hcb : cutB l i j k = true := by rw [HCUT.out, progCut]; simp [E1.out, E2.out, O1.out]
                have hany := HAN.out hcb
                have HANY := Lib.hid hany
                clear hcb hany
                have f8 := HF.out.f8
                have z0 := HF.out.z0
                gi_wp2
                exact ⟨hkw.trans (KeepsOthers.setCell _ _ _), rfl, HANY.out, below_set HF.out.hB (by dsimp only; omega) _, World.cell?_setCell_same' _ _ _ (by rw [f8]; rfl)⟩
        · as_aux_lemma =>
          have qc0 := fun dr os => cell_regrown HF.out.c0 dr os
          have qc1 := fun dr os => cell_regrown HF.out.c1 dr os
          have qf5 := fun dr os => cell_regrown HF.out.f5 dr os
          have qf6 := fun dr os => cell_regrown HF.out.f6 dr os
          have qp0 := fun dr os => cell_regrown HF.out.p0 dr os
          have qp1 := fun dr os => cell_regrown HF.out.p1 dr os
          gi_wp2
          refine regionR_q mixed (by kernel_rfl) (by kernel_rfl) ?_
          repeat (go_big_quiet_step (fail))
          refine wpQuiet_nil ?_
          intro wq hbq
          clear qc0 qc1 qf5 qf6 qp0 qp1
          replace HF := Lib.hid (HF.out.below hbq)
          replace hkw := keeps_step hbq hkw
          clear hbq
          have E1 := Lib.hid he1
          clear he1
          gi_wp2
          cases ho1 : onB pi pj pb
          · have O1 := Lib.hid ho1
            clear ho1
            cases ho2 : onB pa pb pi
            · have O2 := Lib.hid ho2
              clear ho2
              as_aux_lemma =>
                have qf1 := fun dr os => cell_regrown HF.out.f1 dr os
                have qf2 := fun dr os => cell_regrown HF.out.f2 dr os
                have qf3 := fun dr os => cell_regrown HF.out.f3 dr os
                have qf4 := fun dr os => cell_regrown HF.out.f4 dr os
                have qd0 := fun dr os => cell_regrown HF.out.d0 dr os
                have qd1 := fun dr os => cell_regrown HF.out.d1 dr os
                have qc0 := fun dr os => cell_regrown HF.out.c0 dr os
                have qc1 := fun dr os => cell_regrown HF.out.c1 dr os
                have qc2 := fun dr os => cell_regrown HF.out.c2 dr os
                have qc3 := fun dr os => cell_regrown HF.out.c3 dr os
                have qf5 := fun dr os => cell_regrown HF.out.f5 dr os
                have qf6 := fun dr os => cell_regrown HF.out.f6 dr os
                have qp0 := fun dr os => cell_regrown HF.out.p0 dr os
                have qp1 := fun dr os => cell_regrown HF.out.p1 dr os
                gi_wp2
                refine regionR_q mixed (by kernel_rfl) (by kernel_rfl) ?_
                repeat (go_big_quiet_step (first | (go_at_call 104; exact Calls.regrown_of (on_is _ HI HJ HB O1.out)) | (go_at_call 104; exact Calls.regrown_of (on_is _ HA HB HI O2.out))))
                refine wpQuiet_nil ?_
                intro wq hbq
                clear qf1 qf2 qf3 qf4 qd0 qd1 qc0 qc1 qc2 qc3 qf5 qf6 qp0 qp1
                replace HF := Lib.hid (HF.out.below hbq)
                replace hkw := keeps_step hbq hkw
                clear hbq
                have hcb : cutB l i j k = false := by rw [HCUT.out, progCut]; simp [E1.out, O1.out, O2.out]
                have HCB := Lib.hid hcb
                clear hcb
                gi_wp2
                exact ⟨hkw, HF.out.hB, by omega, HF.out.f0, HF.out.f1, HF.out.f2, HF.out.f3, HF.out.f4, HF.out.f5, HF.out.f6, HF.out.f7, HF.out.f8, HF.out.z0, fun q hq => (Nat.lt_succ_iff_lt_or_eq.1 hq).elim (u0.out q) (fun e => by subst e; exact HCB.out)⟩
            · have O2 := Lib.hid ho2
              clear ho2
              cases ho3 : onB pa pb pj
              · have O3 := Lib.hid ho3
                clear ho3
                as_aux_lemma =>
                  have qf1 := fun dr os => cell_regrown HF.out.f1 dr os
                  have qf2 := fun dr os => cell_regrown HF.out.f2 dr os
                  have qf3 := fun dr os => cell_regrown HF.out.f3 dr os
                  have qf4 := fun dr os => cell_regrown HF.out.f4 dr os
                  have qd0 := fun dr os => cell_regrown HF.out.d0 dr os
                  have qd1 := fun dr os => cell_regrown HF.out.d1 dr os
                  have qc0 := fun dr os => cell_regrown HF.out.c0 dr os
                  have qc1 := fun dr os => cell_regrown HF.out.c1 dr os
                  have qc2 := fun dr os => cell_regrown HF.out.c2 dr os
                  have qc3 := fun dr os => cell_regrown HF.out.c3 dr os
                  have qf5 := fun dr os => cell_regrown HF.out.f5 dr os
                  have qf6 := fun dr os => cell_regrown HF.out.f6 dr os
                  have qp0 := fun dr os => cell_regrown HF.out.p0 dr os
                  have qp1 := fun dr os => cell_regrown HF.out.p1 dr os
                  have qf7 := fun dr os => cell_regrown HF.out.f7 dr os
                  have qp2 := fun dr os => cell_regrown HF.out.p2 dr os
                  have qp3 := fun dr os => cell_regrown HF.out.p3 dr os
                  gi_wp2
                  refine regionR_q mixed (by kernel_rfl) (by kernel_rfl) ?_
                  repeat (go_big_quiet_step (first | (go_at_call 104; exact Calls.regrown_of (on_is _ HI HJ HB O1.out)) | (go_at_call 104; exact Calls.regrown_of (on_is _ HA HB HI O2.out)) | (go_at_call 104; exact Calls.regrown_of (on_is _ HA HB HJ O3.out))))
                  refine wpQuiet_nil ?_
                  intro wq hbq
                  clear qf1 qf2 qf3 qf4 qd0 qd1 qc0 qc1 qc2 qc3 qf5 qf6 qp0 qp1 qf7 qp2 qp3
                  replace HF := Lib.hid (HF.out.below hbq)
                  replace hkw := keeps_step hbq hkw
                  clear hbq
                  have hcb : cutB l i j k = false := by rw [HCUT.out, progCut]; simp [E1.out, O1.out, O2.out, O3.out]
                  have HCB := Lib.hid hcb
                  clear hcb
                  gi_wp2
                  exact ⟨hkw, HF.out.hB, by omega, HF.out.f0, HF.out.f1, HF.out.f2, HF.out.f3, HF.out.f4, HF.out.f5, HF.out.f6, HF.out.f7, HF.out.f8, HF.out.z0, fun q hq => (Nat.lt_succ_iff_lt_or_eq.1 hq).elim (u0.out q) (fun e => by subst e; exact HCB.out)⟩
              · have O3 := Lib.hid ho3
                clear ho3
                as_aux_lemma =>
                  have qf1 := fun dr os => cell_regrown HF.out.f1 dr os
                  have qf2 := fun dr os => cell_regrown HF.out.f2 dr os
                  have qf3 := fun dr os => cell_regrown HF.out.f3 dr os
                  have qf4 := fun dr os => cell_regrown HF.out.f4 dr os
                  have qd0 := fun dr os => cell_regrown HF.out.d0 dr os
                  have qd1 := fun dr os => cell_regrown HF.out.d1 dr os
                  have qc0 := fun dr os => cell_regrown HF.out.c0 dr os
                  have qc1 := fun dr os => cell_regrown HF.out.c1 dr os
                  have qc2 := fun dr os => cell_regrown HF.out.c2 dr os
                  have qc3 := fun dr os => cell_regrown HF.out.c3 dr os
                  have qf5 := fun dr os => cell_regrown HF.out.f5 dr os
                  have qf6 := fun dr os => cell_regrown HF.out.f6 dr os
                  have qp0 := fun dr os => cell_regrown HF.out.p0 dr os
                  have qp1 := fun dr os => cell_regrown HF.out.p1 dr os
                  have qf7 := fun dr os => cell_regrown HF.out.f7 dr os
                  have qp2 := fun dr os => cell_regrown HF.out.p2 dr os
                  have qp3 := fun dr os => cell_regrown HF.out.p3 dr os
                  gi_wp2
                  refine regionR_q mixed (by kernel_rfl) (by kernel_rfl) ?_
                  repeat (go_big_quiet_step (first | (go_at_call 104; exact Calls.regrown_of (on_is _ HI HJ HB O1.out)) | (go_at_call 104; exact Calls.regrown_of (on_is _ HA HB HI O2.out)) | (go_at_call 104; exact Calls.regrown_of (on_is _ HA HB HJ O3.out))))
                  refine wpQuiet_nil ?_
                  intro wq hbq
                  clear qf1 qf2 qf3 qf4 qd0 qd1 qc0 qc1 qc2 qc3 qf5 qf6 qp0 qp1 qf7 qp2 qp3
                  replace HF := Lib.hid (HF.out.below hbq)
                  replace hkw := keeps_step hbq hkw
                  clear hbq
                  have hcb : cutB l i j k = true := by rw [HCUT.out, progCut]; simp [E1.out, O1.out, O2.out, O3.out]
                  have hany := HAN.out hcb
                  have HANY := Lib.hid hany
                  clear hcb hany
                  have f8 := HF.out.f8
                  have z0 := HF.out.z0
                  gi_wp2
                  exact ⟨hkw.trans (KeepsOthers.setCell _ _ _), rfl, HANY.out, below_set HF.out.hB (by dsimp only; omega) _, World.cell?_setCell_same' _ _ _ (by rw [f8]; rfl)⟩
          · have O1 := Lib.hid ho1
            clear ho1
            as_aux_lemma =>
              have qf1 := fun dr os => cell_regrown HF.out.f1 dr os
              have qf2 := fun dr os => cell_regrown HF.out.f2 dr os
              have qf3 := fun dr os => cell_regrown HF.out.f3 dr os
              have qf4 := fun dr os => cell_regrown HF.out.f4 dr os
              have qd0 := fun dr os => cell_regrown HF.out.d0 dr os
              have qd1 := fun dr os => cell_regrown HF.out.d1 dr os
              gi_wp2
              refine regionR_q mixed (by kernel_rfl) (by kernel_rfl) ?_
              repeat (go_big_quiet_step (first | (go_at_call 104; exact Calls.regrown_of (on_is _ HI HJ HB O1.out))))
              refine wpQuiet_nil ?_
              intro wq hbq
              clear qf1 qf2 qf3 qf4 qd0 qd1
              replace HF := Lib.hid (HF.out.below hbq)
              replace hkw := keeps_step hbq hkw
              clear hbq
              have hcb : cutB l i j k = true := by rw [HCUT.out, progCut]; simp [E1.out, O1.out]
              have hany := HAN.out hcb
              have HANY := Lib.hid hany
              clear hcb hany
              have f8 := HF.out.f8
              have z0 := HF.out.z0
              gi_wp2
              exact ⟨hkw.trans (KeepsOthers.setCell _ _ _), rfl, HANY.out, below_set HF.out.hB (by dsimp only; omega) _, World.cell?_setCell_same' _ _ _ (by rw [f8]; rfl)⟩
    case start => exact ⟨hB0, Nat.zero_le _, s0, s1, s2, s3, s4, s5, s6, s7, s8, s9, fun q hq => absurd hq (by omega)⟩
    case done =>
      rintro m D W hm hD ⟨hB, hk, f0, f1, f2, f3, f4, f5, f6, f7, f8, z0, u0⟩ hK
      cases hm
      have hcut : anyN (cutB l i j) l.length = false := anyN_false u0.out
      have HSP := Lib.hid (splitB_mid HNB.out hcut)
      have HBB := Lib.hid (dbl_bd HV.out)
      have HMB := Lib.hid (mid_bd HV.out i j)
      have HWS := Lib.hid (where_simple (simple_dbl HV.out) (midL l i j))
      obtain ⟨s, hs⟩ : ∃ s, sideF (dblL l) (midL l i j) = s := ⟨_, rfl⟩
      rw [hs] at HSP HWS
      have HMI : Hid (midL l i j = (pi.1 + pj.1, pi.2 + pj.2)) := by unfold Hid; rw [midL, HPI.out, HPJ.out]; rfl
      have HSZ := hB.size
      have p0 := (hB.cell (p := ⟨b, o + i * 2, none⟩) hBb).trans CI1.out
      have p1 := (hB.cell (p := ⟨b, o + i * 2 + 1, none⟩) hBb).trans CI2.out
      have p2 := (hB.cell (p := ⟨b, o + j * 2, none⟩) hBb).trans CJ1.out
      have p3 := (hB.cell (p := ⟨b, o + j * 2 + 1, none⟩) hBb).trans CJ2.out
      have HPW := Lib.hid (HP.out.below hB)
      clear hcut u0 hs f0 f1 f2 f3 f4
      have y0 := block_lt_of_cell f5
      have y1 := block_lt_of_cell f6
      have y2 := block_lt_of_cell f7
      have y3 := block_lt_of_cell f8
      have y4 := block_lt_of_cell p0
      gi_wp2
      obtain ⟨Wa, hWa⟩ : ∃ Wa, W.alloc (.cells #[.int .i64 0, .int .i64 0, .int .i64 0, .int .i64 0, .int .i64 0, .int .i64 0, .int .i64 0, .int .i64 0, .int .i64 0, .int .i64 0, .int .i64 0, .int .i64 0, .int .i64 0, .int .i64 0, .int .i64 0, .int .i64 0, .int .i64 0, .int .i64 0, .int .i64 0, .int .i64 0] 91) = Wa := ⟨_, rfl⟩
      rw [hWa]
      have hba : Below W.heap.size W Wa := by rw [← hWa]; exact below_new (Below.refl _ _) _
      have hza : W.heap.size < Wa.heap.size := by rw [← hWa]; simp
      have howa : Wa.ownsRow W.heap.size 91 2 (.slice (some ⟨W.heap.size, 0, none⟩) 10 10) 10 (cells2 (dbK l 0)) := by rw [← hWa]; exact World.ownsRow_lit W #[.int .i64 0, .int .i64 0, .int .i64 0, .int .i64 0, .int .i64 0, .int .i64 0, .int .i64 0, .int .i64 0, .int .i64 0, .int .i64 0, .int .i64 0, .int .i64 0, .int .i64 0, .int .i64 0, .int .i64 0, .int .i64 0, .int .i64 0, .int .i64 0, .int .i64 0, .int .i64 0] 10 (Nat.le_refl _) (by decide) (by simp)
      clear hWa
      have hbig : ∃ A, A = W.heap.size := ⟨_, rfl⟩
      gi_loopw [111] (fun q wr => ∃ k : Nat, k ≤ l.length ∧ q = .int .i64 k ∧ wr.ownsRow W.heap.size 91 2 (.slice (some ⟨W.heap.size, 0, none⟩) 10 10) 10 (cells2 (dbK l k)) ∧ Below W.heap.size W wr ∧ W.heap.size < wr.heap.size) (fun q _ => l.length - (intOf q).toNat)
      case atStart => exact ⟨0, Nat.zero_le _, rfl, howa, hba, hza⟩
      case round =>
        obtain ⟨k, hk, rfl, hown, hbw, hsz2⟩ := hrel
        by_cases hlt : k < l.length
        · as_aux_lemma =>
            have hg : decide ((k : Int) < (l.length : Int)) = true := decide_eq_true (by omega)
            obtain ⟨b', o', he, _, g0, g1⟩ := HPW.out.cellAt hlt
            cases he
            replace g0 := (hbw.cell (p := ⟨b, o + k * 2, none⟩) y4).trans g0
            replace g1 := (hbw.cell (p := ⟨b, o + k * 2 + 1, none⟩) y4).trans g1
            obtain ⟨⟨v1, v2⟩, v3, v4⟩ := gi_bd HV.out hlt
            have HDS := Lib.hid (dbK_succ l k)
            obtain ⟨pk, hpk⟩ : ∃ p, gi l (0, 0) k = p := ⟨_, rfl⟩
            rw [hpk] at g0 g1 v1 v2 v3 v4 HDS
            have e1 := (hown.cellAt (k * 2) (by omega)).trans (cells2_get (l := dbK l k) (i := k) (by rw [dbK_length]; omega)).1
            have e2 := (hown.cellAt (k * 2 + 1) (by omega)).trans (cells2_get (l := dbK l k) (i := k) (by rw [dbK_length]; omega)).2
            have t1 := hown.frozenAt (k * 2)
            have t2 := hown.frozenAt (k * 2 + 1)
            have hbk : b < wr.heap.size := by omega
            have hk10 : (k : Int) < 10 := by omega
            have hk0 : (0 : Int) ≤ (k : Int) := by omega
            clear hpk p0 p1 p2 p3 f5 f6 f7 f8 z0
            gi_wp2
            have w1 := ((hown.stored (k * 2) (.int .i64 (2 * pk.1))).1.stored (k * 2 + 1) (.int .i64 (2 * pk.2))).1
            have w2 : ((cells2 (dbK l k)).set (k * 2) (.int .i64 (2 * pk.1))).set (k * 2 + 1) (.int .i64 (2 * pk.2)) = cells2 (dbK l (k + 1)) := by rw [HDS.out, cells2_put]; rfl
            rw [w2] at w1
            have w3 := (hbw.setCell (p := ⟨W.heap.size, k * 2, none⟩) (by dsimp only; omega) (.int .i64 (2 * pk.1))).setCell (p := ⟨W.heap.size, k * 2 + 1, none⟩) (by dsimp only; omega) (.int .i64 (2 * pk.2))
            go_roundw
            case rel => exact ⟨k + 1, by omega, by go_num, w1.alloc _, w3.alloc w3.size _, by simp; omega⟩
            case measure => simp [intOf]; omega
        · as_aux_lemma =>
          have hg : decide ((k : Int) < (l.length : Int)) = false := decide_eq_false (by omega)
          obtain rfl : k = l.length := by omega
          have HPD : Hid (PairsAt wr (.slice (some ⟨W.heap.size, 0, none⟩) l.length 10) (dblL l)) := by
            have h1 := own_pairs (l := dbK l l.length) (by rw [dbK_length]; exact hown)
            have h2 := h1.take (k := l.length) (by rw [dbK_length]; omega)
            rw [dbK_all l h10] at h2; exact h2
          replace f5 := (hbw.cell (p := ⟨w.heap.size, 0, none⟩) y0).trans f5
          replace f6 := (hbw.cell (p := ⟨N1, 0, none⟩) y1).trans f6
          replace f7 := (hbw.cell (p := ⟨N2, 0, none⟩) y2).trans f7
          replace z0 := (hbw.frozen (p := ⟨N3, 0, none⟩) y3).trans z0
          replace f8 := (hbw.cell (p := ⟨N3, 0, none⟩) y3).trans f8
          replace p0 := (hbw.cell (p := ⟨b, o + i * 2, none⟩) y4).trans p0
          replace p1 := (hbw.cell (p := ⟨b, o + i * 2 + 1, none⟩) y4).trans p1
          replace p2 := (hbw.cell (p := ⟨b, o + j * 2, none⟩) y4).trans p2
          replace p3 := (hbw.cell (p := ⟨b, o + j * 2 + 1, none⟩) y4).trans p3
          have hK2 := (hbw.block D (Array.getElem?_eq_some_iff.1 hK).1).trans hK
          clear hown
          have HS2 : Hid (Gives Try.prog 59 #[.slice (some ⟨W.heap.size, 0, none⟩) l.length 10, .agg #[.int .i64 (pi.1 + pj.1), .int .i64 (pi.2 + pj.2)]] wr.drew (.int .i64 s)) := by
            have h1 := where_calls _ (dblL l) (midL l i j) wr.drew (HPD.out.below (by (repeat' (first | exact Below.refl _ _ | assumption | refine below_new ?_ _ | refine below_draw ?_ | refine below_tail (by assumption) ?_ | refine below_set ?_ (by first | omega | (simp <;> omega)) _)))) (by rw [dbl_length]; omega) (by rw [dbl_length]; omega) HBB.out HMB.out
            rw [HWS.out, HMI.out] at h1; exact h1
          obtain ⟨⟨a1, a2⟩, a3, a4⟩ := HI
          obtain ⟨⟨b1, b2⟩, b3, b4⟩ := HJ
          have hin : (i : Int) < (l.length : Int) := by omega
          have hjn : (j : Int) < (l.length : Int) := by omega
          have hn10 : (l.length : Int) ≤ 10 := by omega
          have hN3r : N3 < wr.heap.size := by omega
          gi_wp2
          refine wpIn_region_quiet_tail asksNone_wide 25 mixed (by kernel_rfl) (by kernel_rfl) ?_
          simp only [List.take_succ_cons, List.take_zero, List.drop_succ_cons, List.drop_zero]
          repeat (go_big_quiet_step (fail))
          refine wpQuiet_nil ?_
          gi_wp2_with (gi_at_call 59; refine (callsIn_wide.2 (HS2.out.use ?_)); intro w9 hb9 hz9 hc9 hf9; have k8 := (hc9 N3 0 (by simpa using hN3r)).trans (by simpa using f8); have kz := (hf9 N3 0 (by simpa using hN3r)).trans (by simpa using z0); clear hc9 hf9)
          have hK9 : (w9.setCell ⟨N3, 0, none⟩ (.bool (s == 1))).heap[D]? = some (.deferred (some [])) := by
            rw [Below.heap_setCell _ _ _ _ (by dsimp only; omega)]
            exact (hb9.block D (Array.getElem?_eq_some_iff.1 hK2).1).trans hK2
          have hB9 : Below w.heap.size w w9 := below_tail hb9 (below_draw (below_tail hbw hB))
          refine ⟨by simp, .inl ⟨_, _, rfl, run_takeDeferred hK9, ?_⟩⟩
          have hP := below_obj (B := w.heap.size) (D := D) (W := (w9.setCell ⟨N3, 0, none⟩ (.bool (s == 1)))) (.deferred none) (by omega) (by simpa using hB9.size)
          have hr3 : ((w9.setCell ⟨N3, 0, none⟩ (.bool (s == 1))).putObj D (.deferred none)).cell? ⟨N3, 0, none⟩ = some (.bool (s == 1)) := cell_putObj_def ⟨_, hK9⟩ (World.cell?_setCell_same' _ _ _ (by rw [k8]; rfl))
          exact ⟨.bool (s == 1), by simp [results, Try.f86, go_sem, hr3], by rw [HSP.out], (below_set hB9 (by dsimp only; omega) _).trans hP⟩
    case stop =>
      rintro D cd k W hD ⟨rfl, e2, hB, f3⟩ hK
      have HSP := Lib.hid (splitB_cut e2)
      clear e2
      gi_wp2
      refine ⟨by simp, .inl ⟨_, _, rfl, run_takeDeferred hK, ?_⟩⟩
      have hP := below_obj (B := w.heap.size) (D := D) (W := W) (.deferred none) (by omega) hB.size
      have hr3 : (W.putObj D (.deferred none)).cell? ⟨N3, 0, none⟩ = some (.bool false) := cell_putObj_def ⟨_, hK⟩ f3
      exact ⟨.bool false, by simp [results, Try.f86, go_sem, hr3], by rw [HSP.out], hB.trans hP⟩

end Go.Proofs.Ythiemglckmociaa
