/- The state of an office in memory, its clone, claims and open objections. Conditions: the state lies in memory as said. -/
import Derived.Test.YthooacpfmjpdmaaGreatDoorORow
namespace Go.Proofs.YthooacpfmjpdmaaGreatDoor
open Go.RowKit

/-- What an office has besides its minutes. -/
structure St where
  day : Int
  strips : List Int
  laid : List Int
  part : Int
  fixed : Bool
  stop : Int
  heard : Bool
  opn : List Bool
  ent : Bool
/-- Its three rows in memory, from block m on. -/
structure StAt (m : Nat) (w : World) (n : Nat) (s : St) (g1 c1 g2 c2 g3 c3 : Nat) : Prop where
  r1 : RowAt w g1 3 c1 (cells1 s.strips)
  r2 : RowAt w g2 3 c2 (cells1 s.laid)
  r3 : RowAt w g3 4 c3 (cellsB s.opn)
  l1 : s.strips.length = n
  l2 : s.laid.length = n
  l3 : s.opn.length = n
  n1 : 1 ≤ n
  n8 : n ≤ 8
  m1 : m ≤ g1
  m2 : m ≤ g2
  m3 : m ≤ g3
  d12 : g1 ≠ g2
  d13 : g1 ≠ g3
  d23 : g2 ≠ g3
theorem StAt.below {m : Nat} {w w' : World} {n : Nat} {s : St} {g1 c1 g2 c2 g3 c3 : Nat} (h : StAt m w n s g1 c1 g2 c2 g3 c3) (hb : Below w.heap.size w w') : StAt m w' n s g1 c1 g2 c2 g3 c3 :=
  { h with r1 := h.r1.below hb, r2 := h.r2.below hb, r3 := h.r3.below hb }
theorem StAt.strips {m : Nat} {w : World} {n : Nat} {s : St} {g1 c1 g2 c2 g3 c3 : Nat} (h : StAt m w n s g1 c1 g2 c2 g3 c3) : IntsAt w (.slice (some ⟨g1, 0, none⟩) n c1) s.strips := h.l1 ▸ h.r1.ints
theorem StAt.laid {m : Nat} {w : World} {n : Nat} {s : St} {g1 c1 g2 c2 g3 c3 : Nat} (h : StAt m w n s g1 c1 g2 c2 g3 c3) : IntsAt w (.slice (some ⟨g2, 0, none⟩) n c2) s.laid := h.l2 ▸ h.r2.ints
theorem StAt.opn {m : Nat} {w : World} {n : Nat} {s : St} {g1 c1 g2 c2 g3 c3 : Nat} (h : StAt m w n s g1 c1 g2 c2 g3 c3) : BoolsAt w (.slice (some ⟨g3, 0, none⟩) n c3) s.opn := h.l3 ▸ h.r3.bools
/-- The value of a state. -/
def stW (n : Nat) (s : St) (g1 c1 g2 c2 g3 c3 : Nat) : Value :=
  .agg #[.int .i64 s.day, .slice (some ⟨g1, 0, none⟩) n c1, .slice (some ⟨g2, 0, none⟩) n c2, .int .i64 s.part, .bool s.fixed, .int .i64 s.stop, .bool s.heard, .slice (some ⟨g3, 0, none⟩) n c3, .bool s.ent]

def CloI (n : Nat) (s : St) (g1 c1 g2 c2 g3 c3 : Nat) (w : World) (v0 v1 v2 v15 : Value) (d : Nat → Bool) (a : Act) (x : World) : Prop :=
  ∃ u3 u4 u5 u6 u7 u8 u9 u10 u11 u12 u13 u14 : Value, a = ⟨#[v0, v1, v2, u3, u4, u5, u6, u7, u8, u9, u10, u11, u12, u13, u14, v15], []⟩ ∧
    Below w.heap.size w x ∧
    w.heap.size + 2 ≤ x.heap.size ∧
    (∃ cs : Nat → Value, x.heap[w.heap.size]? = some (.cells #[.int .i64 s.day, cs 1, cs 2, .int .i64 s.part, .bool s.fixed, .int .i64 s.stop, .bool s.heard, cs 7, .bool s.ent] 90 (0, 0)) ∧ (d 10 = false → cs 1 = .slice (some ⟨g1, 0, none⟩) n c1) ∧ (d 10 = true → cs 1 = u5) ∧ (d 12 = false → cs 2 = .slice (some ⟨g2, 0, none⟩) n c2) ∧ (d 12 = true → cs 2 = u8) ∧ (d 14 = false → cs 7 = .slice (some ⟨g3, 0, none⟩) n c3) ∧ (d 14 = true → cs 7 = u11)) ∧
    x.heap[w.heap.size + 1]? = some (.cells #[.int .i64 0, .slice none 0 0, .slice none 0 0, .int .i64 0, .bool false, .int .i64 0, .bool false, .slice none 0 0, .bool false] 90 (0, 0)) ∧
    (d 0 = true → u3 = .pointer (some ⟨w.heap.size, 1, none⟩)) ∧
    (d 1 = true → u4 = .slice (some ⟨g1, 0, none⟩) n c1) ∧
    (d 2 = true → x.ownsRow (w.heap.size + 2) 3 1 u5 n (cells1 s.strips)) ∧
    (d 3 = true → u6 = .pointer (some ⟨w.heap.size, 2, none⟩)) ∧
    (d 4 = true → u7 = .slice (some ⟨g2, 0, none⟩) n c2) ∧
    (d 5 = true → x.ownsRow (w.heap.size + 2) 3 1 u8 n (cells1 s.laid)) ∧
    (d 6 = true → u9 = .pointer (some ⟨w.heap.size, 7, none⟩)) ∧
    (d 7 = true → u10 = .slice (some ⟨g3, 0, none⟩) n c3) ∧
    (d 8 = true → x.ownsRow (w.heap.size + 2) 4 1 u11 n (cellsB s.opn)) ∧
    (d 9 = true → u12 = .pointer (some ⟨w.heap.size, 1, none⟩)) ∧
    (d 11 = true → u13 = .pointer (some ⟨w.heap.size, 2, none⟩)) ∧
    (d 13 = true → u14 = .pointer (some ⟨w.heap.size, 7, none⟩)) ∧
    (d 2 = true → d 1 = true) ∧
    (d 5 = true → d 4 = true ∧ d 2 = true) ∧
    (d 8 = true → d 7 = true ∧ d 5 = true) ∧
    (d 10 = true → d 9 = true ∧ d 2 = true ∧ d 8 = true) ∧
    (d 12 = true → d 11 = true ∧ d 5 = true ∧ d 10 = true) ∧
    (d 14 = true → d 13 = true ∧ d 8 = true ∧ d 12 = true) ∧
    (d 2 = true → d 5 = true → apt u5 u8) ∧
    (d 2 = true → d 8 = true → apt u5 u11) ∧
    (d 5 = true → d 8 = true → apt u8 u11)
theorem own_any {w : World} {base e size n : Nat} {v u : Value} {xs : List Value} {p : Addr} (h : w.ownsRow base e size v n xs) (hb : v.ownBlock ≠ some p.block) : (w.setCell p u).ownsRow base e size v n xs := by
  refine ⟨h.1, ?_⟩
  rcases h.2 with ⟨hv, hn⟩ | ⟨g, cap, cur, hv, hg, hh, r⟩
  · exact .inl ⟨hv, hn⟩
  · refine .inr ⟨g, cap, cur, hv, hg, (Below.heap_setCell _ _ _ _ ?_).trans hh, r⟩
    intro e1
    subst e1
    rw [hv] at hb
    exact hb rfl
theorem own_below {w w' : World} {base e size n : Nat} {v : Value} {xs : List Value} (h : w.ownsRow base e size v n xs) (hb : Below w.heap.size w w') : w'.ownsRow base e size v n xs := by
  refine ⟨h.1, ?_⟩
  rcases h.2 with ⟨hv, hn⟩ | ⟨g, cap, cur, hv, hg, hh, r⟩
  · exact .inl ⟨hv, hn⟩
  · exact .inr ⟨g, cap, cur, hv, hg, (hb.block g (Array.getElem?_eq_some_iff.1 hh).1).trans hh, r⟩
theorem cloneN1 {v : Value} {l : List Int} {n : Nat} {w : World} (h : IntsAt w v l) (hl : l.length = n) (h8 : n ≤ 8) :
    Calls Tryz.prog 56 #[v] w fun e w' => ∃ v', e = .returned v' ∧ w'.ownsRow w.heap.size 3 1 v' n (cells1 l) ∧ Below w.heap.size w w' := by
  subst hl; exact cloneI h (by omega)
theorem cloneNB {v : Value} {l : List Bool} {n : Nat} {w : World} (h : BoolsAt w v l) (hl : l.length = n) (h8 : n ≤ 8) :
    Calls Tryz.prog 95 #[v] w fun e w' => ∃ v', e = .returned v' ∧ w'.ownsRow w.heap.size 4 1 v' n (cellsB l) ∧ Below w.heap.size w w' := by
  subst hl; exact cloneB h (by omega)
set_option maxHeartbeats 4000000 in
set_option maxRecDepth 100000 in
theorem clone_calls (m : Nat) (w : World) (n : Nat) (s : St) (g1 c1 g2 c2 g3 c3 : Nat) (h : StAt m w n s g1 c1 g2 c2 g3 c3) :
    Calls Tryz.prog 63 #[stW n s g1 c1 g2 c2 g3 c3] w fun e w' => ∃ h1 d1 h2 d2 h3 d3, e = .returned (stW n s h1 d1 h2 d2 h3 d3) ∧ StAt w.heap.size w' n s h1 d1 h2 d2 h3 d3 ∧ Below w.heap.size w w' := by
  have HS := Lib.hid h
  have h8 := h.n8
  have h11 := h.n1
  clear h
  unfold stW
  go_enter Tryz.func63, Tryz.ntmps63
  go_wp2
  refine wp_region_inv mixed (by kernel_rfl) (CloI n s g1 c1 g2 c2 g3 c3 w (.agg #[.int .i64 s.day, .slice (some ⟨g1, 0, none⟩) n c1, .slice (some ⟨g2, 0, none⟩) n c2, .int .i64 s.part, .bool s.fixed, .int .i64 s.stop, .bool s.heard, .slice (some ⟨g3, 0, none⟩) n c3, .bool s.ent]) (.pointer (some ⟨w.heap.size, 0, none⟩)) (.pointer (some ⟨w.heap.size + 1, 0, none⟩)) undef) ?h0 ?hstep ?hend
  case h0 =>
    unfold CloI
    refine ⟨_, _, _, _, _, _, _, _, _, _, _, _, rfl, by (repeat' (first | exact Below.refl _ _ | assumption | refine below_new ?_ _ | refine below_draw ?_ | refine below_tail (by assumption) ?_ | refine below_set ?_ (by first | omega | (simp <;> omega)) _)), by simp, ⟨fun i => #[.int .i64 s.day, .slice (some ⟨g1, 0, none⟩) n c1, .slice (some ⟨g2, 0, none⟩) n c2, .int .i64 s.part, .bool s.fixed, .int .i64 s.stop, .bool s.heard, .slice (some ⟨g3, 0, none⟩) n c3, .bool s.ent].getD i undef, (Below.heap_alloc _ _ _ (by simp)).trans (alloc_new _ _ rfl), ?_⟩, alloc_new _ _ (by simp), ?_⟩
    · simp
    · simp only [Bool.false_eq_true, false_implies, and_self]
  case hstep =>
    intro d a x hI i hi hdi hed
    unfold CloI at hI
    obtain ⟨u3, u4, u5, u6, u7, u8, u9, u10, u11, u12, u13, u14, rfl, fb, fs, fK, fx0, f0, f1, f2, f3, f4, f5, f6, f7, f8, f9, f11, f13, q2, q5, q8, q10, q12, q14, a0_1, a0_2, a1_2⟩ := hI
    have hi' : i < 15 := hi
    clear hi
    rcases (show i = 0 ∨ i = 1 ∨ i = 2 ∨ i = 3 ∨ i = 4 ∨ i = 5 ∨ i = 6 ∨ i = 7 ∨ i = 8 ∨ i = 9 ∨ i = 10 ∨ i = 11 ∨ i = 12 ∨ i = 13 ∨ i = 14 by omega) with rfl | rfl | rfl | rfl | rfl | rfl | rfl | rfl | rfl | rfl | rfl | rfl | rfl | rfl | rfl
    · skip
      have he := hed _ rfl
      simp only [Region.binds] at he
      try simp at he
      clear hed
      refine wpOp_step rfl (fun K hK => ?_)
      go_simp
      (try (refine hK _ _ ?_; clear hK K))
      unfold CloI
      refine ⟨_, _, _, _, _, _, _, _, _, _, _, _, rfl, ?_⟩
      simp only [Nat.reduceBEq, Bool.false_or, Bool.true_or, beq_self_eq_true, forall_const]
      exact ⟨fb, fs, fK, fx0, (by intros; trivial), (by first | exact f1 | (intros; trivial)), f2, (by first | exact f3 | (intros; trivial)), (by first | exact f4 | (intros; trivial)), f5, (by first | exact f6 | (intros; trivial)), (by first | exact f7 | (intros; trivial)), f8, (by first | exact f9 | (intros; trivial)), (by first | exact f11 | (intros; trivial)), (by first | exact f13 | (intros; trivial)), q2, q5, q8, q10, q12, q14, a0_1, a0_2, a1_2⟩
    · skip
      have he := hed _ rfl
      simp only [Region.binds] at he
      try simp at he
      clear hed
      refine wpOp_step rfl (fun K hK => ?_)
      have hno : d 10 = false := by
        cases hh : d 10
        · rfl
        · exact not_both ((q2 (q10 hh).2.1)) hdi
      obtain ⟨cs, hk0, k0A, k0B, k1A, k1B, k2A, k2B⟩ := fK
      have g0 := f0 he
      subst g0
      have qc := (cell_of_block hk0 1).trans (congrArg some (k0A hno))
      go_simp
      (try (refine hK _ _ ?_; clear hK K))
      unfold CloI
      refine ⟨_, _, _, _, _, _, _, _, _, _, _, _, rfl, ?_⟩
      simp only [Nat.reduceBEq, Bool.false_or, Bool.true_or, beq_self_eq_true, forall_const]
      exact ⟨fb, fs, ⟨cs, hk0, k0A, k0B, k1A, k1B, k2A, k2B⟩, fx0, (by first | exact f0 | (intros; trivial)), (by intros; trivial), f2, (by first | exact f3 | (intros; trivial)), (by first | exact f4 | (intros; trivial)), f5, (by first | exact f6 | (intros; trivial)), (by first | exact f7 | (intros; trivial)), f8, (by first | exact f9 | (intros; trivial)), (by first | exact f11 | (intros; trivial)), (by first | exact f13 | (intros; trivial)), (by intros; trivial), q5, q8, q10, q12, q14, a0_1, a0_2, a1_2⟩
    · skip
      have he := hed _ rfl
      simp only [Region.binds] at he
      try simp at he
      clear hed
      refine wpOp_step rfl (fun K hK => ?_)
      have g0 := f1 (he)
      subst g0
      go_wp2_with (go_at_call 56; (refine (cloneN1 (HS.out.strips.below fb) HS.out.l1 h8).mono ?_); rintro e w3 ⟨v3, rfl, hof, hb3⟩)
      (try (refine hK _ _ ?_; clear hK K))
      unfold CloI
      refine ⟨_, _, _, _, _, _, _, _, _, _, _, _, rfl, ?_⟩
      simp only [Nat.reduceBEq, Bool.false_or, Bool.true_or, beq_self_eq_true, forall_const]
      exact ⟨fb.trans (hb3.mono fb.size), Nat.le_trans fs hb3.size, (let ⟨cs, hk0, rest⟩ := fK; ⟨cs, blk_below hk0 hb3, (rest.1), (fun hq => not_both ((q10 hq).2.1) hdi), (rest.2.2.1), (fun hq => not_both ((q5 (q12 hq).2.1).2) hdi), (rest.2.2.2.2.1), (fun hq => not_both ((q5 (q8 (q14 hq).2.1).2).2) hdi)⟩), blk_below fx0 hb3, (by first | exact f0 | (intros; trivial)), (by first | exact f1 | (intros; trivial)), own_base hof fs, (by first | exact f3 | (intros; trivial)), (by first | exact f4 | (intros; trivial)), (fun h => own_below (f5 h) hb3), (by first | exact f6 | (intros; trivial)), (by first | exact f7 | (intros; trivial)), (fun h => own_below (f8 h) hb3), (by first | exact f9 | (intros; trivial)), (by first | exact f11 | (intros; trivial)), (by first | exact f13 | (intros; trivial)), he, (fun h => ⟨(q5 h).1, by trivial⟩), q8, (fun h => ⟨(q10 h).1, by trivial, (q10 h).2.2⟩), q12, q14, (fun h => not_both ((q5 h).2) hdi), (fun h => not_both ((q5 (q8 h).2).2) hdi), a1_2⟩
    · skip
      have he := hed _ rfl
      simp only [Region.binds] at he
      try simp at he
      clear hed
      refine wpOp_step rfl (fun K hK => ?_)
      go_simp
      (try (refine hK _ _ ?_; clear hK K))
      unfold CloI
      refine ⟨_, _, _, _, _, _, _, _, _, _, _, _, rfl, ?_⟩
      simp only [Nat.reduceBEq, Bool.false_or, Bool.true_or, beq_self_eq_true, forall_const]
      exact ⟨fb, fs, fK, fx0, (by first | exact f0 | (intros; trivial)), (by first | exact f1 | (intros; trivial)), f2, (by intros; trivial), (by first | exact f4 | (intros; trivial)), f5, (by first | exact f6 | (intros; trivial)), (by first | exact f7 | (intros; trivial)), f8, (by first | exact f9 | (intros; trivial)), (by first | exact f11 | (intros; trivial)), (by first | exact f13 | (intros; trivial)), q2, q5, q8, q10, q12, q14, a0_1, a0_2, a1_2⟩
    · skip
      have he := hed _ rfl
      simp only [Region.binds] at he
      try simp at he
      clear hed
      refine wpOp_step rfl (fun K hK => ?_)
      have hno : d 12 = false := by
        cases hh : d 12
        · rfl
        · exact not_both ((q5 (q12 hh).2.1).1) hdi
      obtain ⟨cs, hk0, k0A, k0B, k1A, k1B, k2A, k2B⟩ := fK
      have g0 := f3 he
      subst g0
      have qc := (cell_of_block hk0 2).trans (congrArg some (k1A hno))
      go_simp
      (try (refine hK _ _ ?_; clear hK K))
      unfold CloI
      refine ⟨_, _, _, _, _, _, _, _, _, _, _, _, rfl, ?_⟩
      simp only [Nat.reduceBEq, Bool.false_or, Bool.true_or, beq_self_eq_true, forall_const]
      exact ⟨fb, fs, ⟨cs, hk0, k0A, k0B, k1A, k1B, k2A, k2B⟩, fx0, (by first | exact f0 | (intros; trivial)), (by first | exact f1 | (intros; trivial)), f2, (by first | exact f3 | (intros; trivial)), (by intros; trivial), f5, (by first | exact f6 | (intros; trivial)), (by first | exact f7 | (intros; trivial)), f8, (by first | exact f9 | (intros; trivial)), (by first | exact f11 | (intros; trivial)), (by first | exact f13 | (intros; trivial)), q2, (fun h => ⟨by trivial, (q5 h).2⟩), q8, q10, q12, q14, a0_1, a0_2, a1_2⟩
    · skip
      have he := hed _ rfl
      simp only [Region.binds] at he
      try simp at he
      clear hed
      refine wpOp_step rfl (fun K hK => ?_)
      have g0 := f4 (he.1)
      subst g0
      go_wp2_with (go_at_call 56; (refine (cloneN1 (HS.out.laid.below fb) HS.out.l2 h8).mono ?_); rintro e w3 ⟨v3, rfl, hof, hb3⟩)
      (try (refine hK _ _ ?_; clear hK K))
      unfold CloI
      refine ⟨_, _, _, _, _, _, _, _, _, _, _, _, rfl, ?_⟩
      simp only [Nat.reduceBEq, Bool.false_or, Bool.true_or, beq_self_eq_true, forall_const]
      exact ⟨fb.trans (hb3.mono fb.size), Nat.le_trans fs hb3.size, (let ⟨cs, hk0, rest⟩ := fK; ⟨cs, blk_below hk0 hb3, (rest.1), (fun hq => not_both ((q8 (q10 hq).2.2).2) hdi), (rest.2.2.1), (fun hq => not_both ((q12 hq).2.1) hdi), (rest.2.2.2.2.1), (fun hq => not_both ((q8 (q14 hq).2.1).2) hdi)⟩), blk_below fx0 hb3, (by first | exact f0 | (intros; trivial)), (by first | exact f1 | (intros; trivial)), (fun h => own_below (f2 h) hb3), (by first | exact f3 | (intros; trivial)), (by first | exact f4 | (intros; trivial)), own_base hof fs, (by first | exact f6 | (intros; trivial)), (by first | exact f7 | (intros; trivial)), (fun h => own_below (f8 h) hb3), (by first | exact f9 | (intros; trivial)), (by first | exact f11 | (intros; trivial)), (by first | exact f13 | (intros; trivial)), q2, he, (fun h => ⟨(q8 h).1, by trivial⟩), q10, (fun h => ⟨(q12 h).1, by trivial, (q12 h).2.2⟩), q14, (fun h => apt_new (f2 h) hof (Nat.le_refl _)), a0_2, (fun h => not_both ((q8 h).2) hdi)⟩
    · skip
      have he := hed _ rfl
      simp only [Region.binds] at he
      try simp at he
      clear hed
      refine wpOp_step rfl (fun K hK => ?_)
      go_simp
      (try (refine hK _ _ ?_; clear hK K))
      unfold CloI
      refine ⟨_, _, _, _, _, _, _, _, _, _, _, _, rfl, ?_⟩
      simp only [Nat.reduceBEq, Bool.false_or, Bool.true_or, beq_self_eq_true, forall_const]
      exact ⟨fb, fs, fK, fx0, (by first | exact f0 | (intros; trivial)), (by first | exact f1 | (intros; trivial)), f2, (by first | exact f3 | (intros; trivial)), (by first | exact f4 | (intros; trivial)), f5, (by intros; trivial), (by first | exact f7 | (intros; trivial)), f8, (by first | exact f9 | (intros; trivial)), (by first | exact f11 | (intros; trivial)), (by first | exact f13 | (intros; trivial)), q2, q5, q8, q10, q12, q14, a0_1, a0_2, a1_2⟩
    · skip
      have he := hed _ rfl
      simp only [Region.binds] at he
      try simp at he
      clear hed
      refine wpOp_step rfl (fun K hK => ?_)
      have hno : d 14 = false := by
        cases hh : d 14
        · rfl
        · exact not_both ((q8 (q14 hh).2.1).1) hdi
      obtain ⟨cs, hk0, k0A, k0B, k1A, k1B, k2A, k2B⟩ := fK
      have g0 := f6 he
      subst g0
      have qc := (cell_of_block hk0 7).trans (congrArg some (k2A hno))
      go_simp
      (try (refine hK _ _ ?_; clear hK K))
      unfold CloI
      refine ⟨_, _, _, _, _, _, _, _, _, _, _, _, rfl, ?_⟩
      simp only [Nat.reduceBEq, Bool.false_or, Bool.true_or, beq_self_eq_true, forall_const]
      exact ⟨fb, fs, ⟨cs, hk0, k0A, k0B, k1A, k1B, k2A, k2B⟩, fx0, (by first | exact f0 | (intros; trivial)), (by first | exact f1 | (intros; trivial)), f2, (by first | exact f3 | (intros; trivial)), (by first | exact f4 | (intros; trivial)), f5, (by first | exact f6 | (intros; trivial)), (by intros; trivial), f8, (by first | exact f9 | (intros; trivial)), (by first | exact f11 | (intros; trivial)), (by first | exact f13 | (intros; trivial)), q2, q5, (fun h => ⟨by trivial, (q8 h).2⟩), q10, q12, q14, a0_1, a0_2, a1_2⟩
    · skip
      have he := hed _ rfl
      simp only [Region.binds] at he
      try simp at he
      clear hed
      refine wpOp_step rfl (fun K hK => ?_)
      have g0 := f7 (he.1)
      subst g0
      go_wp2_with (go_at_call 95; (refine (cloneNB (HS.out.opn.below fb) HS.out.l3 h8).mono ?_); rintro e w3 ⟨v3, rfl, hof, hb3⟩)
      (try (refine hK _ _ ?_; clear hK K))
      unfold CloI
      refine ⟨_, _, _, _, _, _, _, _, _, _, _, _, rfl, ?_⟩
      simp only [Nat.reduceBEq, Bool.false_or, Bool.true_or, beq_self_eq_true, forall_const]
      exact ⟨fb.trans (hb3.mono fb.size), Nat.le_trans fs hb3.size, (let ⟨cs, hk0, rest⟩ := fK; ⟨cs, blk_below hk0 hb3, (rest.1), (fun hq => not_both ((q10 hq).2.2) hdi), (rest.2.2.1), (fun hq => not_both ((q10 (q12 hq).2.2).2.2) hdi), (rest.2.2.2.2.1), (fun hq => not_both ((q14 hq).2.1) hdi)⟩), blk_below fx0 hb3, (by first | exact f0 | (intros; trivial)), (by first | exact f1 | (intros; trivial)), (fun h => own_below (f2 h) hb3), (by first | exact f3 | (intros; trivial)), (by first | exact f4 | (intros; trivial)), (fun h => own_below (f5 h) hb3), (by first | exact f6 | (intros; trivial)), (by first | exact f7 | (intros; trivial)), own_base hof fs, (by first | exact f9 | (intros; trivial)), (by first | exact f11 | (intros; trivial)), (by first | exact f13 | (intros; trivial)), q2, q5, he, (fun h => ⟨(q10 h).1, (q10 h).2.1, by trivial⟩), q12, (fun h => ⟨(q14 h).1, by trivial, (q14 h).2.2⟩), a0_1, (fun h => apt_new (f2 h) hof (Nat.le_refl _)), (fun h => apt_new (f5 h) hof (Nat.le_refl _))⟩
    · skip
      have he := hed _ rfl
      simp only [Region.binds] at he
      try simp at he
      clear hed
      refine wpOp_step rfl (fun K hK => ?_)
      go_simp
      (try (refine hK _ _ ?_; clear hK K))
      unfold CloI
      refine ⟨_, _, _, _, _, _, _, _, _, _, _, _, rfl, ?_⟩
      simp only [Nat.reduceBEq, Bool.false_or, Bool.true_or, beq_self_eq_true, forall_const]
      exact ⟨fb, fs, fK, fx0, (by first | exact f0 | (intros; trivial)), (by first | exact f1 | (intros; trivial)), f2, (by first | exact f3 | (intros; trivial)), (by first | exact f4 | (intros; trivial)), f5, (by first | exact f6 | (intros; trivial)), (by first | exact f7 | (intros; trivial)), f8, (by intros; trivial), (by first | exact f11 | (intros; trivial)), (by first | exact f13 | (intros; trivial)), q2, q5, q8, (fun h => ⟨by trivial, (q10 h).2.1, (q10 h).2.2⟩), q12, q14, a0_1, a0_2, a1_2⟩
    · skip
      have he := hed _ rfl
      simp only [Region.binds] at he
      try simp at he
      clear hed
      refine wpOp_step rfl (fun K hK => ?_)
      have g0 := f9 (he.1)
      subst g0
      obtain ⟨cs, hk0, rest⟩ := fK
      have qc := cell_of_block hk0 1
      have qf := frozen_of_block hk0 1
      have hbw : w.heap.size ≤ w.heap.size := Nat.le_refl _
      obtain ⟨va, vc, rfl⟩ := own_slice (f2 he.2.1)
      go_simp
      (try (refine hK _ _ ?_; clear hK K))
      unfold CloI
      refine ⟨_, _, _, _, _, _, _, _, _, _, _, _, rfl, ?_⟩
      simp only [Nat.reduceBEq, Bool.false_or, Bool.true_or, beq_self_eq_true, forall_const]
      exact ⟨fb.setCell hbw _, (by simpa using fs), ⟨(fun j => if j = 1 then (.slice va n vc) else cs j), (block_set hk0 1 _).trans (by simp), (by intro h; cases h), (by simp), (fun h => (rest.2.2.1) h), (fun h => (rest.2.2.2.1) h), (fun h => (rest.2.2.2.2.1) h), (fun h => (rest.2.2.2.2.2) h)⟩, ((Below.heap_setCell _ _ _ _ (by dsimp only; omega)).trans fx0), (by first | exact f0 | (intros; trivial)), (by first | exact f1 | (intros; trivial)), (fun h => own_any (f2 h) (ne_old (f2 h) (by dsimp only; omega))), (by first | exact f3 | (intros; trivial)), (by first | exact f4 | (intros; trivial)), (fun h => own_any (f5 h) (ne_old (f5 h) (by dsimp only; omega))), (by first | exact f6 | (intros; trivial)), (by first | exact f7 | (intros; trivial)), (fun h => own_any (f8 h) (ne_old (f8 h) (by dsimp only; omega))), (by first | exact f9 | (intros; trivial)), (by first | exact f11 | (intros; trivial)), (by first | exact f13 | (intros; trivial)), q2, q5, q8, ⟨he.1, he.2.1, he.2.2.1⟩, (fun h => ⟨(q12 h).1, (q12 h).2.1, by trivial⟩), q14, a0_1, a0_2, a1_2⟩
    · skip
      have he := hed _ rfl
      simp only [Region.binds] at he
      try simp at he
      clear hed
      refine wpOp_step rfl (fun K hK => ?_)
      go_simp
      (try (refine hK _ _ ?_; clear hK K))
      unfold CloI
      refine ⟨_, _, _, _, _, _, _, _, _, _, _, _, rfl, ?_⟩
      simp only [Nat.reduceBEq, Bool.false_or, Bool.true_or, beq_self_eq_true, forall_const]
      exact ⟨fb, fs, fK, fx0, (by first | exact f0 | (intros; trivial)), (by first | exact f1 | (intros; trivial)), f2, (by first | exact f3 | (intros; trivial)), (by first | exact f4 | (intros; trivial)), f5, (by first | exact f6 | (intros; trivial)), (by first | exact f7 | (intros; trivial)), f8, (by first | exact f9 | (intros; trivial)), (by intros; trivial), (by first | exact f13 | (intros; trivial)), q2, q5, q8, q10, (fun h => ⟨by trivial, (q12 h).2.1, (q12 h).2.2⟩), q14, a0_1, a0_2, a1_2⟩
    · skip
      have he := hed _ rfl
      simp only [Region.binds] at he
      try simp at he
      clear hed
      refine wpOp_step rfl (fun K hK => ?_)
      have g0 := f11 (he.1)
      subst g0
      obtain ⟨cs, hk0, rest⟩ := fK
      have qc := cell_of_block hk0 2
      have qf := frozen_of_block hk0 2
      have hbw : w.heap.size ≤ w.heap.size := Nat.le_refl _
      obtain ⟨va, vc, rfl⟩ := own_slice (f5 he.2.1)
      go_simp
      (try (refine hK _ _ ?_; clear hK K))
      unfold CloI
      refine ⟨_, _, _, _, _, _, _, _, _, _, _, _, rfl, ?_⟩
      simp only [Nat.reduceBEq, Bool.false_or, Bool.true_or, beq_self_eq_true, forall_const]
      exact ⟨fb.setCell hbw _, (by simpa using fs), ⟨(fun j => if j = 2 then (.slice va n vc) else cs j), (block_set hk0 2 _).trans (by simp), (fun h => (rest.1) h), (fun h => (rest.2.1) h), (by intro h; cases h), (by simp), (fun h => (rest.2.2.2.2.1) h), (fun h => (rest.2.2.2.2.2) h)⟩, ((Below.heap_setCell _ _ _ _ (by dsimp only; omega)).trans fx0), (by first | exact f0 | (intros; trivial)), (by first | exact f1 | (intros; trivial)), (fun h => own_any (f2 h) (ne_old (f2 h) (by dsimp only; omega))), (by first | exact f3 | (intros; trivial)), (by first | exact f4 | (intros; trivial)), (fun h => own_any (f5 h) (ne_old (f5 h) (by dsimp only; omega))), (by first | exact f6 | (intros; trivial)), (by first | exact f7 | (intros; trivial)), (fun h => own_any (f8 h) (ne_old (f8 h) (by dsimp only; omega))), (by first | exact f9 | (intros; trivial)), (by first | exact f11 | (intros; trivial)), (by first | exact f13 | (intros; trivial)), q2, q5, q8, q10, ⟨he.1, he.2.1, he.2.2.1⟩, (fun h => ⟨(q14 h).1, (q14 h).2.1, by trivial⟩), a0_1, a0_2, a1_2⟩
    · skip
      have he := hed _ rfl
      simp only [Region.binds] at he
      try simp at he
      clear hed
      refine wpOp_step rfl (fun K hK => ?_)
      go_simp
      (try (refine hK _ _ ?_; clear hK K))
      unfold CloI
      refine ⟨_, _, _, _, _, _, _, _, _, _, _, _, rfl, ?_⟩
      simp only [Nat.reduceBEq, Bool.false_or, Bool.true_or, beq_self_eq_true, forall_const]
      exact ⟨fb, fs, fK, fx0, (by first | exact f0 | (intros; trivial)), (by first | exact f1 | (intros; trivial)), f2, (by first | exact f3 | (intros; trivial)), (by first | exact f4 | (intros; trivial)), f5, (by first | exact f6 | (intros; trivial)), (by first | exact f7 | (intros; trivial)), f8, (by first | exact f9 | (intros; trivial)), (by first | exact f11 | (intros; trivial)), (by intros; trivial), q2, q5, q8, q10, q12, (fun h => ⟨by trivial, (q14 h).2.1, (q14 h).2.2⟩), a0_1, a0_2, a1_2⟩
    · skip
      have he := hed _ rfl
      simp only [Region.binds] at he
      try simp at he
      clear hed
      refine wpOp_step rfl (fun K hK => ?_)
      have g0 := f13 (he.1)
      subst g0
      obtain ⟨cs, hk0, rest⟩ := fK
      have qc := cell_of_block hk0 7
      have qf := frozen_of_block hk0 7
      have hbw : w.heap.size ≤ w.heap.size := Nat.le_refl _
      obtain ⟨va, vc, rfl⟩ := own_slice (f8 he.2.1)
      go_simp
      (try (refine hK _ _ ?_; clear hK K))
      unfold CloI
      refine ⟨_, _, _, _, _, _, _, _, _, _, _, _, rfl, ?_⟩
      simp only [Nat.reduceBEq, Bool.false_or, Bool.true_or, beq_self_eq_true, forall_const]
      exact ⟨fb.setCell hbw _, (by simpa using fs), ⟨(fun j => if j = 7 then (.slice va n vc) else cs j), (block_set hk0 7 _).trans (by simp), (fun h => (rest.1) h), (fun h => (rest.2.1) h), (fun h => (rest.2.2.1) h), (fun h => (rest.2.2.2.1) h), (by intro h; cases h), (by simp)⟩, ((Below.heap_setCell _ _ _ _ (by dsimp only; omega)).trans fx0), (by first | exact f0 | (intros; trivial)), (by first | exact f1 | (intros; trivial)), (fun h => own_any (f2 h) (ne_old (f2 h) (by dsimp only; omega))), (by first | exact f3 | (intros; trivial)), (by first | exact f4 | (intros; trivial)), (fun h => own_any (f5 h) (ne_old (f5 h) (by dsimp only; omega))), (by first | exact f6 | (intros; trivial)), (by first | exact f7 | (intros; trivial)), (fun h => own_any (f8 h) (ne_old (f8 h) (by dsimp only; omega))), (by first | exact f9 | (intros; trivial)), (by first | exact f11 | (intros; trivial)), (by first | exact f13 | (intros; trivial)), q2, q5, q8, q10, q12, ⟨he.1, he.2.1, he.2.2.1⟩, a0_1, a0_2, a1_2⟩
  case hend =>
    intro d a x hI hd
    unfold CloI at hI
    obtain ⟨u3, u4, u5, u6, u7, u8, u9, u10, u11, u12, u13, u14, rfl, fb, fs, fK, fx0, f0, f1, f2, f3, f4, f5, f6, f7, f8, f9, f11, f13, q2, q5, q8, q10, q12, q14, a0_1, a0_2, a1_2⟩ := hI
    obtain ⟨cs, hk0, -, k1, -, k2, -, k3⟩ := fK
    have h2 := f2 (hd 2 (by decide))
    have h5 := f5 (hd 5 (by decide))
    have h8' := f8 (hd 8 (by decide))
    have p1 := a0_1 (hd 2 (by decide)) (hd 5 (by decide))
    have p2 := a0_2 (hd 2 (by decide)) (hd 8 (by decide))
    have p3 := a1_2 (hd 5 (by decide)) (hd 8 (by decide))
    rw [k1 (hd 10 (by decide)), k2 (hd 12 (by decide)), k3 (hd 14 (by decide))] at hk0
    clear f0 f1 f2 f3 f4 f5 f6 f7 f8 f9 f11 f13 q2 q5 q8 q10 q12 q14 a0_1 a0_2 a1_2 hd k1 k2 k3
    obtain ⟨b1, e1, rfl, m1, r1, l1⟩ := RowAt.of_own h2 h11
    obtain ⟨b2, e2, rfl, m2, r2, l2⟩ := RowAt.of_own h5 h11
    obtain ⟨b3, e3, rfl, m3, r3, l3⟩ := RowAt.of_own h8' h11
    have HST : Hid (∀ x', Below x.heap.size x x' ∨ x'.heap[b1]? = x.heap[b1]? ∧ x'.heap[b2]? = x.heap[b2]? ∧ x'.heap[b3]? = x.heap[b3]? → StAt w.heap.size x' n s b1 e1 b2 e2 b3 e3) := by
      intro x' hx
      have hx' : x'.heap[b1]? = x.heap[b1]? ∧ x'.heap[b2]? = x.heap[b2]? ∧ x'.heap[b3]? = x.heap[b3]? := by
        rcases hx with hb | hx
        · exact ⟨hb.block b1 r1.lt, hb.block b2 r2.lt, hb.block b3 r3.lt⟩
        · exact hx
      exact ⟨r1.same hx'.1, r2.same hx'.2.1, r3.same hx'.2.2, HS.out.l1, HS.out.l2, HS.out.l3, h11, h8, by omega, by omega, by omega, fun e => p1 b1 rfl (by rw [e]; rfl), fun e => p2 b1 rfl (by rw [e]; rfl), fun e => p3 b2 rfl (by rw [e]; rfl)⟩
    clear h2 h5 h8' r1 r2 r3 p1 p2 p3
    have FB := Lib.hid fb
    have g0 := cell_of_block hk0 0
    have g1 := cell_of_block hk0 1
    have g2 := cell_of_block hk0 2
    have g3 := cell_of_block hk0 3
    have g4 := cell_of_block hk0 4
    have g5 := cell_of_block hk0 5
    have g6 := cell_of_block hk0 6
    have g7 := cell_of_block hk0 7
    have g8 := cell_of_block hk0 8
    simp at g0 g1 g2 g3 g4 g5 g6 g7 g8
    have t0 := cell_of_block fx0 0
    have t1 := cell_of_block fx0 1
    have t2 := cell_of_block fx0 2
    have t3 := cell_of_block fx0 3
    have t4 := cell_of_block fx0 4
    have t5 := cell_of_block fx0 5
    have t6 := cell_of_block fx0 6
    have t7 := cell_of_block fx0 7
    have t8 := cell_of_block fx0 8
    simp at t0 t1 t2 t3 t4 t5 t6 t7 t8
    have tf := frozen_of_block fx0
    clear hk0 fx0
    go_wp2
    refine bodyPost_ret (v := .agg #[.int .i64 s.day, .slice (some ⟨b1, 0, none⟩) n e1, .slice (some ⟨b2, 0, none⟩) n e2, .int .i64 s.part, .bool s.fixed, .int .i64 s.stop, .bool s.heard, .slice (some ⟨b3, 0, none⟩) n e3, .bool s.ent]) (by simp [results, Tryz.f63, go_sem, t0, t1, t2, t3, t4, t5, t6, t7, t8]) rfl ?_
    refine ⟨b1, e1, b2, e2, b3, e3, rfl, HST.out _ (.inr ⟨?_, ?_, ?_⟩), ?_⟩
    · iterate 9 rw [Below.heap_setCell _ _ _ _ (by dsimp only; omega)]
    · iterate 9 rw [Below.heap_setCell _ _ _ _ (by dsimp only; omega)]
    · iterate 9 rw [Below.heap_setCell _ _ _ _ (by dsimp only; omega)]
    · iterate 9 refine below_set ?_ (by dsimp only; omega) _
      exact FB.out
end Go.Proofs.YthooacpfmjpdmaaGreatDoor
