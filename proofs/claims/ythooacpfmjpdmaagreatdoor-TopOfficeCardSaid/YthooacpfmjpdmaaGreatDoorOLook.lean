/- What an office shows: its state in new memory, and its minutes. Conditions: the office lies in memory as said, and its lock is free. -/
import Derived.Test.YthooacpfmjpdmaaGreatDoorOAt
namespace Go.Proofs.YthooacpfmjpdmaaGreatDoor
open Go.RowKit Go.MuLone

def LookR (w : World) (n : Nat) (x : Off) (e : Ending) (w' : World) : Prop :=
  ∃ h1 d1 h2 d2 h3 d3, e = .returned (.tuple #[stW n x.s h1 d1 h2 d2 h3 d3, .string (minF x.os)]) ∧ StAt w.heap.size w' n x.s h1 d1 h2 d2 h3 d3 ∧ Below w.heap.size w w'
theorem StAt.mono {m m' : Nat} {w : World} {n : Nat} {s : St} {g1 c1 g2 c2 g3 c3 : Nat} (h : StAt m w n s g1 c1 g2 c2 g3 c3) (hm : m' ≤ m) : StAt m' w n s g1 c1 g2 c2 g3 c3 :=
  { h with m1 := Nat.le_trans hm h.m1, m2 := Nat.le_trans hm h.m2, m3 := Nat.le_trans hm h.m3 }
theorem StAt.other {m : Nat} {w : World} {n : Nat} {s : St} {g1 c1 g2 c2 g3 c3 : Nat} (h : StAt m w n s g1 c1 g2 c2 g3 c3) {p : Addr} (hp : p.block < m) (v : Value) : StAt m (w.setCell p v) n s g1 c1 g2 c2 g3 c3 :=
  { h with r1 := h.r1.other (by have := h.m1; omega) v, r2 := h.r2.other (by have := h.m2; omega) v, r3 := h.r3.other (by have := h.m3; omega) v }
def LookI (W0 : World) (B b0 n : Nat) (x0 : St) (g1 c1 g2 c2 g3 c3 : Nat) (mi : ByteArray) (df : List Deferred) (sv1 sv4 sv5 sv6 sv7 sv8 sv9 sv10 sv11 sv12 sv13 : Value) (d : Nat → Bool) (a : Act) (x : World) : Prop :=
  ∃ u3 u14 u15 u16 u17 u18 u19 u20 u21 u22 : Value, a = ⟨#[.pointer (some ⟨B, 0, none⟩), sv1, .pointer (some ⟨b0, 0, none⟩), u3, sv4, sv5, sv6, sv7, sv8, sv9, sv10, sv11, sv12, sv13, u14, u15, u16, u17, u18, u19, u20, u21, u22], df⟩ ∧
    Below b0 W0 x ∧
    W0.heap.size ≤ x.heap.size ∧
    (d 0 = true → u14 = .pointer (some ⟨B, 0, none⟩)) ∧
    (d 1 = true → u15 = .pointer (some ⟨B, 0, none⟩)) ∧
    (d 2 = true → u16 = .pointer (some ⟨B, 5, none⟩)) ∧
    (d 3 = true → u17 = .agg #[.int .i64 x0.day, .slice (some ⟨g1, 0, none⟩) n c1, .slice (some ⟨g2, 0, none⟩) n c2, .int .i64 x0.part, .bool x0.fixed, .int .i64 x0.stop, .bool x0.heard, .slice (some ⟨g3, 0, none⟩) n c3, .bool x0.ent]) ∧
    (d 4 = true → ∃ h1 d1 h2 d2 h3 d3, u18 = stW n x0 h1 d1 h2 d2 h3 d3 ∧ StAt W0.heap.size x n x0 h1 d1 h2 d2 h3 d3 ∧ (d 9 = true → x.heap[b0]? = some (.cells (stC n x0 h1 d1 h2 d2 h3 d3) 90 (0, 0)))) ∧
    (d 5 = true → u19 = .pointer (some ⟨B, 0, none⟩)) ∧
    (d 6 = true → u20 = .pointer (some ⟨B, 0, none⟩)) ∧
    (d 7 = true → u21 = .pointer (some ⟨B, 15, none⟩)) ∧
    (d 8 = true → u22 = .string mi) ∧
    (d 9 = false → x.heap[b0]? = some (.cells #[.int .i64 0, .slice none 0 0, .slice none 0 0, .int .i64 0, .bool false, .int .i64 0, .bool false, .slice none 0 0, .bool false] 90 (0, 0))) ∧
    (d 9 = true → d 4 = true) ∧
    (d 10 = true → u3 = .string mi)
theorem LookI_law (W0 : World) (B b0 n : Nat) (x0 : St) (g1 c1 g2 c2 g3 c3 : Nat) (mi : ByteArray) (df : List Deferred) {sv1 sv4 sv5 sv6 sv7 sv8 sv9 sv10 sv11 sv12 sv13 : Value} {P : Program} {id : Nat} {ops : Array Oper} {Q : Exit → Act → World → Prop} {a : Act} {w : World} (hm : P.follows .mixedOrders = true) (hd : edgesDown ops = true)
    (h0 : LookI W0 B b0 n x0 g1 c1 g2 c2 g3 c3 mi df sv1 sv4 sv5 sv6 sv7 sv8 sv9 sv10 sv11 sv12 sv13 (fun _ => false) a w.drew)
    (hstep : ∀ (d : Nat → Bool) (a : Act) (w : World), LookI W0 B b0 n x0 g1 c1 g2 c2 g3 c3 mi df sv1 sv4 sv5 sv6 sv7 sv8 sv9 sv10 sv11 sv12 sv13 d a w → ∀ i, i < ops.size → d i = false → (∀ o, ops[i]? = some o → ∀ e ∈ o.after, Region.binds .any e = true → d e.on = true) → wpOp P ops Q i (LookI W0 B b0 n x0 g1 c1 g2 c2 g3 c3 mi df sv1 sv4 sv5 sv6 sv7 sv8 sv9 sv10 sv11 sv12 sv13 (fun j => j == i || d j)) a w)
    (hend : ∀ (d : Nat → Bool) (a : Act) (w : World), LookI W0 B b0 n x0 g1 c1 g2 c2 g3 c3 mi df sv1 sv4 sv5 sv6 sv7 sv8 sv9 sv10 sv11 sv12 sv13 d a w → (∀ i, i < ops.size → d i = true) → Q .normal a w) : (Code.region id ops true).wp P Q a w := wp_region_inv hm hd (LookI W0 B b0 n x0 g1 c1 g2 c2 g3 c3 mi df sv1 sv4 sv5 sv6 sv7 sv8 sv9 sv10 sv11 sv12 sv13) h0 hstep hend
set_option maxRecDepth 100000 in
set_option maxHeartbeats 4000000 in
theorem look_calls (m : Nat) (w : World) (B n : Nat) (x : Off) (ov : Value) (h : OffIn m w B n x ov) :
    Calls Tryz.prog 58 #[.pointer (some ⟨B, 0, none⟩)] w (LookR w n x) := by
  obtain ⟨fv, sv, g1, c1, g2, c2, g3, c3, h⟩ := h
  have H := Lib.hid h
  have hB := h.lt
  have hbox := h.box
  unfold offC at hbox
  clear h
  obtain ⟨mi, hmi⟩ : ∃ mi, minF x.os = mi := ⟨_, rfl⟩
  have HMI := Lib.hid hmi
  rw [hmi] at hbox
  clear hmi
  have k0 := (cell_of_block hbox 0).trans (show _ = some (.int .i32 0) from rfl)
  have kf := frozen_of_block hbox 0
  have HBOX := Lib.hid hbox
  clear hbox
  go_enter_defers Tryz.func58, Tryz.ntmps58
  go_wp2_with (go_at_call 59; refine (lock_free muLib ⟨B, 0, none⟩ _ ((below_new (Below.refl _ w) _).cell (p := ⟨B, 0, none⟩) hB |>.trans k0) ((below_new (Below.refl _ w) _).frozen (p := ⟨B, 0, none⟩) hB |>.trans kf)).mono ?_; rintro e w1 ⟨rfl, rfl⟩)
  obtain ⟨W0, hW0⟩ : ∃ W0, (w.setCell ⟨B, 0, none⟩ (.int .i32 1)).alloc (.cells #[.int .i64 0, .slice none 0 0, .slice none 0 0, .int .i64 0, .bool false, .int .i64 0, .bool false, .slice none 0 0, .bool false] 90) = W0 := ⟨_, rfl⟩
  have hsz : W0.heap.size = w.heap.size + 1 := by rw [← hW0]; simp
  have HBX : Hid (W0.heap[B]? = some (.cells ((#[.int .i32 0, .int .u32 0, .int .i64 x.c.first, fv, sv, .int .i64 x.s.day, .slice (some ⟨g1, 0, none⟩) n c1, .slice (some ⟨g2, 0, none⟩) n c2, .int .i64 x.s.part, .bool x.s.fixed, .int .i64 x.s.stop, .bool x.s.heard, .slice (some ⟨g3, 0, none⟩) n c3, .bool x.s.ent, ov, .string mi] : Array Value).setIfInBounds 0 (.int .i32 1)) 99 (0, 0))) := by
    show _ = _
    rw [← hW0]
    exact (Below.heap_alloc _ _ _ (by simpa using hB)).trans (block_set HBOX.out 0 _)
  have HOT : Hid (∀ b, b < w.heap.size → b ≠ B → W0.heap[b]? = w.heap[b]?) := by
    intro b hb hne
    rw [← hW0, Below.heap_alloc _ _ _ (by simpa using hb), Below.heap_setCell _ _ _ _ (by exact hne)]
  have HW : Hid (W0.os = w.os ∧ W0.tape = w.tape ∧ W0.output = w.output) := by
    show _ ∧ _
    rw [← hW0]
    have hb : Below 0 w ((w.setCell ⟨B, 0, none⟩ (.int .i32 1)).alloc (.cells #[.int .i64 0, .slice none 0 0, .slice none 0 0, .int .i64 0, .bool false, .int .i64 0, .bool false, .slice none 0 0, .bool false] 90)) := ((Below.refl 0 w).setCell (Nat.zero_le _) _).alloc (Nat.zero_le _) _
    exact ⟨hb.os, hb.tape, hb.output⟩
  have z0 : W0.heap[w.heap.size]? = some (.cells #[.int .i64 0, .slice none 0 0, .slice none 0 0, .int .i64 0, .bool false, .int .i64 0, .bool false, .slice none 0 0, .bool false] 90 (0, 0)) := by
    rw [← hW0]; exact alloc_new _ _ (by simp)
  have HST : Hid (StAt m W0 n x.s g1 c1 g2 c2 g3 c3) := H.out.st.same (HOT.out _ H.out.st.r1.lt H.out.e1) (HOT.out _ H.out.st.r2.lt H.out.e2) (HOT.out _ H.out.st.r3.lt H.out.e3)
  have hB0 : B < w.heap.size := hB
  have b5 := (cell_of_block HBX.out 5).trans (show _ = some (.int .i64 x.s.day) from rfl)
  have b6 := (cell_of_block HBX.out 6).trans (show _ = some (.slice (some ⟨g1, 0, none⟩) n c1) from rfl)
  have b7 := (cell_of_block HBX.out 7).trans (show _ = some (.slice (some ⟨g2, 0, none⟩) n c2) from rfl)
  have b8 := (cell_of_block HBX.out 8).trans (show _ = some (.int .i64 x.s.part) from rfl)
  have b9 := (cell_of_block HBX.out 9).trans (show _ = some (.bool x.s.fixed) from rfl)
  have b10 := (cell_of_block HBX.out 10).trans (show _ = some (.int .i64 x.s.stop) from rfl)
  have b11 := (cell_of_block HBX.out 11).trans (show _ = some (.bool x.s.heard) from rfl)
  have b12 := (cell_of_block HBX.out 12).trans (show _ = some (.slice (some ⟨g3, 0, none⟩) n c3) from rfl)
  have b13 := (cell_of_block HBX.out 13).trans (show _ = some (.bool x.s.ent) from rfl)
  have b15 := (cell_of_block HBX.out 15).trans (show _ = some (.string mi) from rfl)
  rw [hW0]
  have HZ0 := Lib.hid z0
  clear hW0 z0 k0 kf
  have HCL : Hid (∀ y, Below w.heap.size W0 y → Calls Tryz.prog 63 #[.agg #[.int .i64 x.s.day, .slice (some ⟨g1, 0, none⟩) n c1, .slice (some ⟨g2, 0, none⟩) n c2, .int .i64 x.s.part, .bool x.s.fixed, .int .i64 x.s.stop, .bool x.s.heard, .slice (some ⟨g3, 0, none⟩) n c3, .bool x.s.ent]] y fun e w' => ∃ h1 d1 h2 d2 h3 d3, e = .returned (stW n x.s h1 d1 h2 d2 h3 d3) ∧ StAt y.heap.size w' n x.s h1 d1 h2 d2 h3 d3 ∧ Below y.heap.size y w') := by
    intro y fy
    have := clone_calls m y n x.s g1 c1 g2 c2 g3 c3 (HST.out.same (fy.block _ H.out.st.r1.lt) (fy.block _ H.out.st.r2.lt) (fy.block _ H.out.st.r3.lt))
    unfold stW at this ⊢
    exact this
  obtain ⟨b0, hb0⟩ : ∃ b0, w.heap.size = b0 := ⟨_, rfl⟩
  rw [hb0] at hsz hB0 HZ0 HCL ⊢
  obtain ⟨x0, hx0⟩ : ∃ x0, x.s = x0 := ⟨_, rfl⟩
  have HX0 := Lib.hid hx0
  simp only [hx0] at HCL HST b5 b6 b7 b8 b9 b10 b11 b12 b13
  have HB0 := Lib.hid hb0
  clear hb0 hx0
  apply LookI_law W0 B b0 n x0 g1 c1 g2 c2 g3 c3 mi [{ target := .fn (.func 60) #[], args := #[.pointer (some ⟨B, 0, none⟩)] }] mixed (by kernel_rfl)
  case h0 =>
    unfold LookI
    refine ⟨_, _, _, _, _, _, _, _, _, _, rfl, (by (repeat' (first | exact Below.refl _ _ | assumption | refine below_new ?_ _ | refine below_draw ?_ | refine below_tail (by assumption) ?_ | refine below_set ?_ (by first | omega | (simp <;> omega)) _)) : Below W0.heap.size W0 W0.drew).mono (by omega), by simp, ?_⟩
    simp only [Bool.false_eq_true, false_implies, true_and, and_true, forall_const]
    exact (by (repeat' (first | exact Below.refl _ _ | assumption | refine below_new ?_ _ | refine below_draw ?_ | refine below_tail (by assumption) ?_ | refine below_set ?_ (by first | omega | (simp <;> omega)) _)) : Below W0.heap.size W0 _).block b0 (by omega) |>.trans HZ0.out
  case hstep =>
    intro d a y hI i hi hdi hed
    unfold LookI at hI
    obtain ⟨u3, u14, u15, u16, u17, u18, u19, u20, u21, u22, rfl, fb, fs, f0, f1, f2, f3, f4, f5, f6, f7, f8, f9, q9, f10⟩ := hI
    have hi' : i < 11 := hi
    clear hi
    rcases (show i = 0 ∨ i = 1 ∨ i = 2 ∨ i = 3 ∨ i = 4 ∨ i = 5 ∨ i = 6 ∨ i = 7 ∨ i = 8 ∨ i = 9 ∨ i = 10 by omega) with rfl | rfl | rfl | rfl | rfl | rfl | rfl | rfl | rfl | rfl | rfl
    · have he := hed _ rfl
      simp only [Region.binds] at he
      try simp at he
      clear hed
      refine wpOp_step rfl (fun K hK => ?_)
      go_simp
      (try (refine hK _ _ ?_; clear hK K))
      unfold LookI
      refine ⟨_, _, _, _, _, _, _, _, _, _, rfl, ?_⟩
      simp only [Nat.reduceBEq, Bool.false_or, Bool.true_or, beq_self_eq_true, forall_const]
      exact ⟨fb, fs, (by first | rfl | trivial), (by first | exact f1 | (intros; trivial) | (intros; rfl)), (by first | exact f2 | (intros; trivial) | (intros; rfl)), (by first | exact f3 | (intros; trivial) | (intros; rfl)), f4, (by first | exact f5 | (intros; trivial) | (intros; rfl)), (by first | exact f6 | (intros; trivial) | (intros; rfl)), (by first | exact f7 | (intros; trivial) | (intros; rfl)), (by first | exact f8 | (intros; trivial) | (intros; rfl)), f9, (by first | exact q9 | (intros; trivial) | simpa using q9), (by first | exact f10 | (intros; trivial) | (intros; rfl))⟩
    · have he := hed _ rfl
      simp only [Region.binds] at he
      try simp at he
      clear hed
      refine wpOp_step rfl (fun K hK => ?_)
      have g0 := f0 he
      subst g0
      go_simp
      (try (refine hK _ _ ?_; clear hK K))
      unfold LookI
      refine ⟨_, _, _, _, _, _, _, _, _, _, rfl, ?_⟩
      simp only [Nat.reduceBEq, Bool.false_or, Bool.true_or, beq_self_eq_true, forall_const]
      exact ⟨fb, fs, (by first | exact f0 | (intros; trivial) | (intros; rfl)), (by first | rfl | trivial), (by first | exact f2 | (intros; trivial) | (intros; rfl)), (by first | exact f3 | (intros; trivial) | (intros; rfl)), f4, (by first | exact f5 | (intros; trivial) | (intros; rfl)), (by first | exact f6 | (intros; trivial) | (intros; rfl)), (by first | exact f7 | (intros; trivial) | (intros; rfl)), (by first | exact f8 | (intros; trivial) | (intros; rfl)), f9, (by first | exact q9 | (intros; trivial) | simpa using q9), (by first | exact f10 | (intros; trivial) | (intros; rfl))⟩
    · have he := hed _ rfl
      simp only [Region.binds] at he
      try simp at he
      clear hed
      refine wpOp_step rfl (fun K hK => ?_)
      have g1 := f1 he
      subst g1
      go_simp
      (try (refine hK _ _ ?_; clear hK K))
      unfold LookI
      refine ⟨_, _, _, _, _, _, _, _, _, _, rfl, ?_⟩
      simp only [Nat.reduceBEq, Bool.false_or, Bool.true_or, beq_self_eq_true, forall_const]
      exact ⟨fb, fs, (by first | exact f0 | (intros; trivial) | (intros; rfl)), (by first | exact f1 | (intros; trivial) | (intros; rfl)), (by first | rfl | trivial), (by first | exact f3 | (intros; trivial) | (intros; rfl)), f4, (by first | exact f5 | (intros; trivial) | (intros; rfl)), (by first | exact f6 | (intros; trivial) | (intros; rfl)), (by first | exact f7 | (intros; trivial) | (intros; rfl)), (by first | exact f8 | (intros; trivial) | (intros; rfl)), f9, (by first | exact q9 | (intros; trivial) | simpa using q9), (by first | exact f10 | (intros; trivial) | (intros; rfl))⟩
    · have he := hed _ rfl
      simp only [Region.binds] at he
      try simp at he
      clear hed
      refine wpOp_step rfl (fun K hK => ?_)
      have g2 := f2 he
      subst g2
      have qc5 := (fb.cell (p := ⟨B, 5, none⟩) hB0).trans b5
      have qc6 := (fb.cell (p := ⟨B, 6, none⟩) hB0).trans b6
      have qc7 := (fb.cell (p := ⟨B, 7, none⟩) hB0).trans b7
      have qc8 := (fb.cell (p := ⟨B, 8, none⟩) hB0).trans b8
      have qc9 := (fb.cell (p := ⟨B, 9, none⟩) hB0).trans b9
      have qc10 := (fb.cell (p := ⟨B, 10, none⟩) hB0).trans b10
      have qc11 := (fb.cell (p := ⟨B, 11, none⟩) hB0).trans b11
      have qc12 := (fb.cell (p := ⟨B, 12, none⟩) hB0).trans b12
      have qc13 := (fb.cell (p := ⟨B, 13, none⟩) hB0).trans b13
      go_simp
      (try (refine hK _ _ ?_; clear hK K))
      unfold LookI
      refine ⟨_, _, _, _, _, _, _, _, _, _, rfl, ?_⟩
      simp only [Nat.reduceBEq, Bool.false_or, Bool.true_or, beq_self_eq_true, forall_const]
      exact ⟨fb, fs, (by first | exact f0 | (intros; trivial) | (intros; rfl)), (by first | exact f1 | (intros; trivial) | (intros; rfl)), (by first | exact f2 | (intros; trivial) | (intros; rfl)), (by first | rfl | trivial), f4, (by first | exact f5 | (intros; trivial) | (intros; rfl)), (by first | exact f6 | (intros; trivial) | (intros; rfl)), (by first | exact f7 | (intros; trivial) | (intros; rfl)), (by first | exact f8 | (intros; trivial) | (intros; rfl)), f9, (by first | exact q9 | (intros; trivial) | simpa using q9), (by first | exact f10 | (intros; trivial) | (intros; rfl))⟩
    · have he := hed _ rfl
      simp only [Region.binds] at he
      try simp at he
      clear hed
      refine wpOp_step rfl (fun K hK => ?_)
      have g3 := f3 he
      subst g3
      have h9 : d 9 = false := by cases h : d 9 with | false => rfl | true => exact absurd (q9 h) (by rw [hdi]; decide)
      go_wp2_with (go_at_call 63; (refine (HCL.out _ fb).mono ?_); rintro e6 y6 ⟨h1, d1, h2, d2, h3, d3, rfl, HI6, hb6⟩)
      (try (refine hK _ _ ?_; clear hK K))
      unfold LookI
      refine ⟨_, _, _, _, _, _, _, _, _, _, rfl, ?_⟩
      simp only [Nat.reduceBEq, Bool.false_or, Bool.true_or, beq_self_eq_true, forall_const]
      exact ⟨fb.trans (hb6.mono (by omega)), Nat.le_trans fs hb6.size, (by first | exact f0 | (intros; trivial) | (intros; rfl)), (by first | exact f1 | (intros; trivial) | (intros; rfl)), (by first | exact f2 | (intros; trivial) | (intros; rfl)), (by first | exact f3 | (intros; trivial) | (intros; rfl)), ⟨h1, d1, h2, d2, h3, d3, rfl, HI6.mono fs, fun h => (by rw [h9] at h; cases h)⟩, (by first | exact f5 | (intros; trivial) | (intros; rfl)), (by first | exact f6 | (intros; trivial) | (intros; rfl)), (by first | exact f7 | (intros; trivial) | (intros; rfl)), (by first | exact f8 | (intros; trivial) | (intros; rfl)), (fun h => (hb6.block b0 (by omega)).trans (f9 h)), (fun _ => trivial), (by first | exact f10 | (intros; trivial) | (intros; rfl))⟩
    · have he := hed _ rfl
      simp only [Region.binds] at he
      try simp at he
      clear hed
      refine wpOp_step rfl (fun K hK => ?_)
      go_simp
      (try (refine hK _ _ ?_; clear hK K))
      unfold LookI
      refine ⟨_, _, _, _, _, _, _, _, _, _, rfl, ?_⟩
      simp only [Nat.reduceBEq, Bool.false_or, Bool.true_or, beq_self_eq_true, forall_const]
      exact ⟨fb, fs, (by first | exact f0 | (intros; trivial) | (intros; rfl)), (by first | exact f1 | (intros; trivial) | (intros; rfl)), (by first | exact f2 | (intros; trivial) | (intros; rfl)), (by first | exact f3 | (intros; trivial) | (intros; rfl)), f4, (by first | rfl | trivial), (by first | exact f6 | (intros; trivial) | (intros; rfl)), (by first | exact f7 | (intros; trivial) | (intros; rfl)), (by first | exact f8 | (intros; trivial) | (intros; rfl)), f9, (by first | exact q9 | (intros; trivial) | simpa using q9), (by first | exact f10 | (intros; trivial) | (intros; rfl))⟩
    · have he := hed _ rfl
      simp only [Region.binds] at he
      try simp at he
      clear hed
      refine wpOp_step rfl (fun K hK => ?_)
      have g5 := f5 he
      subst g5
      go_simp
      (try (refine hK _ _ ?_; clear hK K))
      unfold LookI
      refine ⟨_, _, _, _, _, _, _, _, _, _, rfl, ?_⟩
      simp only [Nat.reduceBEq, Bool.false_or, Bool.true_or, beq_self_eq_true, forall_const]
      exact ⟨fb, fs, (by first | exact f0 | (intros; trivial) | (intros; rfl)), (by first | exact f1 | (intros; trivial) | (intros; rfl)), (by first | exact f2 | (intros; trivial) | (intros; rfl)), (by first | exact f3 | (intros; trivial) | (intros; rfl)), f4, (by first | exact f5 | (intros; trivial) | (intros; rfl)), (by first | rfl | trivial), (by first | exact f7 | (intros; trivial) | (intros; rfl)), (by first | exact f8 | (intros; trivial) | (intros; rfl)), f9, (by first | exact q9 | (intros; trivial) | simpa using q9), (by first | exact f10 | (intros; trivial) | (intros; rfl))⟩
    · have he := hed _ rfl
      simp only [Region.binds] at he
      try simp at he
      clear hed
      refine wpOp_step rfl (fun K hK => ?_)
      have g6 := f6 he
      subst g6
      go_simp
      (try (refine hK _ _ ?_; clear hK K))
      unfold LookI
      refine ⟨_, _, _, _, _, _, _, _, _, _, rfl, ?_⟩
      simp only [Nat.reduceBEq, Bool.false_or, Bool.true_or, beq_self_eq_true, forall_const]
      exact ⟨fb, fs, (by first | exact f0 | (intros; trivial) | (intros; rfl)), (by first | exact f1 | (intros; trivial) | (intros; rfl)), (by first | exact f2 | (intros; trivial) | (intros; rfl)), (by first | exact f3 | (intros; trivial) | (intros; rfl)), f4, (by first | exact f5 | (intros; trivial) | (intros; rfl)), (by first | exact f6 | (intros; trivial) | (intros; rfl)), (by first | rfl | trivial), (by first | exact f8 | (intros; trivial) | (intros; rfl)), f9, (by first | exact q9 | (intros; trivial) | simpa using q9), (by first | exact f10 | (intros; trivial) | (intros; rfl))⟩
    · have he := hed _ rfl
      simp only [Region.binds] at he
      try simp at he
      clear hed
      refine wpOp_step rfl (fun K hK => ?_)
      have g7 := f7 he
      subst g7
      have qc15 := (fb.cell (p := ⟨B, 15, none⟩) hB0).trans b15
      go_simp
      (try (refine hK _ _ ?_; clear hK K))
      unfold LookI
      refine ⟨_, _, _, _, _, _, _, _, _, _, rfl, ?_⟩
      simp only [Nat.reduceBEq, Bool.false_or, Bool.true_or, beq_self_eq_true, forall_const]
      exact ⟨fb, fs, (by first | exact f0 | (intros; trivial) | (intros; rfl)), (by first | exact f1 | (intros; trivial) | (intros; rfl)), (by first | exact f2 | (intros; trivial) | (intros; rfl)), (by first | exact f3 | (intros; trivial) | (intros; rfl)), f4, (by first | exact f5 | (intros; trivial) | (intros; rfl)), (by first | exact f6 | (intros; trivial) | (intros; rfl)), (by first | exact f7 | (intros; trivial) | (intros; rfl)), (by first | rfl | trivial), f9, (by first | exact q9 | (intros; trivial) | simpa using q9), (by first | exact f10 | (intros; trivial) | (intros; rfl))⟩
    · have he := hed _ rfl
      simp only [Region.binds] at he
      try simp at he
      clear hed
      refine wpOp_step rfl (fun K hK => ?_)
      have hd4 : d 4 = true := by first | exact he.1 | exact he
      obtain ⟨h1, d1, h2, d2, h3, d3, rfl, hs6, -⟩ := f4 hd4
      have hz := f9 hdi
      have y0 := cell_of_block hz 0
      have y1 := cell_of_block hz 1
      have y2 := cell_of_block hz 2
      have y3 := cell_of_block hz 3
      have y4 := cell_of_block hz 4
      have y5 := cell_of_block hz 5
      have y6 := cell_of_block hz 6
      have y7 := cell_of_block hz 7
      have y8 := cell_of_block hz 8
      simp only [List.getElem?_toArray, List.getElem?_cons_zero, List.getElem?_cons_succ] at y0 y1 y2 y3 y4 y5 y6 y7 y8
      have yf := frozen_of_block hz
      have HZ := Lib.hid hz
      have HS6 := Lib.hid hs6
      clear hz hs6
      unfold stW
      go_simp
      (try (refine hK _ _ ?_; clear hK K))
      unfold LookI
      refine ⟨_, _, _, _, _, _, _, _, _, _, rfl, ?_⟩
      simp only [Nat.reduceBEq, Bool.false_or, Bool.true_or, beq_self_eq_true, forall_const]
      exact ⟨(((((((((fb.setCell (p := ⟨b0, 0, none⟩) (Nat.le_refl _) _).setCell (p := ⟨b0, 1, none⟩) (Nat.le_refl _) _).setCell (p := ⟨b0, 2, none⟩) (Nat.le_refl _) _).setCell (p := ⟨b0, 3, none⟩) (Nat.le_refl _) _).setCell (p := ⟨b0, 4, none⟩) (Nat.le_refl _) _).setCell (p := ⟨b0, 5, none⟩) (Nat.le_refl _) _).setCell (p := ⟨b0, 6, none⟩) (Nat.le_refl _) _).setCell (p := ⟨b0, 7, none⟩) (Nat.le_refl _) _).setCell (p := ⟨b0, 8, none⟩) (Nat.le_refl _) _), (by simpa using fs), (by first | exact f0 | (intros; trivial) | (intros; rfl)), (by first | exact f1 | (intros; trivial) | (intros; rfl)), (by first | exact f2 | (intros; trivial) | (intros; rfl)), (by first | exact f3 | (intros; trivial) | (intros; rfl)), (fun _ => ⟨h1, d1, h2, d2, h3, d3, rfl, (by refine StAt.other ?_ (by first | omega | (dsimp only; omega)) _; refine StAt.other ?_ (by first | omega | (dsimp only; omega)) _; refine StAt.other ?_ (by first | omega | (dsimp only; omega)) _; refine StAt.other ?_ (by first | omega | (dsimp only; omega)) _; refine StAt.other ?_ (by first | omega | (dsimp only; omega)) _; refine StAt.other ?_ (by first | omega | (dsimp only; omega)) _; refine StAt.other ?_ (by first | omega | (dsimp only; omega)) _; refine StAt.other ?_ (by first | omega | (dsimp only; omega)) _; refine StAt.other ?_ (by first | omega | (dsimp only; omega)) _; exact HS6.out), fill9 HZ.out⟩), (by first | exact f5 | (intros; trivial) | (intros; rfl)), (by first | exact f6 | (intros; trivial) | (intros; rfl)), (by first | exact f7 | (intros; trivial) | (intros; rfl)), (by first | exact f8 | (intros; trivial) | (intros; rfl)), (fun h => by cases h), hd4, (by first | exact f10 | (intros; trivial) | (intros; rfl))⟩
    · have he := hed _ rfl
      simp only [Region.binds] at he
      try simp at he
      clear hed
      refine wpOp_step rfl (fun K hK => ?_)
      have hd8 : d 8 = true := by first | exact he.1 | exact he
      have g8 := f8 hd8
      subst g8
      go_simp
      (try (refine hK _ _ ?_; clear hK K))
      unfold LookI
      refine ⟨_, _, _, _, _, _, _, _, _, _, rfl, ?_⟩
      simp only [Nat.reduceBEq, Bool.false_or, Bool.true_or, beq_self_eq_true, forall_const]
      exact ⟨fb, fs, (by first | exact f0 | (intros; trivial) | (intros; rfl)), (by first | exact f1 | (intros; trivial) | (intros; rfl)), (by first | exact f2 | (intros; trivial) | (intros; rfl)), (by first | exact f3 | (intros; trivial) | (intros; rfl)), f4, (by first | exact f5 | (intros; trivial) | (intros; rfl)), (by first | exact f6 | (intros; trivial) | (intros; rfl)), (by first | exact f7 | (intros; trivial) | (intros; rfl)), (by first | exact f8 | (intros; trivial) | (intros; rfl)), f9, (by first | exact q9 | (intros; trivial) | simpa using q9), (by first | rfl | trivial)⟩
  case hend =>
    intro d a y hI hall
    unfold LookI at hI
    obtain ⟨u3, u14, u15, u16, u17, u18, u19, u20, u21, u22, rfl, fb, fs, f0, f1, f2, f3, f4, f5, f6, f7, f8, f9, q9, f10⟩ := hI
    have g10 := f10 (hall 10 (by decide))
    subst g10
    obtain ⟨h1, d1, h2, d2, h3, d3, rfl, hs, hx⟩ := f4 (hall 4 (by decide))
    have hz := hx (hall 9 (by decide))
    have HS := Lib.hid hs
    have FB := Lib.hid fb
    clear f0 f1 f2 f3 f4 f5 f6 f7 f8 f9 f10 q9 hx hs
    have hbB := (fb.block B hB0).trans HBX.out
    unfold stC at hz
    have HHZ := Lib.hid hz
    have HHB := Lib.hid hbB
    have hyB : y.cell? ⟨B, 0, none⟩ = some (.int .i32 1) := (cell_of_block hbB 0).trans (by simp)
    have hyf : y.frozen? ⟨B, 0, none⟩ = false := frozen_of_block hbB 0
    clear hz hbB fb
    go_wp2
    refine leaves_cons (f := 60) (args := #[.pointer (some ⟨B, 0, none⟩)]) (by simp) (by simp [go_sem]) ?_
    refine (unlock_deferred muLib ⟨B, 0, none⟩ .returning _ hyB hyf).mono ?_
    rintro e u' w'' ⟨rfl, rfl, rfl⟩
    have hYb : ∀ b, b ≠ B → (y.setCell ⟨B, 0, none⟩ (.int .i32 0)).heap[b]? = y.heap[b]? := fun b hb => Below.heap_setCell _ _ _ _ hb
    have HY2 := Lib.hid ((Below.refl 0 y).setCell (p := ⟨B, 0, none⟩) (Nat.zero_le _) (.int .i32 0))
    have HYB : Hid ((y.setCell ⟨B, 0, none⟩ (.int .i32 0)).heap[B]? = w.heap[B]?) := relock HBOX.out (by simp) y HHB.out
    obtain ⟨Y, hY⟩ : ∃ Y, y.setCell ⟨B, 0, none⟩ (.int .i32 0) = Y := ⟨_, rfl⟩
    rw [hY] at hYb HY2 HYB ⊢
    clear hY
    have hz2 := (hYb b0 (by omega)).trans HHZ.out
    have t0 := cell_of_block hz2 0
    have t1 := cell_of_block hz2 1
    have t2 := cell_of_block hz2 2
    have t3 := cell_of_block hz2 3
    have t4 := cell_of_block hz2 4
    have t5 := cell_of_block hz2 5
    have t6 := cell_of_block hz2 6
    have t7 := cell_of_block hz2 7
    have t8 := cell_of_block hz2 8
    simp at t0 t1 t2 t3 t4 t5 t6 t7 t8
    have hg1 := HS.out.m1
    have hg2 := HS.out.m2
    have hg3 := HS.out.m3
    have hBel : Below w.heap.size w Y := by
      obtain ⟨o1, o2, o3⟩ := HW.out
      refine ⟨HY2.out.os.trans (FB.out.os.trans o1), HY2.out.tape.trans (FB.out.tape.trans o2), HY2.out.output.trans (FB.out.output.trans o3), by have := HY2.out.size; have := HB0.out; omega, fun b hb => ?_⟩
      by_cases hbB : b = B
      · rw [hbB]; exact HYB.out
      · rw [hYb b hbB, FB.out.block b (by have := HB0.out; omega), HOT.out b hb hbB]
    refine ⟨.tuple #[stW n x0 h1 d1 h2 d2 h3 d3, .string mi], by unfold stW; simp [results, Tryz.f58, go_sem, t0, t1, t2, t3, t4, t5, t6, t7, t8], ?_⟩
    refine ⟨h1, d1, h2, d2, h3, d3, by rw [HX0.out, HMI.out], ?_, hBel⟩
    rw [HX0.out]
    exact (HS.out.same (hYb _ (by omega)) (hYb _ (by omega)) (hYb _ (by omega))).mono (by have := HB0.out; omega)
end Go.Proofs.YthooacpfmjpdmaaGreatDoor
