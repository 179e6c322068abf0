/- An office does an order. Conditions: the office lies in memory as said, its lock is free, the library's variables read as they were laid. -/
import Derived.Test.YthooacpfmjpdmaaGreatDoorOLook
import Derived.Test.YthooacpfmjpdmaaGreatDoorODo
namespace Go.Proofs.YthooacpfmjpdmaaGreatDoor
open Go.RowKit Go.MuLone

theorem Env.low {w w' : World} (h : Env w) (hb : Below 9 w w') : Env w' := by
  obtain ⟨h1, ⟨m, h2⟩, h3, ⟨t, p, h4⟩, ⟨t2, p2, h5⟩⟩ := h
  refine ⟨(hb.cell (p := ⟨_, 0, none⟩) (by decide)).trans h1, ⟨m, (hb.cell (p := ⟨_, 0, none⟩) (by decide)).trans h2⟩, ?_, ⟨t, p, (hb.cell (p := ⟨_, 0, none⟩) (by decide)).trans h4⟩, ⟨t2, p2, (hb.cell (p := ⟨_, 0, none⟩) (by decide)).trans h5⟩⟩
  unfold Lib.TabIs at h3 ⊢
  simp only [World.var?, pow_named, Option.bind_some] at h3 ⊢
  rw [hb.block _ (by decide)]; exact h3
theorem fill5 {w : World} {b : Nat} {t : TypeId} {a0 a1 a2 a3 a4 a5 a6 a7 a8 a9 a10 a11 a12 a13 a14 a15 v0 v1 v2 v3 v4 v5 v6 v7 v8 : Value} (h : w.heap[b]? = some (.cells #[a0, a1, a2, a3, a4, a5, a6, a7, a8, a9, a10, a11, a12, a13, a14, a15] t (0, 0))) :
    (((((((((w.setCell ⟨b, 5, none⟩ v0).setCell ⟨b, 6, none⟩ v1).setCell ⟨b, 7, none⟩ v2).setCell ⟨b, 8, none⟩ v3).setCell ⟨b, 9, none⟩ v4).setCell ⟨b, 10, none⟩ v5).setCell ⟨b, 11, none⟩ v6).setCell ⟨b, 12, none⟩ v7).setCell ⟨b, 13, none⟩ v8).heap[b]? = some (.cells #[a0, a1, a2, a3, a4, v0, v1, v2, v3, v4, v5, v6, v7, v8, a14, a15] t (0, 0)) :=
  (block_set (block_set (block_set (block_set (block_set (block_set (block_set (block_set (block_set h 5 v0) 6 v1) 7 v2) 8 v3) 9 v4) 10 v5) 11 v6) 12 v7) 13 v8).trans (by simp)
/-- Only block B and the rows of ov have changed. -/
structure Only (B : Nat) (ov : Value) (w w' : World) : Prop where
  os : w'.os = w.os
  tape : w'.tape = w.tape
  output : w'.output = w.output
  size : w.heap.size ≤ w'.heap.size
  block : ∀ b, b < w.heap.size → b ≠ B → ov.ownBlock ≠ some b → w'.heap[b]? = w.heap[b]?
theorem Only.below {m B : Nat} {ov : Value} {w w' : World} (h : Only B ov w w') (hB : m ≤ B) (hw : m ≤ w.heap.size) (ho : ∀ b, ov.ownBlock = some b → m ≤ b) : Below m w w' :=
  ⟨h.os, h.tape, h.output, h.size, fun b hb => h.block b (by omega) (by omega) (fun e => by have := ho b e; omega)⟩
theorem Only.refl (B : Nat) (ov : Value) (w : World) : Only B ov w w := ⟨rfl, rfl, rfl, Nat.le_refl _, fun _ _ _ _ => rfl⟩
theorem Only.of_below {B : Nat} {ov : Value} {w w' : World} (h : Below w.heap.size w w') : Only B ov w w' := ⟨h.os, h.tape, h.output, h.size, fun b hb _ _ => h.block b hb⟩
theorem Only.trans {B : Nat} {ov ov' : Value} {a b c : World} (h : Only B ov a b) (k : Only B ov' b c) (hn : ∀ i, ov'.ownBlock = some i → ov.ownBlock = some i ∨ a.heap.size ≤ i) : Only B ov a c :=
  ⟨k.os.trans h.os, k.tape.trans h.tape, k.output.trans h.output, Nat.le_trans h.size k.size, fun i hi hB ho => (k.block i (Nat.lt_of_lt_of_le hi h.size) hB (fun e => (hn i e).elim ho (fun hh => by omega))).trans (h.block i hi hB ho)⟩
/-- What Do returns, and what it leaves. -/
def DoO (m : Nat) (w : World) (B n : Nat) (x : Off) (ov : Value) (o : ByteArray) (e : Ending) (w' : World) : Prop :=
  e = .returned (.int .i64 (stepE x o)) ∧ Only B ov w w' ∧ ∃ ov', OffIn m w' B n (stepO x o) ov' ∧ ∀ b, ov'.ownBlock = some b → ov.ownBlock = some b ∨ w.heap.size ≤ b
theorem parse_any (s : ByteArray) (w : World) (he : Env w) : Calls Tryz.prog 61 #[.string s] w fun e w' => Below w.heap.size w w' ∧ ParseR (parseF s) w e w' := by
  by_cases h : 1 ≤ s.size ∧ s.size ≤ 30
  · exact parse_main s w he h.1 h.2
  · refine (parse_long s w h).mono ?_
    rintro e w' ⟨rfl, hb⟩
    have hn : parseF s = none := by unfold parseF; rw [if_neg h]
    exact ⟨hb, parseR_none hn rfl⟩
theorem own_ty {w : World} {base e size n : Nat} {v : Value} {xs : List Value} {b : Nat} (h : w.ownsRow base e size v n xs) (hb : v.ownBlock = some b) : ∃ cs, w.heap[b]? = some (.cells cs e (0, 0)) := by
  obtain ⟨_, ⟨hv, _⟩ | ⟨g, cap, cur, hv, _, hh, _⟩⟩ := h
  · rw [hv] at hb; cases hb
  · rw [hv] at hb; cases hb; exact ⟨_, hh⟩
theorem fr_ne {m : Nat} {w : World} {B n : Nat} {x : Off} {fv sv ov : Value} {g1 c1 g2 c2 g3 c3 b : Nat} (h : OffAt m w B n x fv sv g1 c1 g2 c2 g3 c3 ov) (hb : fv.ownBlock = some b) : b ≠ B ∧ ov.ownBlock ≠ some b := by
  obtain ⟨cs, hc⟩ := own_ty h.fr hb
  refine ⟨ty_ne hc h.box (by decide), fun e => ?_⟩
  obtain ⟨ds, hd⟩ := own_ty h.od e
  exact ty_ne hc hd (by decide) rfl
theorem sp_ne {m : Nat} {w : World} {B n : Nat} {x : Off} {fv sv ov : Value} {g1 c1 g2 c2 g3 c3 b : Nat} (h : OffAt m w B n x fv sv g1 c1 g2 c2 g3 c3 ov) (hb : sv.ownBlock = some b) : b ≠ B ∧ ov.ownBlock ≠ some b := by
  obtain ⟨cs, hc⟩ := own_ty h.sp hb
  refine ⟨ty_ne hc h.box (by decide), fun e => ?_⟩
  obtain ⟨ds, hd⟩ := own_ty h.od e
  exact ty_ne hc hd (by decide) rfl
/-- The lock is given back. -/
theorem unlocked {m : Nat} {w : World} {B n : Nat} {x : Off} {fv sv ov : Value} {g1 c1 g2 c2 g3 c3 : Nat} (h : OffAt m w B n x fv sv g1 c1 g2 c2 g3 c3 ov) {y : World} (hy : Below (w.setCell ⟨B, 0, none⟩ (.int .i32 1)).heap.size (w.setCell ⟨B, 0, none⟩ (.int .i32 1)) y) :
    Below w.heap.size w (y.setCell ⟨B, 0, none⟩ (.int .i32 0)) := by
  have hbox := h.box
  have h1 := block_set hbox 0 (.int .i32 1)
  have hB := h.lt
  have h2 := (hy.block B (by simpa using hB)).trans h1
  have h3 := relock hbox (by rfl) y h2
  have hs := hy.size
  have k1 : Below 0 w (w.setCell ⟨B, 0, none⟩ (.int .i32 1)) := (Below.refl 0 w).setCell (Nat.zero_le _) _
  have k2 : Below 0 y (y.setCell ⟨B, 0, none⟩ (.int .i32 0)) := (Below.refl 0 y).setCell (Nat.zero_le _) _
  refine ⟨k2.os.trans (hy.os.trans k1.os), k2.tape.trans (hy.tape.trans k1.tape), k2.output.trans (hy.output.trans k1.output), by simp at hs ⊢; omega, fun b hb => ?_⟩
  by_cases e : b = B
  · rw [e]; exact h3
  · rw [Below.heap_setCell _ _ _ _ (by exact e), hy.block b (by simpa using hb), Below.heap_setCell _ _ _ _ (by exact e)]
theorem DoO.no {m : Nat} {w w' : World} {B n : Nat} {x : Off} {ov : Value} {o : ByteArray} {k : Int} (h : OffIn m w B n x ov) (he : stepE x o = k) (hk : k ≠ 0) (hb : Below w.heap.size w w') : DoO m w B n x ov o (.returned (.int .i64 k)) w' := by
  subst he
  refine ⟨rfl, Only.of_below hb, ov, ?_, fun b h => .inl h⟩
  rw [stepO_no hk]
  exact h.below hb
set_option maxRecDepth 100000 in
set_option maxHeartbeats 8000000 in
theorem Do_none (m : Nat) (w : World) (B n : Nat) (x : Off) (ov : Value) (o : ByteArray) (h : OffIn m w B n x ov) (hmk : Made n x) (hm : 9 ≤ m) (he : Env w) (hp : parseF o = none) :
    Calls Tryz.prog 21 #[.pointer (some ⟨B, 0, none⟩), .string o] w (DoO m w B n x ov o) := by
  have HI := Lib.hid h
  obtain ⟨fv, sv, g1, c1, g2, c2, g3, c3, h⟩ := h
  obtain ⟨fa, fc, rfl⟩ := own_slice h.fr
  obtain ⟨sa, sc, rfl⟩ := own_slice h.sp
  obtain ⟨oa, oc, rfl⟩ := own_slice h.od
  have H := Lib.hid h
  have hB := h.lt
  have hmB := h.mB
  have hbox := h.box
  unfold offC at hbox
  have HM := Lib.hid hmk
  have hL80 := hmk.few
  clear h hmk
  obtain ⟨mi, hmi⟩ : ∃ mi, minF x.os = mi := ⟨_, rfl⟩
  have HMI := Lib.hid hmi
  obtain ⟨L, hL⟩ : ∃ L, x.os.length = L := ⟨_, rfl⟩
  have HL := Lib.hid hL
  obtain ⟨fn, hfn⟩ : ∃ L, x.c.free.length = L := ⟨_, rfl⟩
  have HFN := Lib.hid hfn
  obtain ⟨sn, hsn⟩ : ∃ L, x.c.still.length = L := ⟨_, rfl⟩
  have HSN := Lib.hid hsn
  rw [hmi] at hbox
  rw [hL] at hbox hL80 H HI ⊢
  rw [hfn] at hbox H
  rw [hsn] at hbox H
  clear hmi hL hfn hsn
  have k0 := (cell_of_block hbox 0).trans (show _ = some (.int .i32 0) from rfl)
  have kf := frozen_of_block hbox 0
  have HBOX := Lib.hid hbox
  obtain ⟨W0, hW0⟩ : ∃ W0, w.setCell ⟨B, 0, none⟩ (.int .i32 1) = W0 := ⟨_, rfl⟩
  have hsz : W0.heap.size = w.heap.size := by rw [← hW0]; simp
  have HBX : Hid (W0.heap[B]? = some (.cells ((#[.int .i32 0, .int .u32 0, .int .i64 x.c.first, .slice fa fn fc, .slice sa sn sc, .int .i64 x.s.day, .slice (some ⟨g1, 0, none⟩) n c1, .slice (some ⟨g2, 0, none⟩) n c2, .int .i64 x.s.part, .bool x.s.fixed, .int .i64 x.s.stop, .bool x.s.heard, .slice (some ⟨g3, 0, none⟩) n c3, .bool x.s.ent, .slice oa L oc, .string mi] : Array Value).setIfInBounds 0 (.int .i32 1)) 99 (0, 0))) := by
    show _ = _
    rw [← hW0]
    exact block_set hbox 0 _
  have HOT : Hid (∀ b, b ≠ B → W0.heap[b]? = w.heap[b]?) := by
    intro b hne
    rw [← hW0]
    exact Below.heap_setCell _ _ _ _ (by exact hne)
  have HENV : Hid (Env W0) := by
    show Env _
    rw [← hW0]
    exact he.low ((Below.refl 9 w).setCell (by show 9 ≤ B; omega) _)
  have HUN : Hid (∀ y, Below W0.heap.size W0 y → Below w.heap.size w (y.setCell ⟨B, 0, none⟩ (.int .i32 0))) := by
    intro y hy
    rw [← hW0] at hy
    exact unlocked H.out hy
  have HLB : Hid (∀ y, Below W0.heap.size W0 y → y.cell? ⟨B, 0, none⟩ = some (.int .i32 1) ∧ y.frozen? ⟨B, 0, none⟩ = false) := by
    intro y hy
    have hb := (hy.block B (by omega)).trans HBX.out
    exact ⟨(cell_of_block hb 0).trans (by simp), frozen_of_block hb 0⟩
  have HST : Hid (StAt m W0 n x.s g1 c1 g2 c2 g3 c3) := H.out.st.same (HOT.out _ H.out.e1) (HOT.out _ H.out.e2) (HOT.out _ H.out.e3)
  have hB0 : B < W0.heap.size := by omega
  have HWX : Hid (Below 0 w W0) := by show Below _ _ _; rw [← hW0]; exact (Below.refl _ _).setCell (Nat.zero_le _) _
  have b2 := (cell_of_block HBX.out 2).trans (show _ = some (.int .i64 x.c.first) from rfl)
  have b3 := (cell_of_block HBX.out 3).trans (show _ = some (.slice fa fn fc) from rfl)
  have b4 := (cell_of_block HBX.out 4).trans (show _ = some (.slice sa sn sc) from rfl)
  have b5 := (cell_of_block HBX.out 5).trans (show _ = some (.int .i64 x.s.day) from rfl)
  have b6 := (cell_of_block HBX.out 6).trans (show _ = some (.slice (some ⟨g1, 0, none⟩) n c1) from rfl)
  have b7 := (cell_of_block HBX.out 7).trans (show _ = some (.slice (some ⟨g2, 0, none⟩) n c2) from rfl)
  have b8 := (cell_of_block HBX.out 8).trans (show _ = some (.int .i64 x.s.part) from rfl)
  have b9 := (cell_of_block HBX.out 9).trans (show _ = some (.bool x.s.fixed) from rfl)
  have b10 := (cell_of_block HBX.out 10).trans (show _ = some (.int .i64 x.s.stop) from rfl)
  have b11 := (cell_of_block HBX.out 11).trans (show _ = some (.bool x.s.heard) from rfl)
  have b12 := (cell_of_block HBX.out 12).trans (show _ = some (.slice (some ⟨g3, 0, none⟩) n c3) from rfl)
  have b13 := (cell_of_block HBX.out 13).trans (show _ = some (.bool x.s.ent) from rfl)
  have b14 := (cell_of_block HBX.out 14).trans (show _ = some (.slice oa L oc) from rfl)
  have b15 := (cell_of_block HBX.out 15).trans (show _ = some (.string mi) from rfl)
  clear hbox he
  have HE : Hid (stepE x o = 2) := by show _ = _; unfold stepE; rw [hp]
  have HP := Lib.hid hp
  clear hp b2 b3 b4 b5 b6 b7 b8 b9 b10 b11 b12 b13 b14 b15
  go_enter_defers Tryz.func21, Tryz.ntmps21
  go_wp2_with (first
    | (go_at_call 59; refine (lock_free muLib ⟨B, 0, none⟩ _ k0 kf).mono ?_; rintro e w1 ⟨rfl, hw1⟩; rw [hW0] at hw1; replace hw1 := hw1.symm; subst hw1; clear k0 kf)
    | (go_at_call 61; (refine (parse_any o _ HENV.out).mono ?_); rintro e2 w2 ⟨hb2, hp2⟩; obtain rfl := hp2.2 HP.out; unfold refV; clear hp2)
    | (go_at_call 62; refine (code_calls 2 _ ((HENV.out.below (by (repeat' (first | exact Below.refl _ _ | assumption | refine below_new ?_ _ | refine below_draw ?_ | refine below_tail (by assumption) ?_ | refine below_set ?_ (by first | omega | (simp <;> omega)) _)))).et)).use ?_; intro w3 hb3 hz3 hc3 hf3; clear hc3 hf3; have HB3 : Below W0.heap.size W0 w3 := (by (repeat' (first | exact Below.refl _ _ | assumption | refine below_new ?_ _ | refine below_draw ?_ | refine below_tail (by assumption) ?_ | refine below_set ?_ (by first | omega | (simp <;> omega)) _))); obtain ⟨q0, qf⟩ := HLB.out w3 HB3))
  refine leaves_cons (f := 60) (args := #[.pointer (some ⟨B, 0, none⟩)]) (by simp) (by simp [go_sem]) ?_
  refine (unlock_deferred muLib ⟨B, 0, none⟩ .returning _ q0 qf).mono ?_
  rintro e u' w'' ⟨rfl, rfl, rfl⟩

  refine ⟨_, results_tmp rfl _ _ _, ?_⟩
  exact DoO.no HI.out HE.out (by decide) (HUN.out _ HB3)
set_option maxRecDepth 100000 in
set_option maxHeartbeats 8000000 in
theorem Do_large (m : Nat) (w : World) (B n : Nat) (x : Off) (ov : Value) (o : ByteArray) (h : OffIn m w B n x ov) (hmk : Made n x) (hm : 9 ≤ m) (he : Env w) (t : Frm) (l : List Int) (hp : parseF o = some (t, l)) (h80 : x.os.length = 80) :
    Calls Tryz.prog 21 #[.pointer (some ⟨B, 0, none⟩), .string o] w (DoO m w B n x ov o) := by
  have HI := Lib.hid h
  obtain ⟨fv, sv, g1, c1, g2, c2, g3, c3, h⟩ := h
  obtain ⟨fa, fc, rfl⟩ := own_slice h.fr
  obtain ⟨sa, sc, rfl⟩ := own_slice h.sp
  obtain ⟨oa, oc, rfl⟩ := own_slice h.od
  have H := Lib.hid h
  have hB := h.lt
  have hmB := h.mB
  have hbox := h.box
  unfold offC at hbox
  have HM := Lib.hid hmk
  have hL80 := hmk.few
  clear h hmk
  obtain ⟨mi, hmi⟩ : ∃ mi, minF x.os = mi := ⟨_, rfl⟩
  have HMI := Lib.hid hmi
  obtain ⟨L, hL⟩ : ∃ L, x.os.length = L := ⟨_, rfl⟩
  have HL := Lib.hid hL
  obtain ⟨fn, hfn⟩ : ∃ L, x.c.free.length = L := ⟨_, rfl⟩
  have HFN := Lib.hid hfn
  obtain ⟨sn, hsn⟩ : ∃ L, x.c.still.length = L := ⟨_, rfl⟩
  have HSN := Lib.hid hsn
  rw [hmi] at hbox
  rw [hL] at hbox hL80 H HI ⊢
  rw [hfn] at hbox H
  rw [hsn] at hbox H
  clear hmi hL hfn hsn
  have k0 := (cell_of_block hbox 0).trans (show _ = some (.int .i32 0) from rfl)
  have kf := frozen_of_block hbox 0
  have HBOX := Lib.hid hbox
  obtain ⟨W0, hW0⟩ : ∃ W0, w.setCell ⟨B, 0, none⟩ (.int .i32 1) = W0 := ⟨_, rfl⟩
  have hsz : W0.heap.size = w.heap.size := by rw [← hW0]; simp
  have HBX : Hid (W0.heap[B]? = some (.cells ((#[.int .i32 0, .int .u32 0, .int .i64 x.c.first, .slice fa fn fc, .slice sa sn sc, .int .i64 x.s.day, .slice (some ⟨g1, 0, none⟩) n c1, .slice (some ⟨g2, 0, none⟩) n c2, .int .i64 x.s.part, .bool x.s.fixed, .int .i64 x.s.stop, .bool x.s.heard, .slice (some ⟨g3, 0, none⟩) n c3, .bool x.s.ent, .slice oa L oc, .string mi] : Array Value).setIfInBounds 0 (.int .i32 1)) 99 (0, 0))) := by
    show _ = _
    rw [← hW0]
    exact block_set hbox 0 _
  have HOT : Hid (∀ b, b ≠ B → W0.heap[b]? = w.heap[b]?) := by
    intro b hne
    rw [← hW0]
    exact Below.heap_setCell _ _ _ _ (by exact hne)
  have HENV : Hid (Env W0) := by
    show Env _
    rw [← hW0]
    exact he.low ((Below.refl 9 w).setCell (by show 9 ≤ B; omega) _)
  have HUN : Hid (∀ y, Below W0.heap.size W0 y → Below w.heap.size w (y.setCell ⟨B, 0, none⟩ (.int .i32 0))) := by
    intro y hy
    rw [← hW0] at hy
    exact unlocked H.out hy
  have HLB : Hid (∀ y, Below W0.heap.size W0 y → y.cell? ⟨B, 0, none⟩ = some (.int .i32 1) ∧ y.frozen? ⟨B, 0, none⟩ = false) := by
    intro y hy
    have hb := (hy.block B (by omega)).trans HBX.out
    exact ⟨(cell_of_block hb 0).trans (by simp), frozen_of_block hb 0⟩
  have HST : Hid (StAt m W0 n x.s g1 c1 g2 c2 g3 c3) := H.out.st.same (HOT.out _ H.out.e1) (HOT.out _ H.out.e2) (HOT.out _ H.out.e3)
  have hB0 : B < W0.heap.size := by omega
  have HWX : Hid (Below 0 w W0) := by show Below _ _ _; rw [← hW0]; exact (Below.refl _ _).setCell (Nat.zero_le _) _
  have b2 := (cell_of_block HBX.out 2).trans (show _ = some (.int .i64 x.c.first) from rfl)
  have b3 := (cell_of_block HBX.out 3).trans (show _ = some (.slice fa fn fc) from rfl)
  have b4 := (cell_of_block HBX.out 4).trans (show _ = some (.slice sa sn sc) from rfl)
  have b5 := (cell_of_block HBX.out 5).trans (show _ = some (.int .i64 x.s.day) from rfl)
  have b6 := (cell_of_block HBX.out 6).trans (show _ = some (.slice (some ⟨g1, 0, none⟩) n c1) from rfl)
  have b7 := (cell_of_block HBX.out 7).trans (show _ = some (.slice (some ⟨g2, 0, none⟩) n c2) from rfl)
  have b8 := (cell_of_block HBX.out 8).trans (show _ = some (.int .i64 x.s.part) from rfl)
  have b9 := (cell_of_block HBX.out 9).trans (show _ = some (.bool x.s.fixed) from rfl)
  have b10 := (cell_of_block HBX.out 10).trans (show _ = some (.int .i64 x.s.stop) from rfl)
  have b11 := (cell_of_block HBX.out 11).trans (show _ = some (.bool x.s.heard) from rfl)
  have b12 := (cell_of_block HBX.out 12).trans (show _ = some (.slice (some ⟨g3, 0, none⟩) n c3) from rfl)
  have b13 := (cell_of_block HBX.out 13).trans (show _ = some (.bool x.s.ent) from rfl)
  have b14 := (cell_of_block HBX.out 14).trans (show _ = some (.slice oa L oc) from rfl)
  have b15 := (cell_of_block HBX.out 15).trans (show _ = some (.string mi) from rfl)
  clear hbox he
  have HE : Hid (stepE x o = 3) := by show _ = _; unfold stepE; rw [hp]; exact if_pos h80
  have HP := Lib.hid hp
  have hL80' : L = 80 := by rw [← HL.out]; exact h80
  have kL : ((L : Int) == 80) = true := by rw [hL80']; rfl
  clear hp h80 hL80' b2 b3 b4 b5 b6 b7 b8 b9 b10 b11 b12 b13 b15
  go_enter_defers Tryz.func21, Tryz.ntmps21
  go_wp2_with (first
    | (go_at_call 59; refine (lock_free muLib ⟨B, 0, none⟩ _ k0 kf).mono ?_; rintro e w1 ⟨rfl, hw1⟩; rw [hW0] at hw1; replace hw1 := hw1.symm; subst hw1; clear k0 kf)
    | (go_at_call 61; (refine (parse_any o _ HENV.out).mono ?_); rintro e2 w2 ⟨hb2, hp2⟩; obtain ⟨lv, rfl, hlv⟩ := hp2.1 _ _ HP.out; have HLV := Lib.hid hlv; clear hp2 hlv; unfold frmV; have HB2 : Below W0.heap.size W0 w2 := hb2; obtain ⟨q0, qf⟩ := HLB.out w2 hb2; have hB2 : B < w2.heap.size := Nat.lt_of_lt_of_le hB0 hb2.size; have qc14 := (hb2.cell (p := ⟨B, 14, none⟩) hB0).trans b14))
  refine leaves_cons (f := 60) (args := #[.pointer (some ⟨B, 0, none⟩)]) (by simp) (by simp [go_sem]) ?_
  refine (unlock_deferred muLib ⟨B, 0, none⟩ .returning _ ?_ ?_).mono ?_
  · exact ((below_new (Below.refl _ w2) _).cell (p := ⟨B, 0, none⟩) hB2).trans q0
  · exact ((below_new (Below.refl _ w2) _).frozen (p := ⟨B, 0, none⟩) hB2).trans qf
  rintro e u' w'' ⟨rfl, rfl, rfl⟩

  refine ⟨_, results_tmp rfl _ _ _, ?_⟩
  exact DoO.no HI.out HE.out (by decide) (HUN.out _ (by (repeat' (first | exact Below.refl _ _ | assumption | refine below_new ?_ _ | refine below_draw ?_ | refine below_tail (by assumption) ?_ | refine below_set ?_ (by first | omega | (simp <;> omega)) _))))
set_option maxRecDepth 100000 in
set_option maxHeartbeats 8000000 in
theorem Do_main (m : Nat) (w : World) (B n : Nat) (x : Off) (ov : Value) (o : ByteArray) (h : OffIn m w B n x ov) (hmk : Made n x) (hm : 9 ≤ m) (he : Env w) (t : Frm) (l : List Int) (hp : parseF o = some (t, l)) (h80 : x.os.length ≠ 80) :
    Calls Tryz.prog 21 #[.pointer (some ⟨B, 0, none⟩), .string o] w (DoO m w B n x ov o) := by
  have HI := Lib.hid h
  obtain ⟨fv, sv, g1, c1, g2, c2, g3, c3, h⟩ := h
  obtain ⟨fa, fc, rfl⟩ := own_slice h.fr
  obtain ⟨sa, sc, rfl⟩ := own_slice h.sp
  obtain ⟨oa, oc, rfl⟩ := own_slice h.od
  have H := Lib.hid h
  have hB := h.lt
  have hmB := h.mB
  have hbox := h.box
  unfold offC at hbox
  have HM := Lib.hid hmk
  have hL80 := hmk.few
  clear h hmk
  obtain ⟨mi, hmi⟩ : ∃ mi, minF x.os = mi := ⟨_, rfl⟩
  have HMI := Lib.hid hmi
  obtain ⟨L, hL⟩ : ∃ L, x.os.length = L := ⟨_, rfl⟩
  have HL := Lib.hid hL
  obtain ⟨fn, hfn⟩ : ∃ L, x.c.free.length = L := ⟨_, rfl⟩
  have HFN := Lib.hid hfn
  obtain ⟨sn, hsn⟩ : ∃ L, x.c.still.length = L := ⟨_, rfl⟩
  have HSN := Lib.hid hsn
  rw [hmi] at hbox
  rw [hL] at hbox hL80 H HI ⊢
  rw [hfn] at hbox H
  rw [hsn] at hbox H
  clear hmi hL hfn hsn
  have k0 := (cell_of_block hbox 0).trans (show _ = some (.int .i32 0) from rfl)
  have kf := frozen_of_block hbox 0
  have HBOX := Lib.hid hbox
  obtain ⟨W0, hW0⟩ : ∃ W0, w.setCell ⟨B, 0, none⟩ (.int .i32 1) = W0 := ⟨_, rfl⟩
  have hsz : W0.heap.size = w.heap.size := by rw [← hW0]; simp
  have HBX : Hid (W0.heap[B]? = some (.cells ((#[.int .i32 0, .int .u32 0, .int .i64 x.c.first, .slice fa fn fc, .slice sa sn sc, .int .i64 x.s.day, .slice (some ⟨g1, 0, none⟩) n c1, .slice (some ⟨g2, 0, none⟩) n c2, .int .i64 x.s.part, .bool x.s.fixed, .int .i64 x.s.stop, .bool x.s.heard, .slice (some ⟨g3, 0, none⟩) n c3, .bool x.s.ent, .slice oa L oc, .string mi] : Array Value).setIfInBounds 0 (.int .i32 1)) 99 (0, 0))) := by
    show _ = _
    rw [← hW0]
    exact block_set hbox 0 _
  have HOT : Hid (∀ b, b ≠ B → W0.heap[b]? = w.heap[b]?) := by
    intro b hne
    rw [← hW0]
    exact Below.heap_setCell _ _ _ _ (by exact hne)
  have HENV : Hid (Env W0) := by
    show Env _
    rw [← hW0]
    exact he.low ((Below.refl 9 w).setCell (by show 9 ≤ B; omega) _)
  have HUN : Hid (∀ y, Below W0.heap.size W0 y → Below w.heap.size w (y.setCell ⟨B, 0, none⟩ (.int .i32 0))) := by
    intro y hy
    rw [← hW0] at hy
    exact unlocked H.out hy
  have HLB : Hid (∀ y, Below W0.heap.size W0 y → y.cell? ⟨B, 0, none⟩ = some (.int .i32 1) ∧ y.frozen? ⟨B, 0, none⟩ = false) := by
    intro y hy
    have hb := (hy.block B (by omega)).trans HBX.out
    exact ⟨(cell_of_block hb 0).trans (by simp), frozen_of_block hb 0⟩
  have HST : Hid (StAt m W0 n x.s g1 c1 g2 c2 g3 c3) := H.out.st.same (HOT.out _ H.out.e1) (HOT.out _ H.out.e2) (HOT.out _ H.out.e3)
  have hB0 : B < W0.heap.size := by omega
  have HWX : Hid (Below 0 w W0) := by show Below _ _ _; rw [← hW0]; exact (Below.refl _ _).setCell (Nat.zero_le _) _
  have b2 := (cell_of_block HBX.out 2).trans (show _ = some (.int .i64 x.c.first) from rfl)
  have b3 := (cell_of_block HBX.out 3).trans (show _ = some (.slice fa fn fc) from rfl)
  have b4 := (cell_of_block HBX.out 4).trans (show _ = some (.slice sa sn sc) from rfl)
  have b5 := (cell_of_block HBX.out 5).trans (show _ = some (.int .i64 x.s.day) from rfl)
  have b6 := (cell_of_block HBX.out 6).trans (show _ = some (.slice (some ⟨g1, 0, none⟩) n c1) from rfl)
  have b7 := (cell_of_block HBX.out 7).trans (show _ = some (.slice (some ⟨g2, 0, none⟩) n c2) from rfl)
  have b8 := (cell_of_block HBX.out 8).trans (show _ = some (.int .i64 x.s.part) from rfl)
  have b9 := (cell_of_block HBX.out 9).trans (show _ = some (.bool x.s.fixed) from rfl)
  have b10 := (cell_of_block HBX.out 10).trans (show _ = some (.int .i64 x.s.stop) from rfl)
  have b11 := (cell_of_block HBX.out 11).trans (show _ = some (.bool x.s.heard) from rfl)
  have b12 := (cell_of_block HBX.out 12).trans (show _ = some (.slice (some ⟨g3, 0, none⟩) n c3) from rfl)
  have b13 := (cell_of_block HBX.out 13).trans (show _ = some (.bool x.s.ent) from rfl)
  have b14 := (cell_of_block HBX.out 14).trans (show _ = some (.slice oa L oc) from rfl)
  have b15 := (cell_of_block HBX.out 15).trans (show _ = some (.string mi) from rfl)
  clear hbox he
  have HE : Hid (stepE x o = doE x.c x.s t l) := by show _ = _; unfold stepE; rw [hp]; exact if_neg h80
  have HS : Hid (stepS x o = doS x.c x.s t l) := by show _ = _; unfold stepS; rw [hp]
  have HP := Lib.hid hp
  have hL80' : L ≠ 80 := by rw [← HL.out]; exact h80
  have kL : ((L : Int) == 80) = false := by simp; omega
  have HCL : Hid (∀ y, Below W0.heap.size W0 y → Calls Tryz.prog 63 #[.agg #[.int .i64 x.s.day, .slice (some ⟨g1, 0, none⟩) n c1, .slice (some ⟨g2, 0, none⟩) n c2, .int .i64 x.s.part, .bool x.s.fixed, .int .i64 x.s.stop, .bool x.s.heard, .slice (some ⟨g3, 0, none⟩) n c3, .bool x.s.ent]] y fun e w' => ∃ h1 d1 h2 d2 h3 d3, e = .returned (stW n x.s h1 d1 h2 d2 h3 d3) ∧ StAt y.heap.size w' n x.s h1 d1 h2 d2 h3 d3 ∧ Below y.heap.size y w') := by
    intro y fy
    have := clone_calls m y n x.s g1 c1 g2 c2 g3 c3 (HST.out.below fy)
    unfold stW at this ⊢
    exact this
  clear hp h80 hL80'
  go_enter_defers Tryz.func21, Tryz.ntmps21
  go_upto_region 11 with (first
    | (go_at_call 59; refine (lock_free muLib ⟨B, 0, none⟩ _ k0 kf).mono ?_; rintro e w1 ⟨rfl, hw1⟩; rw [hW0] at hw1; replace hw1 := hw1.symm; subst hw1; clear k0 kf)
    | (go_at_call 61; (refine (parse_any o _ HENV.out).mono ?_); rintro e2 w2 ⟨hb2, hp2⟩; obtain ⟨lv, rfl, hlv⟩ := hp2.1 _ _ HP.out; have HLV := Lib.hid hlv; clear hp2 hlv; unfold frmV; have HB2 : Below W0.heap.size W0 w2 := hb2; obtain ⟨q0, qf⟩ := HLB.out w2 hb2; have hB2 : B < w2.heap.size := Nat.lt_of_lt_of_le hB0 hb2.size; have qc5 := (hb2.cell (p := ⟨B, 5, none⟩) hB0).trans b5; have qc6 := (hb2.cell (p := ⟨B, 6, none⟩) hB0).trans b6; have qc7 := (hb2.cell (p := ⟨B, 7, none⟩) hB0).trans b7; have qc8 := (hb2.cell (p := ⟨B, 8, none⟩) hB0).trans b8; have qc9 := (hb2.cell (p := ⟨B, 9, none⟩) hB0).trans b9; have qc10 := (hb2.cell (p := ⟨B, 10, none⟩) hB0).trans b10; have qc11 := (hb2.cell (p := ⟨B, 11, none⟩) hB0).trans b11; have qc12 := (hb2.cell (p := ⟨B, 12, none⟩) hB0).trans b12; have qc13 := (hb2.cell (p := ⟨B, 13, none⟩) hB0).trans b13; have qc14 := (hb2.cell (p := ⟨B, 14, none⟩) hB0).trans b14)
    | (go_at_call 63; refine (HCL.out _ (by (repeat' (first | exact Below.refl _ _ | assumption | refine below_new ?_ _ | refine below_draw ?_ | refine below_tail (by assumption) ?_ | refine below_set ?_ (by first | omega | (simp <;> omega)) _)))).mono ?_; rintro e3 w3 ⟨h1, d1, h2, d2, h3, d3, rfl, hs3, hb3⟩; have HS3 := Lib.hid hs3; clear hs3; unfold stW; have hz3 : w2.heap.size < w3.heap.size := (by have := hb3.size; simp at this; omega)))
  obtain ⟨W5, hW5⟩ : ∃ W5, w3.alloc (.cells #[.int .i64 x.s.day, .slice (some ⟨h1, 0, none⟩) n d1, .slice (some ⟨h2, 0, none⟩) n d2, .int .i64 x.s.part, .bool x.s.fixed, .int .i64 x.s.stop, .bool x.s.heard, .slice (some ⟨h3, 0, none⟩) n d3, .bool x.s.ent] 90) = W5 := ⟨_, rfl⟩
  obtain ⟨mm, hmm⟩ : ∃ mm, (w2.alloc (.cells #[.int .i64 t.1, .int .i64 t.2.1, .int .i64 t.2.2] 104)).heap.size = mm := ⟨_, rfl⟩
  have hmm1 : mm = w2.heap.size + 1 := by rw [← hmm]; simp
  have HB3 : Hid (Below mm (w2.alloc (.cells #[.int .i64 t.1, .int .i64 t.2.1, .int .i64 t.2.2] 104)) w3) := by rw [← hmm]; exact hb3
  have hb35 : Below w3.heap.size w3 W5 := by rw [← hW5]; exact (Below.refl _ w3).alloc (Nat.le_refl _) _
  have hm3 : mm ≤ w3.heap.size := by rw [← hmm]; exact hb3.size
  have hs5 : W5.heap.size = w3.heap.size + 1 := by rw [← hW5]; simp
  have hz5 : mm ≤ W5.heap.size := by omega
  have HB5 : Hid (Below w2.heap.size w2 W5) := by
    show Below _ _ _
    have k : Below w2.heap.size w2 (w2.alloc (.cells #[.int .i64 t.1, .int .i64 t.2.1, .int .i64 t.2.2] 104)) := (Below.refl _ _).alloc (Nat.le_refl _) _
    exact (k.trans (HB3.out.mono (by omega))).trans (hb35.mono (by omega))
  have HB05 : Hid (Below W0.heap.size W0 W5) := hb2.trans (HB5.out.mono hb2.size)
  have HSB : Hid (StBox mm W5 w3.heap.size n x.s h1 d1 h2 d2 h3 d3) := by
    have hs := HS3.out
    rw [hmm] at hs
    exact { box := by rw [← hW5]; exact alloc_new _ _ rfl, st := hs.below hb35, mB := hm3, e1 := Nat.ne_of_lt hs.r1.lt, e2 := Nat.ne_of_lt hs.r2.lt, e3 := Nat.ne_of_lt hs.r3.lt }
  have hFM : W5.heap[w2.heap.size]? = some (.cells #[.int .i64 t.1, .int .i64 t.2.1, .int .i64 t.2.2] 104 (0, 0)) := by
    rw [hb35.block _ (by omega), HB3.out.block _ (by omega)]
    exact alloc_new _ _ rfl
  have f0 := (cell_of_block hFM 0).trans (show _ = some (.int .i64 t.1) from rfl)
  have f1 := (cell_of_block hFM 1).trans (show _ = some (.int .i64 t.2.1) from rfl)
  have f2 := (cell_of_block hFM 2).trans (show _ = some (.int .i64 t.2.2) from rfl)
  have cc2 := (HB05.out.cell (p := ⟨B, 2, none⟩) hB0).trans b2
  have cc3 := (HB05.out.cell (p := ⟨B, 3, none⟩) hB0).trans b3
  have cc4 := (HB05.out.cell (p := ⟨B, 4, none⟩) hB0).trans b4
  have hPF := parseF_facts HP.out
  have HLI : Hid (IntsAt W5 lv l) := HLV.out.1.below HB5.out
  have HCAL : Hid (CalAt W5 (.agg #[.int .i64 x.c.first, .slice fa fn fc, .slice sa sn sc]) x.c) := by
    have h0 := H.out.cal
    have hf := H.out.fr
    have hs := H.out.sp
    refine CalAt.below (w := W0) ?_ HB05.out
    refine ⟨_, _, rfl, ?_, ?_⟩
    · have := own_same hf (w' := W0) (fun b hb => HOT.out b (by
        intro e; subst e
        obtain ⟨_, ⟨hv, _⟩ | ⟨g, cap, cur, hv, _, hh, _⟩⟩ := hf
        · rw [hv] at hb; cases hb
        · rw [hv] at hb; cases hb; exact ty_ne hh H.out.box (by decide) rfl))
      exact own_ints this
    · have := own_same hs (w' := W0) (fun b hb => HOT.out b (by
        intro e; subst e
        obtain ⟨_, ⟨hv, _⟩ | ⟨g, cap, cur, hv, _, hh, _⟩⟩ := hs
        · rw [hv] at hb; cases hb
        · rw [hv] at hb; cases hb; exact ty_ne hh H.out.box (by decide) rfl))
      exact own_pairs this
  obtain ⟨er, her⟩ : ∃ er, doE x.c x.s t l = er := ⟨_, rfl⟩
  have HER := Lib.hid her
  obtain ⟨s2, hs2⟩ : ∃ s2, doS x.c x.s t l = s2 := ⟨_, rfl⟩
  have HS2 := Lib.hid hs2
  have HDO : Hid (∀ y, Below W5.heap.size W5 y → Calls Tryz.prog 64 #[.pointer (some ⟨w3.heap.size, 0, none⟩), .agg #[.int .i64 x.c.first, .slice fa fn fc, .slice sa sn sc], .agg #[.int .i64 t.1, .int .i64 t.2.1, .int .i64 t.2.2], lv] y (DoR mm y w3.heap.size n h1 d1 h2 d2 h3 d3 er s2)) := by
    intro y fy
    have := do_calls mm y w3.heap.size n x.s h1 d1 h2 d2 h3 d3 (.agg #[.int .i64 x.c.first, .slice fa fn fc, .slice sa sn sc]) lv x.c t l (HSB.out.keep fy) HM.out.good (HCAL.out.below fy) HM.out.cal hPF.2.2.1 hPF.2.2.2.1 hPF.2.2.2.2.1 (HLI.out.below fy)
    rw [her, hs2] at this
    exact this
  rw [hW5]
  clear hW5 hmm hb3 hs5 her hs2 hFM hPF qc5 qc6 qc7 qc8 qc9 qc10 qc11 qc12 qc13 qc14 hb35
  refine wp_region_quiet_tail 6 mixed (by kernel_rfl) ?_
  simp only [List.take_succ_cons, List.take_zero, List.drop_succ_cons, List.drop_zero]
  repeat (go_big_quiet_step (fail))
  refine wpQuiet_nil ?_
  have hmB0 : W0.heap.size ≤ mm := by have := hb2.size; omega
  have h05 : W0.heap.size ≤ W5.heap.size := HB05.out.size
  by_cases hz : er = 0
  · have HZ := Lib.hid hz
    go_upto_region 15 with (go_at_call 64; refine (HDO.out _ (by (repeat' (first | exact Below.refl _ _ | assumption | refine below_new ?_ _ | refine below_draw ?_ | refine below_tail (by assumption) ?_ | refine below_set ?_ (by first | omega | (simp <;> omega)) _)))).mono ?_; rintro e6 w6 ⟨rfl, hb6, hst6⟩; replace hst6 := hst6 HZ.out; have HS6 := Lib.hid hst6; have y0 := (cell_of_block hst6.box 0).trans (show _ = some (.int .i64 s2.day) from rfl); have y1 := (cell_of_block hst6.box 1).trans (show _ = some (.slice (some ⟨h1, 0, none⟩) n d1) from rfl); have y2 := (cell_of_block hst6.box 2).trans (show _ = some (.slice (some ⟨h2, 0, none⟩) n d2) from rfl); have y3 := (cell_of_block hst6.box 3).trans (show _ = some (.int .i64 s2.part) from rfl); have y4 := (cell_of_block hst6.box 4).trans (show _ = some (.bool s2.fixed) from rfl); have y5 := (cell_of_block hst6.box 5).trans (show _ = some (.int .i64 s2.stop) from rfl); have y6 := (cell_of_block hst6.box 6).trans (show _ = some (.bool s2.heard) from rfl); have y7 := (cell_of_block hst6.box 7).trans (show _ = some (.slice (some ⟨h3, 0, none⟩) n d3) from rfl); have y8 := (cell_of_block hst6.box 8).trans (show _ = some (.bool s2.ent) from rfl); have HB6 : Below W0.heap.size W0 w6 := ((HB05.out.trans ((by first | exact Below.refl _ _ | (repeat' (first | exact Below.refl _ _ | assumption | refine below_new ?_ _ | refine below_draw ?_ | refine below_tail (by assumption) ?_ | refine below_set ?_ (by first | omega | (simp <;> omega)) _)) : Below W5.heap.size W5 _).mono h05)).trans (hb6.mono hmB0)); have HW6B := Lib.hid ((HB6.block B hB0).trans HBX.out); have v0 := (cell_of_block HW6B.out 0).trans (show _ = some (.int .i32 1) from rfl); have v5 := (cell_of_block HW6B.out 5).trans (show _ = some (.int .i64 x.s.day) from rfl); have v6 := (cell_of_block HW6B.out 6).trans (show _ = some (.slice (some ⟨g1, 0, none⟩) n c1) from rfl); have v7 := (cell_of_block HW6B.out 7).trans (show _ = some (.slice (some ⟨g2, 0, none⟩) n c2) from rfl); have v8 := (cell_of_block HW6B.out 8).trans (show _ = some (.int .i64 x.s.part) from rfl); have v9 := (cell_of_block HW6B.out 9).trans (show _ = some (.bool x.s.fixed) from rfl); have v10 := (cell_of_block HW6B.out 10).trans (show _ = some (.int .i64 x.s.stop) from rfl); have v11 := (cell_of_block HW6B.out 11).trans (show _ = some (.bool x.s.heard) from rfl); have v12 := (cell_of_block HW6B.out 12).trans (show _ = some (.slice (some ⟨g3, 0, none⟩) n c3) from rfl); have v13 := (cell_of_block HW6B.out 13).trans (show _ = some (.bool x.s.ent) from rfl); have v14 := (cell_of_block HW6B.out 14).trans (show _ = some (.slice oa L oc) from rfl); have v15 := (cell_of_block HW6B.out 15).trans (show _ = some (.string mi) from rfl); have vf : ∀ i, w6.frozen? ⟨B, i, none⟩ = false := frozen_of_block HW6B.out; clear hst6; rw [HZ.out, errV_0])
    obtain ⟨W7, hW7⟩ : ∃ W7, (((((((((w6.setCell ⟨B, 5, none⟩ (.int .i64 s2.day)).setCell ⟨B, 6, none⟩ (.slice (some ⟨h1, 0, none⟩) n d1)).setCell ⟨B, 7, none⟩ (.slice (some ⟨h2, 0, none⟩) n d2)).setCell ⟨B, 8, none⟩ (.int .i64 s2.part)).setCell ⟨B, 9, none⟩ (.bool s2.fixed)).setCell ⟨B, 10, none⟩ (.int .i64 s2.stop)).setCell ⟨B, 11, none⟩ (.bool s2.heard)).setCell ⟨B, 12, none⟩ (.slice (some ⟨h3, 0, none⟩) n d3)).setCell ⟨B, 13, none⟩ (.bool s2.ent)) = W7 := ⟨_, rfl⟩
    have hs7 : W7.heap.size ≤ w6.heap.size ∧ w6.heap.size ≤ W7.heap.size := by rw [← hW7]; simp
    have HO7 : Hid (∀ b, b ≠ B → W7.heap[b]? = w6.heap[b]?) := by
      intro b hb
      rw [← hW7]
      iterate 9 rw [Below.heap_setCell _ _ _ _ (by exact hb)]
    have HB7 : Hid (W7.heap[B]? = some (.cells #[.int .i32 1, .int .u32 0, .int .i64 x.c.first, .slice fa fn fc, .slice sa sn sc, .int .i64 s2.day, .slice (some ⟨h1, 0, none⟩) n d1, .slice (some ⟨h2, 0, none⟩) n d2, .int .i64 s2.part, .bool s2.fixed, .int .i64 s2.stop, .bool s2.heard, .slice (some ⟨h3, 0, none⟩) n d3, .bool s2.ent, .slice oa L oc, .string mi] 99 (0, 0))) := by
      show _ = _
      rw [← hW7]
      have hx : w6.heap[B]? = some (.cells #[.int .i32 1, .int .u32 0, .int .i64 x.c.first, .slice fa fn fc, .slice sa sn sc, .int .i64 x.s.day, .slice (some ⟨g1, 0, none⟩) n c1, .slice (some ⟨g2, 0, none⟩) n c2, .int .i64 x.s.part, .bool x.s.fixed, .int .i64 x.s.stop, .bool x.s.heard, .slice (some ⟨g3, 0, none⟩) n c3, .bool x.s.ent, .slice oa L oc, .string mi] 99 (0, 0)) := HW6B.out.trans (by simp)
      exact fill5 hx
    have HX7 : Hid (Below 0 w6 W7) := by
      show Below _ _ _
      rw [← hW7]
      iterate 9 refine Below.setCell ?_ (Nat.zero_le _) _
      exact Below.refl _ _
    have hB6 : B < w6.heap.size := Nat.lt_of_lt_of_le hB0 HB6.size
    have HOVB : Hid ((Value.slice oa L oc).ownBlock ≠ some B) := by
      intro e
      obtain ⟨_, ⟨hv, _⟩ | ⟨g, cap, cur, hv, _, hh, _⟩⟩ := H.out.od
      · rw [hv] at e; cases e
      · rw [hv] at e; cases e; exact ty_ne hh H.out.box (by decide) rfl
    have HOVL : Hid (∀ b, (Value.slice oa L oc).ownBlock = some b → m ≤ b ∧ b < w.heap.size) := fun b hb => H.out.od.lt b hb
    have HOW7 : Hid (W7.ownsRow m 9 1 (.slice oa L oc) L (cellsS x.os)) := by
      have h0 := H.out.od
      rw [HL.out] at h0
      refine own_same h0 (fun b hb => ?_)
      have hne : b ≠ B := fun e => HOVB.out (e ▸ hb)
      rw [HO7.out b hne, HB6.block b (by have := (HOVL.out b hb).2; omega), HOT.out b hne]
    have v14 := (cell_of_block HB7.out 14).trans (show _ = some (.slice oa L oc) from rfl)
    have v15 := (cell_of_block HB7.out 15).trans (show _ = some (.string mi) from rfl)
    have hB7 : B < W7.heap.size := by omega
    rw [hW7]
    clear hW7 vf v0 v5 v6 v7 v8 v9 v10 v11 v12 v13 y0 y1 y2 y3 y4 y5 y6 y7 y8
    obtain ⟨i0, hi0, hz0, hi1, hi2⟩ := info_parts infoStr
    go_upto_region 16 with (at_builtin; (refine wpList_append_own_at _ rfl _ _ 28 rfl m 9 i0 (.string ⟨#[]⟩) 1 16 Tryz.underlying28 hi0 hz0 hi1 hi2 rfl (by decide) _ _ _ rfl (HOW7.out.alloc _) ⟨W7.heap.size, 0, none⟩ 1 1 [.string o] rfl rfl (app_src1 _ _ _) (one_str _) (by unfold maxLen; omega) (by omega) (by first | omega | (simp; omega)) ?_; intro v' w8 hown8 hgrow8 _ hat8; replace hat8 : v'.ownBlock = (Value.slice oa L oc).ownBlock ∨ v'.ownBlock = some (W7.alloc (.cells #[.string o] 9)).heap.size := hat8; replace hgrow8 : (W7.alloc (.cells #[.string o] 9)).grownBy w8 (Value.slice oa L oc).ownBlock := hgrow8; obtain ⟨va, vc, rfl⟩ := own_slice hown8; have HOWN8 := Lib.hid hown8; have HAT8 := Lib.hid hat8; clear hat8; have HG8 := Lib.hid hgrow8; have hb8 := (hgrow8.block B (by first | omega | (simp; omega)) (Ne.symm HOVB.out)).trans ((Below.heap_alloc _ _ _ hB7).trans HB7.out); have HB8 := Lib.hid hb8; have u14 := (cell_of_block hb8 14).trans (show _ = some (.slice oa L oc) from rfl); have uf := frozen_of_block hb8; clear hown8 hgrow8 hb8))
    obtain ⟨W9, hW9⟩ : ∃ W9, w8.setCell ⟨B, 14, none⟩ (.slice va (L + 1) vc) = W9 := ⟨_, rfl⟩
    have hs9 : W9.heap.size ≤ w8.heap.size ∧ w8.heap.size ≤ W9.heap.size := by rw [← hW9]; simp
    have HO9 : Hid (∀ b, b ≠ B → W9.heap[b]? = w8.heap[b]?) := by
      intro b hb
      rw [← hW9]
      exact Below.heap_setCell _ _ _ _ (by exact hb)
    have HB9 : Hid (W9.heap[B]? = some (.cells #[.int .i32 1, .int .u32 0, .int .i64 x.c.first, .slice fa fn fc, .slice sa sn sc, .int .i64 s2.day, .slice (some ⟨h1, 0, none⟩) n d1, .slice (some ⟨h2, 0, none⟩) n d2, .int .i64 s2.part, .bool s2.fixed, .int .i64 s2.stop, .bool s2.heard, .slice (some ⟨h3, 0, none⟩) n d3, .bool s2.ent, .slice va (L + 1) vc, .string mi] 99 (0, 0))) := by
      show _ = _
      rw [← hW9]
      exact (block_set HB8.out 14 _).trans (by simp)
    have HX9 : Hid (Below 0 w8 W9) := by
      show Below _ _ _
      rw [← hW9]
      exact (Below.refl _ _).setCell (Nat.zero_le _) _
    rw [hW9]
    clear hW9 uf u14 v14 v15
    have hs8 : W7.heap.size + 1 ≤ w8.heap.size := by have := HG8.out.size; simp at this; exact this
    have HC9 : Hid (∀ b, b < w6.heap.size → b ≠ B → (Value.slice oa L oc).ownBlock ≠ some b → W9.heap[b]? = w6.heap[b]?) := by
      intro b hb hB hov
      rw [HO9.out b hB, HG8.out.block b (by simp; omega) (Ne.symm hov), Below.heap_alloc _ _ _ (by omega), HO7.out b hB]
    have HCW : Hid (∀ b, b < w.heap.size → b ≠ B → w6.heap[b]? = w.heap[b]?) := by
      intro b hb hB
      rw [HB6.block b (by omega), HOT.out b hB]
    have HE9 : Hid (Env W9) := by
      refine HENV.out.low ⟨?_, ?_, ?_, by have := HB6.size; omega, fun b hb => ?_⟩
      · exact HX9.out.os.trans (HG8.out.os.trans (HX7.out.os.trans HB6.os))
      · exact HX9.out.tape.trans (HG8.out.tape.trans (HX7.out.tape.trans HB6.tape))
      · exact HX9.out.output.trans (HG8.out.output.trans (HX7.out.output.trans HB6.output))
      · rw [HC9.out b (by omega) (by omega) (fun e => by have := (HOVL.out b e).1; omega), HB6.block b (by omega)]
    have v15 := (cell_of_block HB9.out 15).trans (show _ = some (.string mi) from rfl)
    have hok := parseF_facts HP.out
    have hos : o.size ≤ 30 := hok.2.1
    have hmis : mi.size ≤ 4000 := by rw [← HMI.out]; have := minF_size HM.out.ok; rw [HL.out] at this; omega
    have HWR : Hid (writeB mi o = minF (x.os ++ [o])) := by show _ = _; rw [← HMI.out]; exact writeB_min HM.out.ok o
    obtain ⟨mi2, hmi2⟩ : ∃ mi2, minF (x.os ++ [o]) = mi2 := ⟨_, rfl⟩
    have HMI2 := Lib.hid hmi2
    rw [hmi2] at HWR
    clear hok hmi2
    have hB9 : B < W9.heap.size := by omega
    go_wp2_with (go_at_call 65; refine (written_calls mi o _ (by omega) (by omega) HE9.out).use ?_; intro w10 hb10 hz10 hc10 hf10; clear hc10 hf10; rw [HWR.out]; have hb := (hb10.block B hB9).trans HB9.out; have HB10 := Lib.hid hb; have u15 := (cell_of_block hb 15).trans (show _ = some (.string mi) from rfl); have uf := frozen_of_block hb; clear hb)
    have HB11 : Hid ((w10.setCell ⟨B, 15, none⟩ (.string mi2)).heap[B]? = _) := block_set HB10.out 15 (.string mi2)
    refine leaves_cons (f := 60) (args := #[.pointer (some ⟨B, 0, none⟩)]) (by simp) (by simp [go_sem]) ?_
    refine (unlock_deferred muLib ⟨B, 0, none⟩ .returning _ ?_ ?_).mono ?_
    · exact (cell_of_block HB11.out 0).trans (by simp)
    · exact frozen_of_block HB11.out 0
    rintro e u' w'' ⟨rfl, rfl, rfl⟩

    refine ⟨_, results_tmp rfl _ _ _, ?_⟩
    obtain ⟨Y, hY⟩ : ∃ Y, (w10.setCell ⟨B, 15, none⟩ (.string mi2)).setCell ⟨B, 0, none⟩ (.int .i32 0) = Y := ⟨_, rfl⟩
    have hYB : Y.heap[B]? = some (.cells #[.int .i32 0, .int .u32 0, .int .i64 x.c.first, .slice fa fn fc, .slice sa sn sc, .int .i64 s2.day, .slice (some ⟨h1, 0, none⟩) n d1, .slice (some ⟨h2, 0, none⟩) n d2, .int .i64 s2.part, .bool s2.fixed, .int .i64 s2.stop, .bool s2.heard, .slice (some ⟨h3, 0, none⟩) n d3, .bool s2.ent, .slice va (L + 1) vc, .string mi2] 99 (0, 0)) := by
      rw [← hY]
      exact (block_set HB11.out 0 _).trans (by simp)
    have hYO : ∀ b, b < W9.heap.size → b ≠ B → Y.heap[b]? = W9.heap[b]? := by
      intro b hb hB
      rw [← hY, Below.heap_setCell _ _ _ _ (by exact hB), Below.heap_setCell _ _ _ _ (by exact hB), hb10.block b hb]
    have hYS : W9.heap.size ≤ Y.heap.size := by rw [← hY]; have := hb10.size; simp; omega
    have hYX : Y.os = w10.os ∧ Y.tape = w10.tape ∧ Y.output = w10.output := by
      rw [← hY]
      have k : Below 0 w10 ((w10.setCell ⟨B, 15, none⟩ (.string mi2)).setCell ⟨B, 0, none⟩ (.int .i32 0)) := ((Below.refl 0 _).setCell (Nat.zero_le _) _).setCell (Nat.zero_le _) _
      exact ⟨k.os, k.tape, k.output⟩
    rw [hY]
    clear hY
    have hst := HS6.out.st
    have hX : stepO x o = ⟨x.c, s2, x.os ++ [o]⟩ := by
      rw [stepO_ok ((HE.out.trans HER.out).trans HZ.out), HS.out, HS2.out]
    have hY6 : ∀ b, b < w6.heap.size → b ≠ B → (Value.slice oa L oc).ownBlock ≠ some b → Y.heap[b]? = w6.heap[b]? := fun b hb h1 h2 => (hYO b (by omega) h1).trans (HC9.out b hb h1 h2)
    have hrow : ∀ b, mm ≤ b → b ≠ B ∧ (Value.slice oa L oc).ownBlock ≠ some b := fun b hb => ⟨by omega, fun e => by have := (HOVL.out b e).2; omega⟩
    have g1l := hst.r1.lt
    have g2l := hst.r2.lt
    have g3l := hst.r3.lt
    have hst2 : StAt mm Y n s2 h1 d1 h2 d2 h3 d3 := hst.same (hY6 _ g1l (hrow _ hst.m1).1 (hrow _ hst.m1).2) (hY6 _ g2l (hrow _ hst.m2).1 (hrow _ hst.m2).2) (hY6 _ g3l (hrow _ hst.m3).1 (hrow _ hst.m3).2)
    refine ⟨by rw [HE.out.trans HER.out, HZ.out]; rfl, ⟨?_, ?_, ?_, ?_, ?_⟩, .slice va (L + 1) vc, ⟨.slice fa fn fc, .slice sa sn sc, h1, d1, h2, d2, h3, d3, ?_⟩, ?_⟩
    · exact hYX.1.trans (hb10.os.trans (HX9.out.os.trans (HG8.out.os.trans (HX7.out.os.trans (HB6.os.trans HWX.out.os)))))
    · exact hYX.2.1.trans (hb10.tape.trans (HX9.out.tape.trans (HG8.out.tape.trans (HX7.out.tape.trans (HB6.tape.trans HWX.out.tape)))))
    · exact hYX.2.2.trans (hb10.output.trans (HX9.out.output.trans (HG8.out.output.trans (HX7.out.output.trans (HB6.output.trans HWX.out.output)))))
    · have := HB6.size; omega
    · intro b hb h1 h2
      exact (hY6 b (by have := HB6.size; omega) h1 h2).trans (HCW.out b hb h1)
    · rw [hX]
      refine { box := ?_, st := hst2.mono (by omega), fr := ?_, sp := ?_, od := ?_, mB := hmB }
      · unfold offC
        rw [HMI2.out]
        exact hYB
      · refine own_same H.out.fr (fun b hb => ?_)
        have hl := (H.out.fr.lt b hb).2
        have hn := fr_ne H.out hb
        rw [hY6 b (by have := HB6.size; omega) hn.1 hn.2]
        exact HCW.out b hl hn.1
      · refine own_same H.out.sp (fun b hb => ?_)
        have hl := (H.out.sp.lt b hb).2
        have hn := sp_ne H.out hb
        rw [hY6 b (by have := HB6.size; omega) hn.1 hn.2]
        exact HCW.out b hl hn.1
      · have h0 := HOWN8.out
        have e1 : (x.os ++ [o]).length = L + 1 := by rw [List.length_append, HL.out]; rfl
        show Y.ownsRow m 9 1 (.slice va (L + 1) vc) (x.os ++ [o]).length (cellsS (x.os ++ [o]))
        rw [e1, cellsS_append]
        refine own_same h0 (fun b hb => ?_)
        have hl := (h0.lt b hb).2
        have hne : b ≠ B := by
          rintro rfl
          rcases HAT8.out with e | e
          · exact HOVB.out (e ▸ hb)
          · rw [e] at hb
            have := Option.some.inj hb
            simp at this
            omega
        rw [hYO b (by omega) hne, HO9.out b hne]
    · intro b hb
      rcases HAT8.out with e | e
      · exact .inl (e ▸ hb)
      · rw [e] at hb
        have := Option.some.inj hb
        simp at this
        have := HB6.size
        exact .inr (by omega)
  · have HZ := Lib.hid hz
    go_wp2_with (first
      | (go_at_call 64; refine (HDO.out _ (by (repeat' (first | exact Below.refl _ _ | assumption | refine below_new ?_ _ | refine below_draw ?_ | refine below_tail (by assumption) ?_ | refine below_set ?_ (by first | omega | (simp <;> omega)) _)))).mono ?_; rintro e6 w6 ⟨rfl, hb6, hst6⟩; clear hst6; have HB6 : Below W0.heap.size W0 w6 := ((HB05.out.trans ((by first | exact Below.refl _ _ | (repeat' (first | exact Below.refl _ _ | assumption | refine below_new ?_ _ | refine below_draw ?_ | refine below_tail (by assumption) ?_ | refine below_set ?_ (by first | omega | (simp <;> omega)) _)) : Below W5.heap.size W5 _).mono h05)).trans (hb6.mono hmB0)); rw [errV_ne hz])
      | (go_at_call 62; refine (code_calls er _ ((HENV.out.below (by (repeat' (first | exact Below.refl _ _ | assumption | refine below_new ?_ _ | refine below_draw ?_ | refine below_tail (by assumption) ?_ | refine below_set ?_ (by first | omega | (simp <;> omega)) _)))).et)).use ?_; intro w7 hb7 hz7 hc7 hf7; clear hc7 hf7; have HB7 : Below W0.heap.size W0 w7 := (by (repeat' (first | exact Below.refl _ _ | assumption | refine below_new ?_ _ | refine below_draw ?_ | refine below_tail (by assumption) ?_ | refine below_set ?_ (by first | omega | (simp <;> omega)) _))); obtain ⟨r0, rf⟩ := HLB.out w7 HB7))
    refine leaves_cons (f := 60) (args := #[.pointer (some ⟨B, 0, none⟩)]) (by simp) (by simp [go_sem]) ?_
    refine (unlock_deferred muLib ⟨B, 0, none⟩ .returning _ ?_ ?_).mono ?_
    · exact r0
    · exact rf
    rintro e u' w'' ⟨rfl, rfl, rfl⟩

    refine ⟨_, results_tmp rfl _ _ _, ?_⟩
    exact DoO.no HI.out (HE.out.trans HER.out) HZ.out (HUN.out _ HB7)
theorem Do_calls (m : Nat) (w : World) (B n : Nat) (x : Off) (ov : Value) (o : ByteArray) (h : OffIn m w B n x ov) (hmk : Made n x) (hm : 9 ≤ m) (he : Env w) :
    Calls Tryz.prog 21 #[.pointer (some ⟨B, 0, none⟩), .string o] w (DoO m w B n x ov o) := by
  cases hp : parseF o with
  | none => exact Do_none m w B n x ov o h hmk hm he hp
  | some p =>
    obtain ⟨t, l⟩ := p
    by_cases h80 : x.os.length = 80
    · exact Do_large m w B n x ov o h hmk hm he t l hp h80
    · exact Do_main m w B n x ov o h hmk hm he t l hp h80
theorem OffIn.facts {m : Nat} {w : World} {B n : Nat} {x : Off} {ov : Value} (h : OffIn m w B n x ov) : m ≤ B ∧ B < w.heap.size ∧ ∀ b, ov.ownBlock = some b → m ≤ b ∧ b < w.heap.size := by
  obtain ⟨fv, sv, g1, c1, g2, c2, g3, c3, h⟩ := h
  exact ⟨h.mB, h.lt, fun b hb => h.od.lt b hb⟩
theorem DoO.below {m : Nat} {w w' : World} {B n : Nat} {x : Off} {ov : Value} {o : ByteArray} {e : Ending} (h : OffIn m w B n x ov) (hd : DoO m w B n x ov o e w') : Below m w w' := by
  have hf := h.facts
  exact hd.2.1.below hf.1 (by omega) (fun b hb => (hf.2.2 b hb).1)
end Go.Proofs.YthooacpfmjpdmaaGreatDoor
