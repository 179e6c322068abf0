/- A new office. Conditions: the calendar lies in memory as said. -/
import Derived.Test.YthooacpfmjpdmaaGreatDoorODoM
namespace Go.Proofs.YthooacpfmjpdmaaGreatDoor
open Go.RowKit Go.MuLone
theorem cloneFr {v : Value} {l : List Int} {n : Nat} {w : World} (h : IntsAt w v l) (hl : l.length = n) (h12 : n ≤ 12) :
    Calls Tryz.prog 56 #[v] w fun e w' => ∃ v', e = .returned v' ∧ w'.ownsRow w.heap.size 3 1 v' n (cells1 l) ∧ Below w.heap.size w w' := by
  subst hl; exact cloneI h (by omega)
theorem cloneSp {v : Value} {l : List (Int × Int)} {n : Nat} {w : World} (h : PairsAt w v l) (hl : l.length = n) (h4 : n ≤ 4) :
    Calls Tryz.prog 57 #[v] w fun e w' => ∃ v', e = .returned v' ∧ w'.ownsRow w.heap.size 66 2 v' n (cells2 l) ∧ Below w.heap.size w w' := by
  subst hl; exact cloneS h (by omega)
def NewC (c : Cal) (fa sa : Option Addr) (fn fc sn sc : Nat) (w : World) (v0 v1 v2 v3 v4 v5 v6 v7 v8 v9 v10 v11 v12 v13 v14 v15 v16 v17 v26 v27 v28 v29 v30 v31 v32 v33 v34 v35 : Value) (d : Nat → Bool) (a : Act) (x : World) : Prop :=
  ∃ u18 u19 u20 u21 u22 u23 u24 u25 : Value, a = ⟨List.toArray (v0 :: v1 :: v2 :: v3 :: v4 :: v5 :: v6 :: v7 :: v8 :: v9 :: v10 :: v11 :: v12 :: v13 :: v14 :: v15 :: v16 :: v17 :: u18 :: u19 :: u20 :: u21 :: u22 :: u23 :: u24 :: u25 :: v26 :: v27 :: v28 :: v29 :: v30 :: v31 :: v32 :: v33 :: v34 :: v35 :: []), []⟩ ∧
    Below w.heap.size w x ∧
    w.heap.size + 1 ≤ x.heap.size ∧
    (∃ cs : Nat → Value, x.heap[w.heap.size]? = some (.cells #[.int .i64 c.first, cs 1, cs 2] 25 (0, 0)) ∧ (d 7 = false → cs 1 = .slice fa fn fc) ∧ (d 7 = true → cs 1 = u20) ∧ (d 9 = false → cs 2 = .slice sa sn sc) ∧ (d 9 = true → cs 2 = u23)) ∧
    (d 0 = true → u18 = .pointer (some ⟨w.heap.size, 1, none⟩)) ∧
    (d 1 = true → u19 = .slice fa fn fc) ∧
    (d 2 = true → x.ownsRow (w.heap.size + 1) 3 1 u20 fn (cells1 c.free)) ∧
    (d 3 = true → u21 = .pointer (some ⟨w.heap.size, 2, none⟩)) ∧
    (d 4 = true → u22 = .slice sa sn sc) ∧
    (d 5 = true → x.ownsRow (w.heap.size + 1) 66 2 u23 sn (cells2 c.still)) ∧
    (d 6 = true → u24 = .pointer (some ⟨w.heap.size, 1, none⟩)) ∧
    (d 8 = true → u25 = .pointer (some ⟨w.heap.size, 2, none⟩)) ∧
    (d 2 = true → d 1 = true) ∧
    (d 5 = true → d 4 = true ∧ d 2 = true) ∧
    (d 7 = true → d 6 = true ∧ d 2 = true ∧ d 5 = true) ∧
    (d 9 = true → d 8 = true ∧ d 5 = true ∧ d 7 = true) ∧
    (d 2 = true → d 5 = true → apt u20 u23)
theorem NewC_law (c : Cal) (fa sa : Option Addr) (fn fc sn sc : Nat) (w : World) {v0 v1 v2 v3 v4 v5 v6 v7 v8 v9 v10 v11 v12 v13 v14 v15 v16 v17 v26 v27 v28 v29 v30 v31 v32 v33 v34 v35 : Value} {P : Program} {id : Nat} {ops : Array Oper} {Q : Exit → Act → World → Prop} {a : Act} {w0 : World} (hm : P.follows .mixedOrders = true) (hd : edgesDown ops = true)
    (h0 : NewC c fa sa fn fc sn sc w v0 v1 v2 v3 v4 v5 v6 v7 v8 v9 v10 v11 v12 v13 v14 v15 v16 v17 v26 v27 v28 v29 v30 v31 v32 v33 v34 v35 (fun _ => false) a w0.drew)
    (hstep : ∀ (d : Nat → Bool) (a : Act) (w1 : World), NewC c fa sa fn fc sn sc w v0 v1 v2 v3 v4 v5 v6 v7 v8 v9 v10 v11 v12 v13 v14 v15 v16 v17 v26 v27 v28 v29 v30 v31 v32 v33 v34 v35 d a w1 → ∀ i, i < ops.size → d i = false → (∀ o, ops[i]? = some o → ∀ e ∈ o.after, Region.binds .any e = true → d e.on = true) → wpOp P ops Q i (NewC c fa sa fn fc sn sc w v0 v1 v2 v3 v4 v5 v6 v7 v8 v9 v10 v11 v12 v13 v14 v15 v16 v17 v26 v27 v28 v29 v30 v31 v32 v33 v34 v35 (fun j => j == i || d j)) a w1)
    (hend : ∀ (d : Nat → Bool) (a : Act) (w1 : World), NewC c fa sa fn fc sn sc w v0 v1 v2 v3 v4 v5 v6 v7 v8 v9 v10 v11 v12 v13 v14 v15 v16 v17 v26 v27 v28 v29 v30 v31 v32 v33 v34 v35 d a w1 → (∀ i, i < ops.size → d i = true) → Q .normal a w1) : (Code.region id ops true).wp P Q a w0 := wp_region_inv hm hd (NewC c fa sa fn fc sn sc w v0 v1 v2 v3 v4 v5 v6 v7 v8 v9 v10 v11 v12 v13 v14 v15 v16 v17 v26 v27 v28 v29 v30 v31 v32 v33 v34 v35) h0 hstep hend
def NewM (W0 : World) (c : Cal) (ga ta : Option Addr) (fn gc sn tc kn b0 : Nat) (v1 v2 v6 v7 v8 v9 v10 v11 v12 v13 v14 v15 v16 v17 v18 v19 v20 v21 v22 v23 v24 v25 : Value) (d : Nat → Bool) (a : Act) (x : World) : Prop :=
  ∃ u4 u5 u26 u27 u28 u29 u30 u31 u32 u33 u34 u35 : Value, a = ⟨List.toArray ((.int .i64 (kn : Int)) :: (v1) :: (v2) :: (.pointer (some ⟨b0, 0, none⟩)) :: (u4) :: (u5) :: (v6) :: (v7) :: (v8) :: (v9) :: (v10) :: (v11) :: (v12) :: (v13) :: (v14) :: (v15) :: (v16) :: (v17) :: (v18) :: (v19) :: (v20) :: (v21) :: (v22) :: (v23) :: (v24) :: (v25) :: (u26) :: (u27) :: (u28) :: (u29) :: (u30) :: (u31) :: (u32) :: (u33) :: (u34) :: (u35) :: []), []⟩ ∧
    Below W0.heap.size W0 x ∧
    (d 0 = true → u26 = .agg #[.int .i64 c.first, .slice ga fn gc, .slice ta sn tc]) ∧
    (d 1 = true → u27 = .int .i64 (kn : Int)) ∧
    (d 2 = true → ∃ g, u28 = .slice (some ⟨g, 0, none⟩) kn kn ∧ W0.heap.size ≤ g ∧ RowAt x g 3 kn (cells1 (List.replicate kn 0))) ∧
    (d 3 = true → u29 = .int .i64 (kn : Int)) ∧
    (d 4 = true → ∃ g, u30 = .slice (some ⟨g, 0, none⟩) kn kn ∧ W0.heap.size ≤ g ∧ RowAt x g 3 kn (cells1 (List.replicate kn 0))) ∧
    (d 5 = true → u31 = .int .i64 (kn : Int)) ∧
    (d 6 = true → ∃ g, u32 = .slice (some ⟨g, 0, none⟩) kn kn ∧ W0.heap.size ≤ g ∧ RowAt x g 4 kn (cellsB (List.replicate kn false))) ∧
    (d 2 = true → d 4 = true → u28 ≠ u30) ∧
    (d 7 = true → u33 = .agg #[.int .i64 0, u28, u30, .int .i64 0, .bool false, .int .i64 0, .bool false, u32, .bool false]) ∧
    (d 7 = true → d 2 = true ∧ d 4 = true ∧ d 6 = true) ∧
    (d 8 = true → u34 = .agg #[.int .i32 0, .int .u32 0, .int .i64 c.first, .slice ga fn gc, .slice ta sn tc, .int .i64 0, u28, u30, .int .i64 0, .bool false, .int .i64 0, .bool false, u32, .bool false, .slice none 0 0, .string ⟨#[]⟩]) ∧
    (d 8 = true → d 0 = true ∧ d 7 = true) ∧
    (d 9 = true → ∃ b, u35 = .pointer (some ⟨b, 0, none⟩) ∧ W0.heap.size ≤ b ∧ x.heap[b]? = some (.cells #[.int .i32 0, .int .u32 0, .int .i64 c.first, .slice ga fn gc, .slice ta sn tc, .int .i64 0, u28, u30, .int .i64 0, .bool false, .int .i64 0, .bool false, u32, .bool false, .slice none 0 0, .string ⟨#[]⟩] 99 (0, 0))) ∧
    (d 9 = true → d 8 = true) ∧
    (d 10 = true → u4 = u35) ∧
    (d 10 = true → d 9 = true) ∧
    (d 11 = true → u5 = .int .i64 0)
theorem NewM_law (W0 : World) (c : Cal) (ga ta : Option Addr) (fn gc sn tc kn b0 : Nat) {v1 v2 v6 v7 v8 v9 v10 v11 v12 v13 v14 v15 v16 v17 v18 v19 v20 v21 v22 v23 v24 v25 : Value} {P : Program} {id : Nat} {ops : Array Oper} {Q : Exit → Act → World → Prop} {a : Act} {w : World} (hm : P.follows .mixedOrders = true) (hd : edgesDown ops = true)
    (h0 : NewM W0 c ga ta fn gc sn tc kn b0 v1 v2 v6 v7 v8 v9 v10 v11 v12 v13 v14 v15 v16 v17 v18 v19 v20 v21 v22 v23 v24 v25 (fun _ => false) a w.drew)
    (hstep : ∀ (d : Nat → Bool) (a : Act) (w : World), NewM W0 c ga ta fn gc sn tc kn b0 v1 v2 v6 v7 v8 v9 v10 v11 v12 v13 v14 v15 v16 v17 v18 v19 v20 v21 v22 v23 v24 v25 d a w → ∀ i, i < ops.size → d i = false → (∀ o, ops[i]? = some o → ∀ e ∈ o.after, Region.binds .any e = true → d e.on = true) → wpOp P ops Q i (NewM W0 c ga ta fn gc sn tc kn b0 v1 v2 v6 v7 v8 v9 v10 v11 v12 v13 v14 v15 v16 v17 v18 v19 v20 v21 v22 v23 v24 v25 (fun j => j == i || d j)) a w)
    (hend : ∀ (d : Nat → Bool) (a : Act) (w : World), NewM W0 c ga ta fn gc sn tc kn b0 v1 v2 v6 v7 v8 v9 v10 v11 v12 v13 v14 v15 v16 v17 v18 v19 v20 v21 v22 v23 v24 v25 d a w → (∀ i, i < ops.size → d i = true) → Q .normal a w) : (Code.region id ops true).wp P Q a w := wp_region_inv hm hd (NewM W0 c ga ta fn gc sn tc kn b0 v1 v2 v6 v7 v8 v9 v10 v11 v12 v13 v14 v15 v16 v17 v18 v19 v20 v21 v22 v23 v24 v25) h0 hstep hend
theorem new_row (w : World) (n : Nat) (hn : n ≤ 8) : RowAt (w.alloc (.cells ((List.range n).map fun _ => Value.int .i64 0).toArray 3)) w.heap.size 3 n (cells1 (List.replicate n 0)) := by
  have e : (List.range n).map (fun _ => Value.int .i64 0) = cells1 (List.replicate n 0) := by simp [cells1, List.map_const', List.map_replicate]
  rw [e]
  exact ⟨by simp [cells1], by unfold maxLen; omega, _, alloc_new _ _ rfl, by simp [cells1], by simp [cells1]⟩
theorem new_rowB (w : World) (n : Nat) (hn : n ≤ 8) : RowAt (w.alloc (.cells ((List.range n).map fun _ => Value.bool false).toArray 4)) w.heap.size 4 n (cellsB (List.replicate n false)) := by
  have e : (List.range n).map (fun _ => Value.bool false) = cellsB (List.replicate n false) := by simp [cellsB, List.map_const', List.map_replicate]
  rw [e]
  exact ⟨by simp [cellsB], by unfold maxLen; omega, _, alloc_new _ _ rfl, by simp [cellsB], by simp [cellsB]⟩
theorem valid_lens {c : Cal} (h : validF c = 0) : c.free.length ≤ 12 ∧ c.still.length ≤ 4 := by
  unfold validF at h
  split at h
  · split at h
    · cases h
    · rename_i hn
      simp only [Bool.or_eq_true, decide_eq_true_eq, not_or] at hn
      omega
  · cases h
/-- What New returns, and what it leaves. -/
def NewE (k : Int) (c : Cal) : Int := if k < 1 ∨ 8 < k then 1 else validF c
def NewR (w : World) (k : Int) (c : Cal) (e : Ending) (w' : World) : Prop :=
  Below w.heap.size w w' ∧ (NewE k c ≠ 0 → e = .returned (.tuple #[.pointer none, .int .i64 (NewE k c)])) ∧
  (NewE k c = 0 → ∃ B, e = .returned (.tuple #[.pointer (some ⟨B, 0, none⟩), .int .i64 0]) ∧ OffIn w.heap.size w' B k.toNat (newO k.toNat c) (.slice none 0 0))
theorem NewR.no {w w' : World} {k : Int} {c : Cal} {r : Int} (hr : NewE k c = r) (hz : r ≠ 0) (hb : Below w.heap.size w w') : NewR w k c (.returned (.tuple #[.pointer none, .int .i64 r])) w' := by
  subst hr
  exact ⟨hb, fun _ => rfl, fun h => absurd h hz⟩
set_option maxRecDepth 100000 in
set_option maxHeartbeats 4000000 in
theorem New_range (k : Int) (v : Value) (c : Cal) (w : World) (h : CalAt w v c) (hk : k < 1 ∨ 8 < k) :
    Calls Tryz.prog 19 #[.int .i64 k, v] w (NewR w k c) := by
  obtain ⟨fa, fc, sa, sc, rfl, hf, hs, hfc, hsc, hfl, hsl⟩ := h.cells
  have HC := Lib.hid h
  clear h hf hs
  obtain ⟨fn, hfn⟩ : ∃ n, c.free.length = n := ⟨_, rfl⟩
  have HFN := Lib.hid hfn
  obtain ⟨sn, hsn⟩ : ∃ n, c.still.length = n := ⟨_, rfl⟩
  have HSN := Lib.hid hsn
  rw [hfn] at HC ⊢
  rw [hsn] at HC ⊢
  clear hfn hsn
  have HE : Hid (NewE k c = 1) := by show _ = _; unfold NewE; rw [if_pos hk]
  rcases (show k < 1 ∨ (¬ k < 1 ∧ 8 < k) by omega) with h1 | ⟨h1, h2⟩
  · have k1 : decide (k < 1) = true := decide_eq_true h1
    clear hk
    go_enter Tryz.func19, Tryz.ntmps19
    go_wp2
    go_ret2
    exact NewR.no HE.out (by decide) (by (repeat' (first | exact Below.refl _ _ | assumption | refine below_new ?_ _ | refine below_draw ?_ | refine below_tail (by assumption) ?_ | refine below_set ?_ (by first | omega | (simp <;> omega)) _)))
  · have k1 : decide (k < 1) = false := decide_eq_false h1
    have k2 : decide (8 < k) = true := decide_eq_true h2
    clear hk
    go_enter Tryz.func19, Tryz.ntmps19
    go_wp2
    go_ret2
    exact NewR.no HE.out (by decide) (by (repeat' (first | exact Below.refl _ _ | assumption | refine below_new ?_ _ | refine below_draw ?_ | refine below_tail (by assumption) ?_ | refine below_set ?_ (by first | omega | (simp <;> omega)) _)))
set_option maxRecDepth 100000 in
set_option maxHeartbeats 4000000 in
theorem New_invalid (k : Int) (v : Value) (c : Cal) (w : World) (h : CalAt w v c) (hk1 : ¬ k < 1) (hk2 : ¬ 8 < k) (hv : validF c ≠ 0) :
    Calls Tryz.prog 19 #[.int .i64 k, v] w (NewR w k c) := by
  obtain ⟨fa, fc, sa, sc, rfl, hf, hs, hfc, hsc, hfl, hsl⟩ := h.cells
  have HC := Lib.hid h
  clear h hf hs
  obtain ⟨fn, hfn⟩ : ∃ n, c.free.length = n := ⟨_, rfl⟩
  have HFN := Lib.hid hfn
  obtain ⟨sn, hsn⟩ : ∃ n, c.still.length = n := ⟨_, rfl⟩
  have HSN := Lib.hid hsn
  rw [hfn] at HC ⊢
  rw [hsn] at HC ⊢
  clear hfn hsn
  have k1 : decide (k < 1) = false := decide_eq_false hk1
  have k2 : decide (8 < k) = false := decide_eq_false hk2
  obtain ⟨r, hr⟩ : ∃ r, validF c = r := ⟨_, rfl⟩
  have HE : Hid (NewE k c = r) := by show _ = _; unfold NewE; rw [if_neg (by omega), hr]
  have HV : Hid (∀ y, Below w.heap.size w y → Gives Tryz.prog 55 #[.agg #[.int .i64 c.first, .slice fa fn fc, .slice sa sn sc]] y (.int .i64 r)) := by
    intro y hy
    rw [← hr]
    exact validate_calls _ c y (HC.out.below hy)
  have hz : r ≠ 0 := by rw [← hr]; exact hv
  have kr : (r != 0) = true := by simpa using hz
  clear hr hv
  go_enter Tryz.func19, Tryz.ntmps19
  go_wp2_with (go_at_call 55; refine (HV.out _ (by (repeat' (first | exact Below.refl _ _ | assumption | refine below_new ?_ _ | refine below_draw ?_ | refine below_tail (by assumption) ?_ | refine below_set ?_ (by first | omega | (simp <;> omega)) _)))).use ?_; intro w1 hb1 hz1 hc1 hf1; clear hc1 hf1)
  go_ret2
  exact NewR.no HE.out hz (by (repeat' (first | exact Below.refl _ _ | assumption | refine below_new ?_ _ | refine below_draw ?_ | refine below_tail (by assumption) ?_ | refine below_set ?_ (by first | omega | (simp <;> omega)) _)))
set_option maxRecDepth 100000 in
set_option maxHeartbeats 4000000 in
theorem New_valid (k : Int) (v : Value) (c : Cal) (w : World) (h : CalAt w v c) (hk1 : ¬ k < 1) (hk2 : ¬ 8 < k) (hv : validF c = 0) :
    Calls Tryz.prog 19 #[.int .i64 k, v] w (NewR w k c) := by
  obtain ⟨fa, fc, sa, sc, rfl, hf, hs, hfc, hsc, hfl, hsl⟩ := h.cells
  have HC := Lib.hid h
  clear h hf hs
  obtain ⟨fn, hfn⟩ : ∃ n, c.free.length = n := ⟨_, rfl⟩
  have HFN := Lib.hid hfn
  obtain ⟨sn, hsn⟩ : ∃ n, c.still.length = n := ⟨_, rfl⟩
  have HSN := Lib.hid hsn
  rw [hfn] at HC ⊢
  rw [hsn] at HC ⊢
  clear hfn hsn
  have k1 : decide (k < 1) = false := decide_eq_false hk1
  have k2 : decide (8 < k) = false := decide_eq_false hk2
  obtain ⟨r, hr⟩ : ∃ r, validF c = r := ⟨_, rfl⟩
  have HE : Hid (NewE k c = r) := by show _ = _; unfold NewE; rw [if_neg (by omega), hr]
  have HV : Hid (∀ y, Below w.heap.size w y → Gives Tryz.prog 55 #[.agg #[.int .i64 c.first, .slice fa fn fc, .slice sa sn sc]] y (.int .i64 r)) := by
    intro y hy
    rw [← hr]
    exact validate_calls _ c y (HC.out.below hy)
  obtain rfl : r = 0 := by rw [← hr]; exact hv
  have HVC := Lib.hid hv
  have h12 : fn ≤ 12 := by rw [← HFN.out]; exact (valid_lens hv).1
  have h4 : sn ≤ 4 := by rw [← HSN.out]; exact (valid_lens hv).2
  clear hr hv
  obtain ⟨_, _, hag, hfr, hsp⟩ := HC.out
  simp only [Value.agg.injEq, Array.mk.injEq, List.cons.injEq, and_true, true_and] at hag
  obtain ⟨rfl, rfl⟩ := hag
  have HFR := Lib.hid hfr
  have HSP := Lib.hid hsp
  clear hfr hsp
  go_enter Tryz.func19, Tryz.ntmps19
  obtain ⟨kn, rfl⟩ : ∃ kn : Nat, k = (kn : Int) := ⟨k.toNat, by omega⟩
  have hk8 : kn ≤ 8 := by omega
  have hk1n : 1 ≤ kn := by omega
  go_upto_region 6 with (go_at_call 55; refine (HV.out _ (by (repeat' (first | exact Below.refl _ _ | assumption | refine below_new ?_ _ | refine below_draw ?_ | refine below_tail (by assumption) ?_ | refine below_set ?_ (by first | omega | (simp <;> omega)) _)))).use ?_; intro w1 hb1 hz1 hc1 hf1; clear hc1 hf1)
  have hbx1 : w1.heap[w.heap.size]? = some (.cells #[.int .i64 c.first, .slice fa fn fc, .slice sa sn sc] 25 (0, 0)) := (hb1.block _ (by simp)).trans (alloc_new _ _ rfl)
  have HBW1 : Below w.heap.size w w1 := by (repeat' (first | exact Below.refl _ _ | assumption | refine below_new ?_ _ | refine below_draw ?_ | refine below_tail (by assumption) ?_ | refine below_set ?_ (by first | omega | (simp <;> omega)) _))
  have hsw1 : w.heap.size + 1 ≤ w1.heap.size := by have := hb1.size; simp at this; exact this
  apply NewC_law c fa sa fn fc sn sc w mixed (by kernel_rfl)
  case h0 =>
    unfold NewC
    refine ⟨_, _, _, _, _, _, _, _, rfl, ?_, by simpa using hsw1, ⟨fun i => (#[.int .i64 c.first, .slice fa fn fc, .slice sa sn sc] : Array Value).getD i undef, hbx1, ?_⟩, ?_⟩
    · exact below_draw HBW1
    · simp
    · simp only [Bool.false_eq_true, false_implies, and_self]
  case hstep =>
    intro d a x hI i hi hdi hed
    unfold NewC at hI
    obtain ⟨u18, u19, u20, u21, u22, u23, u24, u25, rfl, fb, fs, fK, f0, f1, f2, f3, f4, f5, f6, f8, q2, q5, q7, q9, a0_1⟩ := hI
    have hi' : i < 10 := hi
    clear hi
    rcases (show i = 0 ∨ i = 1 ∨ i = 2 ∨ i = 3 ∨ i = 4 ∨ i = 5 ∨ i = 6 ∨ i = 7 ∨ i = 8 ∨ i = 9 by omega) with rfl | rfl | rfl | rfl | rfl | rfl | rfl | rfl | rfl | rfl
    · skip
      have he := hed _ rfl
      simp only [Region.binds] at he
      try simp at he
      clear hed
      refine wpOp_step rfl (fun K hK => ?_)
      go_simp
      (try (refine hK _ _ ?_; clear hK K))
      unfold NewC
      refine ⟨_, _, _, _, _, _, _, _, rfl, ?_⟩
      simp only [Nat.reduceBEq, Bool.false_or, Bool.true_or, beq_self_eq_true, forall_const]
      exact ⟨fb, fs, fK, (by intros; trivial), (by first | exact f1 | (intros; trivial)), f2, (by first | exact f3 | (intros; trivial)), (by first | exact f4 | (intros; trivial)), f5, (by first | exact f6 | (intros; trivial)), (by first | exact f8 | (intros; trivial)), q2, q5, q7, q9, a0_1⟩
    · skip
      have he := hed _ rfl
      simp only [Region.binds] at he
      try simp at he
      clear hed
      refine wpOp_step rfl (fun K hK => ?_)
      have hno : d 7 = false := by
        cases hh : d 7
        · rfl
        · exact not_both ((q2 (q7 hh).2.1)) hdi
      obtain ⟨cs, hk0, k0A, k0B, k1A, k1B⟩ := fK
      have g0 := f0 he
      subst g0
      have qc := (cell_of_block hk0 1).trans (congrArg some (k0A hno))
      go_simp
      (try (refine hK _ _ ?_; clear hK K))
      unfold NewC
      refine ⟨_, _, _, _, _, _, _, _, rfl, ?_⟩
      simp only [Nat.reduceBEq, Bool.false_or, Bool.true_or, beq_self_eq_true, forall_const]
      exact ⟨fb, fs, ⟨cs, hk0, k0A, k0B, k1A, k1B⟩, (by first | exact f0 | (intros; trivial)), (by intros; trivial), f2, (by first | exact f3 | (intros; trivial)), (by first | exact f4 | (intros; trivial)), f5, (by first | exact f6 | (intros; trivial)), (by first | exact f8 | (intros; trivial)), (by intros; trivial), q5, q7, q9, a0_1⟩
    · skip
      have he := hed _ rfl
      simp only [Region.binds] at he
      try simp at he
      clear hed
      refine wpOp_step rfl (fun K hK => ?_)
      have g0 := f1 (he)
      subst g0
      go_wp2_with (go_at_call 56; (refine (cloneFr (HFR.out.below fb) HFN.out h12).mono ?_); rintro e w3 ⟨v3, rfl, hof, hb3⟩)
      (try (refine hK _ _ ?_; clear hK K))
      unfold NewC
      refine ⟨_, _, _, _, _, _, _, _, rfl, ?_⟩
      simp only [Nat.reduceBEq, Bool.false_or, Bool.true_or, beq_self_eq_true, forall_const]
      exact ⟨fb.trans (hb3.mono fb.size), Nat.le_trans fs hb3.size, (let ⟨cs, hk0, rest⟩ := fK; ⟨cs, blk_below hk0 hb3, (rest.1), (fun hq => not_both ((q7 hq).2.1) hdi), (rest.2.2.1), (fun hq => not_both ((q5 (q9 hq).2.1).2) hdi)⟩), (by first | exact f0 | (intros; trivial)), (by first | exact f1 | (intros; trivial)), own_base hof fs, (by first | exact f3 | (intros; trivial)), (by first | exact f4 | (intros; trivial)), (fun h => own_below (f5 h) hb3), (by first | exact f6 | (intros; trivial)), (by first | exact f8 | (intros; trivial)), he, (fun h => ⟨(q5 h).1, by trivial⟩), (fun h => ⟨(q7 h).1, by trivial, (q7 h).2.2⟩), q9, (fun h => not_both ((q5 h).2) hdi)⟩
    · skip
      have he := hed _ rfl
      simp only [Region.binds] at he
      try simp at he
      clear hed
      refine wpOp_step rfl (fun K hK => ?_)
      go_simp
      (try (refine hK _ _ ?_; clear hK K))
      unfold NewC
      refine ⟨_, _, _, _, _, _, _, _, rfl, ?_⟩
      simp only [Nat.reduceBEq, Bool.false_or, Bool.true_or, beq_self_eq_true, forall_const]
      exact ⟨fb, fs, fK, (by first | exact f0 | (intros; trivial)), (by first | exact f1 | (intros; trivial)), f2, (by intros; trivial), (by first | exact f4 | (intros; trivial)), f5, (by first | exact f6 | (intros; trivial)), (by first | exact f8 | (intros; trivial)), q2, q5, q7, q9, a0_1⟩
    · skip
      have he := hed _ rfl
      simp only [Region.binds] at he
      try simp at he
      clear hed
      refine wpOp_step rfl (fun K hK => ?_)
      have hno : d 9 = false := by
        cases hh : d 9
        · rfl
        · exact not_both ((q5 (q9 hh).2.1).1) hdi
      obtain ⟨cs, hk0, k0A, k0B, k1A, k1B⟩ := fK
      have g0 := f3 he
      subst g0
      have qc := (cell_of_block hk0 2).trans (congrArg some (k1A hno))
      go_simp
      (try (refine hK _ _ ?_; clear hK K))
      unfold NewC
      refine ⟨_, _, _, _, _, _, _, _, rfl, ?_⟩
      simp only [Nat.reduceBEq, Bool.false_or, Bool.true_or, beq_self_eq_true, forall_const]
      exact ⟨fb, fs, ⟨cs, hk0, k0A, k0B, k1A, k1B⟩, (by first | exact f0 | (intros; trivial)), (by first | exact f1 | (intros; trivial)), f2, (by first | exact f3 | (intros; trivial)), (by intros; trivial), f5, (by first | exact f6 | (intros; trivial)), (by first | exact f8 | (intros; trivial)), q2, (fun h => ⟨by trivial, (q5 h).2⟩), q7, q9, a0_1⟩
    · skip
      have he := hed _ rfl
      simp only [Region.binds] at he
      try simp at he
      clear hed
      refine wpOp_step rfl (fun K hK => ?_)
      have g0 := f4 (he.1)
      subst g0
      go_wp2_with (go_at_call 57; (refine (cloneSp (HSP.out.below fb) HSN.out h4).mono ?_); rintro e w3 ⟨v3, rfl, hof, hb3⟩)
      (try (refine hK _ _ ?_; clear hK K))
      unfold NewC
      refine ⟨_, _, _, _, _, _, _, _, rfl, ?_⟩
      simp only [Nat.reduceBEq, Bool.false_or, Bool.true_or, beq_self_eq_true, forall_const]
      exact ⟨fb.trans (hb3.mono fb.size), Nat.le_trans fs hb3.size, (let ⟨cs, hk0, rest⟩ := fK; ⟨cs, blk_below hk0 hb3, (rest.1), (fun hq => not_both ((q7 hq).2.2) hdi), (rest.2.2.1), (fun hq => not_both ((q9 hq).2.1) hdi)⟩), (by first | exact f0 | (intros; trivial)), (by first | exact f1 | (intros; trivial)), (fun h => own_below (f2 h) hb3), (by first | exact f3 | (intros; trivial)), (by first | exact f4 | (intros; trivial)), own_base hof fs, (by first | exact f6 | (intros; trivial)), (by first | exact f8 | (intros; trivial)), q2, he, (fun h => ⟨(q7 h).1, (q7 h).2.1, by trivial⟩), (fun h => ⟨(q9 h).1, by trivial, (q9 h).2.2⟩), (fun h => apt_new (f2 h) hof (Nat.le_refl _))⟩
    · skip
      have he := hed _ rfl
      simp only [Region.binds] at he
      try simp at he
      clear hed
      refine wpOp_step rfl (fun K hK => ?_)
      go_simp
      (try (refine hK _ _ ?_; clear hK K))
      unfold NewC
      refine ⟨_, _, _, _, _, _, _, _, rfl, ?_⟩
      simp only [Nat.reduceBEq, Bool.false_or, Bool.true_or, beq_self_eq_true, forall_const]
      exact ⟨fb, fs, fK, (by first | exact f0 | (intros; trivial)), (by first | exact f1 | (intros; trivial)), f2, (by first | exact f3 | (intros; trivial)), (by first | exact f4 | (intros; trivial)), f5, (by intros; trivial), (by first | exact f8 | (intros; trivial)), q2, q5, (fun h => ⟨by trivial, (q7 h).2.1, (q7 h).2.2⟩), q9, a0_1⟩
    · skip
      have he := hed _ rfl
      simp only [Region.binds] at he
      try simp at he
      clear hed
      refine wpOp_step rfl (fun K hK => ?_)
      have g0 := f6 (he.1)
      subst g0
      obtain ⟨cs, hk0, rest⟩ := fK
      have qc := cell_of_block hk0 1
      have qf := frozen_of_block hk0 1
      have hbw : w.heap.size ≤ w.heap.size := Nat.le_refl _
      obtain ⟨va, vc, rfl⟩ := own_slice (f2 he.2.1)
      go_simp
      (try (refine hK _ _ ?_; clear hK K))
      unfold NewC
      refine ⟨_, _, _, _, _, _, _, _, rfl, ?_⟩
      simp only [Nat.reduceBEq, Bool.false_or, Bool.true_or, beq_self_eq_true, forall_const]
      exact ⟨fb.setCell hbw _, (by simpa using fs), ⟨(fun j => if j = 1 then (.slice va fn vc) else cs j), (block_set hk0 1 _).trans (by simp), (by intro h; cases h), (by simp), (fun h => (rest.2.2.1) h), (fun h => (rest.2.2.2) h)⟩, (by first | exact f0 | (intros; trivial)), (by first | exact f1 | (intros; trivial)), (fun h => own_any (f2 h) (ne_old (f2 h) (by dsimp only; omega))), (by first | exact f3 | (intros; trivial)), (by first | exact f4 | (intros; trivial)), (fun h => own_any (f5 h) (ne_old (f5 h) (by dsimp only; omega))), (by first | exact f6 | (intros; trivial)), (by first | exact f8 | (intros; trivial)), q2, q5, ⟨he.1, he.2.1, he.2.2.1⟩, (fun h => ⟨(q9 h).1, (q9 h).2.1, by trivial⟩), a0_1⟩
    · skip
      have he := hed _ rfl
      simp only [Region.binds] at he
      try simp at he
      clear hed
      refine wpOp_step rfl (fun K hK => ?_)
      go_simp
      (try (refine hK _ _ ?_; clear hK K))
      unfold NewC
      refine ⟨_, _, _, _, _, _, _, _, rfl, ?_⟩
      simp only [Nat.reduceBEq, Bool.false_or, Bool.true_or, beq_self_eq_true, forall_const]
      exact ⟨fb, fs, fK, (by first | exact f0 | (intros; trivial)), (by first | exact f1 | (intros; trivial)), f2, (by first | exact f3 | (intros; trivial)), (by first | exact f4 | (intros; trivial)), f5, (by first | exact f6 | (intros; trivial)), (by intros; trivial), q2, q5, q7, (fun h => ⟨by trivial, (q9 h).2.1, (q9 h).2.2⟩), a0_1⟩
    · skip
      have he := hed _ rfl
      simp only [Region.binds] at he
      try simp at he
      clear hed
      refine wpOp_step rfl (fun K hK => ?_)
      have g0 := f8 (he.1)
      subst g0
      obtain ⟨cs, hk0, rest⟩ := fK
      have qc := cell_of_block hk0 2
      have qf := frozen_of_block hk0 2
      have hbw : w.heap.size ≤ w.heap.size := Nat.le_refl _
      obtain ⟨va, vc, rfl⟩ := own_slice (f5 he.2.1)
      go_simp
      (try (refine hK _ _ ?_; clear hK K))
      unfold NewC
      refine ⟨_, _, _, _, _, _, _, _, rfl, ?_⟩
      simp only [Nat.reduceBEq, Bool.false_or, Bool.true_or, beq_self_eq_true, forall_const]
      exact ⟨fb.setCell hbw _, (by simpa using fs), ⟨(fun j => if j = 2 then (.slice va sn vc) else cs j), (block_set hk0 2 _).trans (by simp), (fun h => (rest.1) h), (fun h => (rest.2.1) h), (by intro h; cases h), (by simp)⟩, (by first | exact f0 | (intros; trivial)), (by first | exact f1 | (intros; trivial)), (fun h => own_any (f2 h) (ne_old (f2 h) (by dsimp only; omega))), (by first | exact f3 | (intros; trivial)), (by first | exact f4 | (intros; trivial)), (fun h => own_any (f5 h) (ne_old (f5 h) (by dsimp only; omega))), (by first | exact f6 | (intros; trivial)), (by first | exact f8 | (intros; trivial)), q2, q5, q7, ⟨he.1, he.2.1, he.2.2.1⟩, a0_1⟩
  case hend =>
    intro d a x hI hd
    unfold NewC at hI
    obtain ⟨u18, u19, u20, u21, u22, u23, u24, u25, rfl, fb, fs, fK, f0, f1, f2, f3, f4, f5, f6, f8, q2, q5, q7, q9, a0_1⟩ := hI
    obtain ⟨cs, hk0, -, k1_, -, k2_⟩ := fK
    have h2 := f2 (hd 2 (by decide))
    have h5 := f5 (hd 5 (by decide))
    rw [k1_ (hd 7 (by decide)), k2_ (hd 9 (by decide))] at hk0
    clear f0 f1 f2 f3 f4 f5 f6 f8 q2 q5 q7 q9 a0_1 hd k1_ k2_
    obtain ⟨ga, gc, rfl⟩ := own_slice h2
    obtain ⟨ta, tc, rfl⟩ := own_slice h5
    have HFB := Lib.hid fb
    have HRF := Lib.hid h2
    have HRS := Lib.hid h5
    have hW8 : w.heap.size < x.heap.size := by omega
    have z0 := (cell_of_block hk0 0).trans (show _ = some (.int .i64 c.first) from rfl)
    have z1 := (cell_of_block hk0 1).trans (show _ = some (.slice ga fn gc) from rfl)
    have z2 := (cell_of_block hk0 2).trans (show _ = some (.slice ta sn tc) from rfl)
    clear fb h2 h5 hk0
    obtain ⟨b0, hb0_⟩ : ∃ b0, w.heap.size = b0 := ⟨_, rfl⟩
    have HB0 := Lib.hid hb0_
    rw [hb0_] at z0 z1 z2 hW8 ⊢
    have hb0 : b0 < x.heap.size := hW8
    clear hb0_
    have hmi := fun w => mk_ints w kn hk8
    have hmb := fun w => mk_bools w kn hk8
    go_wp2
    apply NewM_law x c ga ta fn gc sn tc kn b0 mixed (by kernel_rfl)
    case h0 =>
      unfold NewM
      refine ⟨_, _, _, _, _, _, _, _, _, _, _, _, rfl, ?_⟩
      simp only [Bool.false_eq_true, false_implies, and_true]
      exact below_draw (Below.refl _ _)
    case hstep =>
      have W0 := x
      intro d a x hI i hi hdi hed
      unfold NewM at hI
      obtain ⟨u4, u5, u26, u27, u28, u29, u30, u31, u32, u33, u34, u35, rfl, fb, f0, f1, f2, f3, f4, f5, f6, a24, f7, q7, f8, q8, f9, q9, f10, q10, f11⟩ := hI
      have hi' : i < 12 := hi
      clear hi
      rcases (show i = 0 ∨ i = 1 ∨ i = 2 ∨ i = 3 ∨ i = 4 ∨ i = 5 ∨ i = 6 ∨ i = 7 ∨ i = 8 ∨ i = 9 ∨ i = 10 ∨ i = 11 by omega) with rfl | rfl | rfl | rfl | rfl | rfl | rfl | rfl | rfl | rfl | rfl | rfl
      · have he := hed _ rfl
        simp only [Region.binds] at he
        try simp at he
        clear hed
        refine wpOp_step rfl (fun K hK => ?_)
        have qa := (fb.cell (p := ⟨b0, 0, none⟩) hb0).trans z0
        have qb := (fb.cell (p := ⟨b0, 1, none⟩) hb0).trans z1
        have qc := (fb.cell (p := ⟨b0, 2, none⟩) hb0).trans z2
        go_simp
        (try (refine hK _ _ ?_; clear hK K))
        unfold NewM
        refine ⟨_, _, _, _, _, _, _, _, _, _, _, _, rfl, ?_⟩
        simp only [Nat.reduceBEq, Bool.false_or, Bool.true_or, beq_self_eq_true, forall_const]
        exact ⟨fb, (by first | rfl | trivial), (by first | exact f1 | (intros; trivial) | (intros; rfl)), (by first | exact f2 | (intros; trivial)), (by first | exact f3 | (intros; trivial) | (intros; rfl)), (by first | exact f4 | (intros; trivial)), (by first | exact f5 | (intros; trivial) | (intros; rfl)), (by first | exact f6 | (intros; trivial)), a24, (by first | exact f7 | (intros; trivial) | (intros; rfl)), (by first | exact q7 | (intro h; first | exact q7 h | simp [q7 h])), (by first | exact f8 | (intros; trivial) | (intros; rfl)), (by first | exact q8 | (intro h; first | exact q8 h | simp [q8 h])), (by first | exact f9 | (intros; trivial)), (by first | exact q9 | (intro h; first | exact q9 h | simp [q9 h])), (by first | exact f10 | (intros; trivial) | (intros; rfl)), (by first | exact q10 | (intro h; first | exact q10 h | simp [q10 h])), (by first | exact f11 | (intros; trivial) | (intros; rfl))⟩
      · have he := hed _ rfl
        simp only [Region.binds] at he
        try simp at he
        clear hed
        refine wpOp_step rfl (fun K hK => ?_)
        go_simp
        (try (refine hK _ _ ?_; clear hK K))
        unfold NewM
        refine ⟨_, _, _, _, _, _, _, _, _, _, _, _, rfl, ?_⟩
        simp only [Nat.reduceBEq, Bool.false_or, Bool.true_or, beq_self_eq_true, forall_const]
        exact ⟨fb, (by first | exact f0 | (intros; trivial) | (intros; rfl)), (by first | rfl | trivial), (by first | exact f2 | (intros; trivial)), (by first | exact f3 | (intros; trivial) | (intros; rfl)), (by first | exact f4 | (intros; trivial)), (by first | exact f5 | (intros; trivial) | (intros; rfl)), (by first | exact f6 | (intros; trivial)), a24, (by first | exact f7 | (intros; trivial) | (intros; rfl)), (by first | exact q7 | (intro h; first | exact q7 h | simp [q7 h])), (by first | exact f8 | (intros; trivial) | (intros; rfl)), (by first | exact q8 | (intro h; first | exact q8 h | simp [q8 h])), (by first | exact f9 | (intros; trivial)), (by first | exact q9 | (intro h; first | exact q9 h | simp [q9 h])), (by first | exact f10 | (intros; trivial) | (intros; rfl)), (by first | exact q10 | (intro h; first | exact q10 h | simp [q10 h])), (by first | exact f11 | (intros; trivial) | (intros; rfl))⟩
      · have he := hed _ rfl
        simp only [Region.binds] at he
        try simp at he
        clear hed
        refine wpOp_step rfl (fun K hK => ?_)
        have g1 := f1 he
        subst g1
        go_simp
        (try (refine hK _ _ ?_; clear hK K))
        unfold NewM
        refine ⟨_, _, _, _, _, _, _, _, _, _, _, _, rfl, ?_⟩
        simp only [Nat.reduceBEq, Bool.false_or, Bool.true_or, beq_self_eq_true, forall_const]
        exact ⟨fb.alloc fb.size _, (by first | exact f0 | (intros; trivial) | (intros; rfl)), (by first | exact f1 | (intros; trivial) | (intros; rfl)), ⟨_, rfl, fb.size, new_row _ _ hk8⟩, (by first | exact f3 | (intros; trivial) | (intros; rfl)), (fun h => let ⟨g, e, hm, hr⟩ := f4 h; ⟨g, e, hm, hr.alloc _⟩), (by first | exact f5 | (intros; trivial) | (intros; rfl)), (fun h => let ⟨g, e, hm, hr⟩ := f6 h; ⟨g, e, hm, hr.alloc _⟩), (fun h e => by obtain ⟨g, e2, _, hr⟩ := f4 h; rw [e2] at e; have h9 := congrArg Value.ownBlock e; have h10 := Option.some.inj h9; have := hr.lt; simp only at h10; omega), (fun h => absurd (q7 h).1 (by rw [hdi]; decide)), (fun h => absurd (q7 h).1 (by rw [hdi]; decide)), (fun h => absurd (q7 (q8 h).2).1 (by rw [hdi]; decide)), (by first | exact q8 | (intro h; first | exact q8 h | simp [q8 h])), (fun h => absurd (q7 (q8 (q9 h)).2).1 (by rw [hdi]; decide)), (by first | exact q9 | (intro h; first | exact q9 h | simp [q9 h])), (by first | exact f10 | (intros; trivial) | (intros; rfl)), (by first | exact q10 | (intro h; first | exact q10 h | simp [q10 h])), (by first | exact f11 | (intros; trivial) | (intros; rfl))⟩
      · have he := hed _ rfl
        simp only [Region.binds] at he
        try simp at he
        clear hed
        refine wpOp_step rfl (fun K hK => ?_)
        go_simp
        (try (refine hK _ _ ?_; clear hK K))
        unfold NewM
        refine ⟨_, _, _, _, _, _, _, _, _, _, _, _, rfl, ?_⟩
        simp only [Nat.reduceBEq, Bool.false_or, Bool.true_or, beq_self_eq_true, forall_const]
        exact ⟨fb, (by first | exact f0 | (intros; trivial) | (intros; rfl)), (by first | exact f1 | (intros; trivial) | (intros; rfl)), (by first | exact f2 | (intros; trivial)), (by first | rfl | trivial), (by first | exact f4 | (intros; trivial)), (by first | exact f5 | (intros; trivial) | (intros; rfl)), (by first | exact f6 | (intros; trivial)), a24, (by first | exact f7 | (intros; trivial) | (intros; rfl)), (by first | exact q7 | (intro h; first | exact q7 h | simp [q7 h])), (by first | exact f8 | (intros; trivial) | (intros; rfl)), (by first | exact q8 | (intro h; first | exact q8 h | simp [q8 h])), (by first | exact f9 | (intros; trivial)), (by first | exact q9 | (intro h; first | exact q9 h | simp [q9 h])), (by first | exact f10 | (intros; trivial) | (intros; rfl)), (by first | exact q10 | (intro h; first | exact q10 h | simp [q10 h])), (by first | exact f11 | (intros; trivial) | (intros; rfl))⟩
      · have he := hed _ rfl
        simp only [Region.binds] at he
        try simp at he
        clear hed
        refine wpOp_step rfl (fun K hK => ?_)
        have g3 := f3 he
        subst g3
        go_simp
        (try (refine hK _ _ ?_; clear hK K))
        unfold NewM
        refine ⟨_, _, _, _, _, _, _, _, _, _, _, _, rfl, ?_⟩
        simp only [Nat.reduceBEq, Bool.false_or, Bool.true_or, beq_self_eq_true, forall_const]
        exact ⟨fb.alloc fb.size _, (by first | exact f0 | (intros; trivial) | (intros; rfl)), (by first | exact f1 | (intros; trivial) | (intros; rfl)), (fun h => let ⟨g, e, hm, hr⟩ := f2 h; ⟨g, e, hm, hr.alloc _⟩), (by first | exact f3 | (intros; trivial) | (intros; rfl)), ⟨_, rfl, fb.size, new_row _ _ hk8⟩, (by first | exact f5 | (intros; trivial) | (intros; rfl)), (fun h => let ⟨g, e, hm, hr⟩ := f6 h; ⟨g, e, hm, hr.alloc _⟩), (fun h e => by obtain ⟨g, e2, _, hr⟩ := f2 h; rw [e2] at e; have h9 := congrArg Value.ownBlock e; have h10 := Option.some.inj h9; have := hr.lt; simp only at h10; omega), (fun h => absurd (q7 h).2.1 (by rw [hdi]; decide)), (fun h => absurd (q7 h).2.1 (by rw [hdi]; decide)), (fun h => absurd (q7 (q8 h).2).2.1 (by rw [hdi]; decide)), (by first | exact q8 | (intro h; first | exact q8 h | simp [q8 h])), (fun h => absurd (q7 (q8 (q9 h)).2).2.1 (by rw [hdi]; decide)), (by first | exact q9 | (intro h; first | exact q9 h | simp [q9 h])), (by first | exact f10 | (intros; trivial) | (intros; rfl)), (by first | exact q10 | (intro h; first | exact q10 h | simp [q10 h])), (by first | exact f11 | (intros; trivial) | (intros; rfl))⟩
      · have he := hed _ rfl
        simp only [Region.binds] at he
        try simp at he
        clear hed
        refine wpOp_step rfl (fun K hK => ?_)
        go_simp
        (try (refine hK _ _ ?_; clear hK K))
        unfold NewM
        refine ⟨_, _, _, _, _, _, _, _, _, _, _, _, rfl, ?_⟩
        simp only [Nat.reduceBEq, Bool.false_or, Bool.true_or, beq_self_eq_true, forall_const]
        exact ⟨fb, (by first | exact f0 | (intros; trivial) | (intros; rfl)), (by first | exact f1 | (intros; trivial) | (intros; rfl)), (by first | exact f2 | (intros; trivial)), (by first | exact f3 | (intros; trivial) | (intros; rfl)), (by first | exact f4 | (intros; trivial)), (by first | rfl | trivial), (by first | exact f6 | (intros; trivial)), a24, (by first | exact f7 | (intros; trivial) | (intros; rfl)), (by first | exact q7 | (intro h; first | exact q7 h | simp [q7 h])), (by first | exact f8 | (intros; trivial) | (intros; rfl)), (by first | exact q8 | (intro h; first | exact q8 h | simp [q8 h])), (by first | exact f9 | (intros; trivial)), (by first | exact q9 | (intro h; first | exact q9 h | simp [q9 h])), (by first | exact f10 | (intros; trivial) | (intros; rfl)), (by first | exact q10 | (intro h; first | exact q10 h | simp [q10 h])), (by first | exact f11 | (intros; trivial) | (intros; rfl))⟩
      · have he := hed _ rfl
        simp only [Region.binds] at he
        try simp at he
        clear hed
        refine wpOp_step rfl (fun K hK => ?_)
        have g5 := f5 he
        subst g5
        go_simp
        (try (refine hK _ _ ?_; clear hK K))
        unfold NewM
        refine ⟨_, _, _, _, _, _, _, _, _, _, _, _, rfl, ?_⟩
        simp only [Nat.reduceBEq, Bool.false_or, Bool.true_or, beq_self_eq_true, forall_const]
        exact ⟨fb.alloc fb.size _, (by first | exact f0 | (intros; trivial) | (intros; rfl)), (by first | exact f1 | (intros; trivial) | (intros; rfl)), (fun h => let ⟨g, e, hm, hr⟩ := f2 h; ⟨g, e, hm, hr.alloc _⟩), (by first | exact f3 | (intros; trivial) | (intros; rfl)), (fun h => let ⟨g, e, hm, hr⟩ := f4 h; ⟨g, e, hm, hr.alloc _⟩), (by first | exact f5 | (intros; trivial) | (intros; rfl)), ⟨_, rfl, fb.size, new_rowB _ _ hk8⟩, a24, (fun h => absurd (q7 h).2.2 (by rw [hdi]; decide)), (fun h => absurd (q7 h).2.2 (by rw [hdi]; decide)), (fun h => absurd (q7 (q8 h).2).2.2 (by rw [hdi]; decide)), (by first | exact q8 | (intro h; first | exact q8 h | simp [q8 h])), (fun h => absurd (q7 (q8 (q9 h)).2).2.2 (by rw [hdi]; decide)), (by first | exact q9 | (intro h; first | exact q9 h | simp [q9 h])), (by first | exact f10 | (intros; trivial) | (intros; rfl)), (by first | exact q10 | (intro h; first | exact q10 h | simp [q10 h])), (by first | exact f11 | (intros; trivial) | (intros; rfl))⟩
      · have he := hed _ rfl
        simp only [Region.binds] at he
        try simp at he
        clear hed
        refine wpOp_step rfl (fun K hK => ?_)
        have hd2 : d 2 = true := he.1
        have hd4 : d 4 = true := he.2.1
        have hd6 : d 6 = true := he.2.2
        obtain ⟨i1_, rfl, hm2, hr2⟩ := f2 hd2
        obtain ⟨i2_, rfl, hm4, hr4⟩ := f4 hd4
        obtain ⟨i3_, rfl, hm6, hr6⟩ := f6 hd6
        go_simp
        (try (refine hK _ _ ?_; clear hK K))
        unfold NewM
        refine ⟨_, _, _, _, _, _, _, _, _, _, _, _, rfl, ?_⟩
        simp only [Nat.reduceBEq, Bool.false_or, Bool.true_or, beq_self_eq_true, forall_const]
        exact ⟨fb, (by first | exact f0 | (intros; trivial) | (intros; rfl)), (by first | exact f1 | (intros; trivial) | (intros; rfl)), (fun _ => ⟨i1_, rfl, hm2, hr2⟩), (by first | exact f3 | (intros; trivial) | (intros; rfl)), (fun _ => ⟨i2_, rfl, hm4, hr4⟩), (by first | exact f5 | (intros; trivial) | (intros; rfl)), (fun _ => ⟨i3_, rfl, hm6, hr6⟩), a24, (by first | rfl | trivial), ⟨hd2, hd4, hd6⟩, (by first | exact f8 | (intros; trivial) | (intros; rfl)), (fun h => absurd (q8 h).2 (by rw [hdi]; decide)), (by first | exact f9 | (intros; trivial)), (by first | exact q9 | (intro h; first | exact q9 h | simp [q9 h])), (by first | exact f10 | (intros; trivial) | (intros; rfl)), (by first | exact q10 | (intro h; first | exact q10 h | simp [q10 h])), (by first | exact f11 | (intros; trivial) | (intros; rfl))⟩
      · have he := hed _ rfl
        simp only [Region.binds] at he
        try simp at he
        clear hed
        refine wpOp_step rfl (fun K hK => ?_)
        have hd0 : d 0 = true := he.1
        have hd7 : d 7 = true := he.2
        have g0 := f0 hd0
        subst g0
        have g7 := f7 hd7
        subst g7
        obtain ⟨hd2, hd4, hd6⟩ := q7 hd7
        obtain ⟨i1_, rfl, hm2, hr2⟩ := f2 hd2
        obtain ⟨i2_, rfl, hm4, hr4⟩ := f4 hd4
        obtain ⟨i3_, rfl, hm6, hr6⟩ := f6 hd6
        go_simp
        (try (refine hK _ _ ?_; clear hK K))
        unfold NewM
        refine ⟨_, _, _, _, _, _, _, _, _, _, _, _, rfl, ?_⟩
        simp only [Nat.reduceBEq, Bool.false_or, Bool.true_or, beq_self_eq_true, forall_const]
        exact ⟨fb, (by first | exact f0 | (intros; trivial) | (intros; rfl)), (by first | exact f1 | (intros; trivial) | (intros; rfl)), (fun _ => ⟨i1_, rfl, hm2, hr2⟩), (by first | exact f3 | (intros; trivial) | (intros; rfl)), (fun _ => ⟨i2_, rfl, hm4, hr4⟩), (by first | exact f5 | (intros; trivial) | (intros; rfl)), (fun _ => ⟨i3_, rfl, hm6, hr6⟩), a24, (by first | exact f7 | (intros; trivial) | (intros; rfl)), (by first | exact q7 | (intro h; first | exact q7 h | simp [q7 h])), (by first | rfl | trivial), ⟨hd0, hd7⟩, (by first | exact f9 | (intros; trivial)), (fun h => absurd (q9 h) (by rw [hdi]; decide)), (by first | exact f10 | (intros; trivial) | (intros; rfl)), (by first | exact q10 | (intro h; first | exact q10 h | simp [q10 h])), (by first | exact f11 | (intros; trivial) | (intros; rfl))⟩
      · have he := hed _ rfl
        simp only [Region.binds] at he
        try simp at he
        clear hed
        refine wpOp_step rfl (fun K hK => ?_)
        have hd8 : d 8 = true := he
        have g8 := f8 hd8
        subst g8
        have hd7 := (q8 hd8).2
        obtain ⟨hd2, hd4, hd6⟩ := q7 hd7
        obtain ⟨i1_, rfl, hm2, hr2⟩ := f2 hd2
        obtain ⟨i2_, rfl, hm4, hr4⟩ := f4 hd4
        obtain ⟨i3_, rfl, hm6, hr6⟩ := f6 hd6
        go_simp
        (try (refine hK _ _ ?_; clear hK K))
        unfold NewM
        refine ⟨_, _, _, _, _, _, _, _, _, _, _, _, rfl, ?_⟩
        simp only [Nat.reduceBEq, Bool.false_or, Bool.true_or, beq_self_eq_true, forall_const]
        exact ⟨fb.alloc fb.size _, (by first | exact f0 | (intros; trivial) | (intros; rfl)), (by first | exact f1 | (intros; trivial) | (intros; rfl)), (fun _ => ⟨i1_, rfl, hm2, hr2.alloc _⟩), (by first | exact f3 | (intros; trivial) | (intros; rfl)), (fun _ => ⟨i2_, rfl, hm4, hr4.alloc _⟩), (by first | exact f5 | (intros; trivial) | (intros; rfl)), (fun _ => ⟨i3_, rfl, hm6, hr6.alloc _⟩), a24, (by first | exact f7 | (intros; trivial) | (intros; rfl)), (by first | exact q7 | (intro h; first | exact q7 h | simp [q7 h])), (by first | exact f8 | (intros; trivial) | (intros; rfl)), (by first | exact q8 | (intro h; first | exact q8 h | simp [q8 h])), ⟨_, rfl, fb.size, alloc_new _ _ rfl⟩, hd8, (fun h => absurd (q10 h) (by rw [hdi]; decide)), (fun h => absurd (q10 h) (by rw [hdi]; decide)), (by first | exact f11 | (intros; trivial) | (intros; rfl))⟩
      · have he := hed _ rfl
        simp only [Region.binds] at he
        try simp at he
        clear hed
        refine wpOp_step rfl (fun K hK => ?_)
        have hd9 : d 9 = true := he.1
        go_simp
        (try (refine hK _ _ ?_; clear hK K))
        unfold NewM
        refine ⟨_, _, _, _, _, _, _, _, _, _, _, _, rfl, ?_⟩
        simp only [Nat.reduceBEq, Bool.false_or, Bool.true_or, beq_self_eq_true, forall_const]
        exact ⟨fb, (by first | exact f0 | (intros; trivial) | (intros; rfl)), (by first | exact f1 | (intros; trivial) | (intros; rfl)), (by first | exact f2 | (intros; trivial)), (by first | exact f3 | (intros; trivial) | (intros; rfl)), (by first | exact f4 | (intros; trivial)), (by first | exact f5 | (intros; trivial) | (intros; rfl)), (by first | exact f6 | (intros; trivial)), a24, (by first | exact f7 | (intros; trivial) | (intros; rfl)), (by first | exact q7 | (intro h; first | exact q7 h | simp [q7 h])), (by first | exact f8 | (intros; trivial) | (intros; rfl)), (by first | exact q8 | (intro h; first | exact q8 h | simp [q8 h])), (by first | exact f9 | (intros; trivial)), (by first | exact q9 | (intro h; first | exact q9 h | simp [q9 h])), (by first | rfl | trivial), hd9, (by first | exact f11 | (intros; trivial) | (intros; rfl))⟩
      · have he := hed _ rfl
        simp only [Region.binds] at he
        try simp at he
        clear hed
        refine wpOp_step rfl (fun K hK => ?_)
        go_simp
        (try (refine hK _ _ ?_; clear hK K))
        unfold NewM
        refine ⟨_, _, _, _, _, _, _, _, _, _, _, _, rfl, ?_⟩
        simp only [Nat.reduceBEq, Bool.false_or, Bool.true_or, beq_self_eq_true, forall_const]
        exact ⟨fb, (by first | exact f0 | (intros; trivial) | (intros; rfl)), (by first | exact f1 | (intros; trivial) | (intros; rfl)), (by first | exact f2 | (intros; trivial)), (by first | exact f3 | (intros; trivial) | (intros; rfl)), (by first | exact f4 | (intros; trivial)), (by first | exact f5 | (intros; trivial) | (intros; rfl)), (by first | exact f6 | (intros; trivial)), a24, (by first | exact f7 | (intros; trivial) | (intros; rfl)), (by first | exact q7 | (intro h; first | exact q7 h | simp [q7 h])), (by first | exact f8 | (intros; trivial) | (intros; rfl)), (by first | exact q8 | (intro h; first | exact q8 h | simp [q8 h])), (by first | exact f9 | (intros; trivial)), (by first | exact q9 | (intro h; first | exact q9 h | simp [q9 h])), (by first | exact f10 | (intros; trivial) | (intros; rfl)), (by first | exact q10 | (intro h; first | exact q10 h | simp [q10 h])), (by first | rfl | trivial)⟩
    case hend =>
      intro d a y hI hd
      unfold NewM at hI
      obtain ⟨u4, u5, u26, u27, u28, u29, u30, u31, u32, u33, u34, u35, rfl, fb, f0, f1, f2, f3, f4, f5, f6, a24, f7, q7, f8, q8, f9, q9, f10, q10, f11⟩ := hI
      obtain ⟨i1, rfl, hm1, r1⟩ := f2 (hd 2 (by decide))
      obtain ⟨i2, rfl, hm2, r2⟩ := f4 (hd 4 (by decide))
      obtain ⟨i3, rfl, hm3, r3⟩ := f6 (hd 6 (by decide))
      obtain ⟨B, rfl, hB, hbx⟩ := f9 (hd 9 (by decide))
      obtain rfl := f10 (hd 10 (by decide))
      obtain rfl := f11 (hd 11 (by decide))
      have hne : i1 ≠ i2 := fun e => a24 (hd 2 (by decide)) (hd 4 (by decide)) (by rw [e])
      have R1 := Lib.hid r1
      have R2 := Lib.hid r2
      have R3 := Lib.hid r3
      have HBX := Lib.hid hbx
      have FB := Lib.hid fb
      clear f0 f1 f2 f3 f4 f5 f6 f7 f8 f9 f10 f11 q7 q8 q9 q10 a24 r1 r2 r3 hbx fb hmi hmb z0 z1 z2
      go_wp2
      go_ret2
      have hwx : w.heap.size ≤ x.heap.size := by have := HB0.out; omega
      refine ⟨HFB.out.trans (FB.out.mono hwx), fun h => absurd HE.out h, fun _ => ⟨B, rfl, ?_⟩⟩
      refine ⟨.slice ga fn gc, .slice ta sn tc, i1, kn, i2, kn, i3, kn, ?_⟩
      rw [Int.toNat_natCast]
      refine { box := HBX.out, st := ?_, fr := ?_, sp := ?_, od := World.ownsRow_nil _ _ _ _, mB := by omega }
      · exact { r1 := R1.out, r2 := R2.out, r3 := R3.out, l1 := List.length_replicate .., l2 := List.length_replicate .., l3 := List.length_replicate .., n1 := hk1n, n8 := hk8, m1 := by omega, m2 := by omega, m3 := by omega, d12 := hne, d13 := by { obtain ⟨_, h1⟩ := R1.out.ty; obtain ⟨_, h2⟩ := R3.out.ty; exact ty_ne h1 h2 (by decide) }, d23 := by { obtain ⟨_, h1⟩ := R2.out.ty; obtain ⟨_, h2⟩ := R3.out.ty; exact ty_ne h1 h2 (by decide) } }
      · have h0 := own_below HRF.out FB.out
        show y.ownsRow _ _ _ _ c.free.length _
        rw [HFN.out]
        exact own_base h0 (by omega)
      · have h0 := own_below HRS.out FB.out
        show y.ownsRow _ _ _ _ c.still.length _
        rw [HSN.out]
        exact own_base h0 (by omega)
theorem New_calls (k : Int) (v : Value) (c : Cal) (w : World) (h : CalAt w v c) : Calls Tryz.prog 19 #[.int .i64 k, v] w (NewR w k c) := by
  by_cases hk : k < 1 ∨ 8 < k
  · exact New_range k v c w h hk
  · by_cases hv : validF c = 0
    · exact New_valid k v c w h (by omega) (by omega) hv
    · exact New_invalid k v c w h (by omega) (by omega) hv
end Go.Proofs.YthooacpfmjpdmaaGreatDoor
