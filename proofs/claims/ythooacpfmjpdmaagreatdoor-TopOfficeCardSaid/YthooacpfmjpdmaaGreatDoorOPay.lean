/- Payments of an office. Conditions: the office lies in memory as said. -/
import Derived.Test.YthooacpfmjpdmaaGreatDoorOAcc
import Derived.Deep.RegionHeld3
namespace Go.Proofs.YthooacpfmjpdmaaGreatDoor
open Go.RowKit Go.MuLone

/-- The error of payments, and the payments. -/
def payE (x : Off) (p : Int) : Int := if x.s.fixed then (if 0 ≤ p ∧ p ≤ 1000 then 0 else 1) else 10
def payL (x : Off) (p : Int) : List Int := if payE x p = 0 then payF (clmF x.s) x.s.laid p else []
def PayR (w : World) (x : Off) (p : Int) (e : Ending) (w' : World) : Prop := ∃ v, e = .returned (.tuple #[v, .int .i64 (payE x p)]) ∧ IntsT w.heap.size w' v (payL x p) ∧ Below w.heap.size w w'
theorem clm_long {n : Nat} {s : St} (hl : Long3 n s) (hf : s.fixed = true) : (clmF s).length = n := by
  unfold clmF; rw [if_pos hf, dedF_len, hl.l1]
theorem nil_ints (m : Nat) (w : World) : IntsT m w (.slice none 0 0) [] := ⟨ints0 _ _ _ (by decide), fun b hb => by cases hb⟩
theorem laid_range {s : St} (hg : Good s) {n : Nat} (hl : Long3 n s) (h1 : 1 ≤ n) (h8 : n ≤ 8) : ∀ y ∈ s.laid, 0 ≤ y ∧ y ≤ 10000 := by
  intro y hy
  have hc : claimsB s.strips = true := by rw [claimsB_iff, hl.l1]; exact ⟨⟨h1, h8⟩, hg.str⟩
  have h2 : sumI (clmF s) ≤ 8000 := by
    unfold clmF
    split
    · have hc2 := claimsB_iff.1 (dedF_claims hc hg.part0 hg.part1)
      have := sumI_le (fun x hx => (hc2.2 x hx).2)
      have := hc2.1.2
      omega
    · simp [sumI]
  have := mem_le_sum hg.laid0 hy
  have := hg.sum
  exact ⟨hg.laid0 y hy, by omega⟩
theorem clm_claims {s : St} (hg : Good s) {n : Nat} (hl : Long3 n s) (h1 : 1 ≤ n) (h8 : n ≤ 8) (hf : s.fixed = true) : claimsB (clmF s) = true := by
  have hc : claimsB s.strips = true := by rw [claimsB_iff, hl.l1]; exact ⟨⟨h1, h8⟩, hg.str⟩
  unfold clmF
  rw [if_pos hf]
  exact dedF_claims hc hg.part0 hg.part1
set_option maxRecDepth 100000 in
set_option maxHeartbeats 4000000 in
theorem Pay_state (m : Nat) (w : World) (B n : Nat) (x : Off) (ov : Value) (p : Int) (h : OffIn m w B n x ov) (hmk : Made n x) (hf : x.s.fixed = false) :
    Calls Tryz.prog 37 #[.pointer (some ⟨B, 0, none⟩), .int .i64 p] w (PayR w x p) := by
  have HL := Lib.hid (look_calls m w B n x ov h)
  have HM := Lib.hid hmk
  clear h hmk
  unfold LookR stW at HL
  have HE : Hid (payE x p = 10) := by show _ = _; unfold payE; rw [hf]; rfl
  have HLL : Hid (payL x p = []) := by show _ = _; unfold payL; rw [HE.out]; rfl
  rw [hf] at HL
  clear hf
  go_enter Tryz.func37, Tryz.ntmps37
  go_wp2_with (go_at_call 58; refine HL.out.mono ?_; rintro e1 w1 ⟨h1, d1, h2, d2, h3, d3, rfl, hs1, hb1⟩; have HS1 := Lib.hid hs1; clear hs1; have hz1 : w.heap.size ≤ w1.heap.size := hb1.size)
  go_ret2
  refine ⟨.slice none 0 0, by rw [HE.out]; rfl, ?_, by (repeat' (first | exact Below.refl _ _ | assumption | refine below_new ?_ _ | refine below_draw ?_ | refine below_tail (by assumption) ?_ | refine below_set ?_ (by first | omega | (simp <;> omega)) _))⟩
  rw [HLL.out]
  exact nil_ints _ _
set_option maxRecDepth 100000 in
set_option maxHeartbeats 4000000 in
theorem Pay_yes (m : Nat) (w : World) (B n : Nat) (x : Off) (ov : Value) (p : Int) (h : OffIn m w B n x ov) (hmk : Made n x) (hf : x.s.fixed = true) (hp : 0 ≤ p ∧ p ≤ 1000) :
    Calls Tryz.prog 37 #[.pointer (some ⟨B, 0, none⟩), .int .i64 p] w (PayR w x p) := by
  have HL := Lib.hid (look_calls m w B n x ov h)
  have HM := Lib.hid hmk
  clear h hmk
  unfold LookR stW at HL
  have HE : Hid (payE x p = 0) := by show _ = _; unfold payE; rw [if_pos hf, if_pos hp]
  have HLL : Hid (payL x p = payF (clmF x.s) x.s.laid p) := by show _ = _; unfold payL; rw [HE.out]; rfl
  have HF := Lib.hid hf
  have hx2 : ∃ y, x.s.fixed = y := ⟨_, rfl⟩
  have HLT : Hid (x.s.laid.length = (clmF x.s).length) := by show _ = _; rw [HM.out.long.l2, clm_long HM.out.long hf]
  have HCB := Lib.hid (clm_claims HM.out.good HM.out.long HM.out.n1 HM.out.n8 hf)
  have HLR := Lib.hid (laid_range HM.out.good HM.out.long HM.out.n1 HM.out.n8)
  rw [hf] at HL
  clear hf hx2
  go_enter Tryz.func37, Tryz.ntmps37
  go_upto_region 6 with (go_at_call 58; refine HL.out.mono ?_; rintro e1 w1 ⟨h1, d1, h2, d2, h3, d3, rfl, hs1, hb1⟩; have HS1 := Lib.hid hs1; clear hs1; have hz1 : w.heap.size ≤ w1.heap.size := hb1.size)
  obtain ⟨W2, hW2⟩ : ∃ W2, w1.alloc (.cells #[.int .i64 x.s.day, .slice (some ⟨h1, 0, none⟩) n d1, .slice (some ⟨h2, 0, none⟩) n d2, .int .i64 x.s.part, .bool true, .int .i64 x.s.stop, .bool x.s.heard, .slice (some ⟨h3, 0, none⟩) n d3, .bool x.s.ent] 90) = W2 := ⟨_, rfl⟩
  obtain ⟨b0, hb0⟩ : ∃ b0, w1.heap.size = b0 := ⟨_, rfl⟩
  have hbx : W2.heap[b0]? = some (.cells #[.int .i64 x.s.day, .slice (some ⟨h1, 0, none⟩) n d1, .slice (some ⟨h2, 0, none⟩) n d2, .int .i64 x.s.part, .bool true, .int .i64 x.s.stop, .bool x.s.heard, .slice (some ⟨h3, 0, none⟩) n d3, .bool x.s.ent] 90 (0, 0)) := by rw [← hW2, ← hb0]; exact alloc_new _ _ rfl
  have HB12 : Hid (Below w1.heap.size w1 W2) := by show Below _ _ _; rw [← hW2]; exact (Below.refl _ _).alloc (Nat.le_refl _) _
  have HBW : Hid (Below w.heap.size w W2) := hb1.trans (HB12.out.mono hb1.size)
  have HST : Hid (StAt w.heap.size W2 n x.s h1 d1 h2 d2 h3 d3) := HS1.out.below HB12.out
  have hl0 : b0 < W2.heap.size := by rw [← hW2, ← hb0]; simp
  have HCL : Hid (∀ y, Below W2.heap.size W2 y → Calls Tryz.prog 66 #[.agg #[.int .i64 x.s.day, .slice (some ⟨h1, 0, none⟩) n d1, .slice (some ⟨h2, 0, none⟩) n d2, .int .i64 x.s.part, .bool true, .int .i64 x.s.stop, .bool x.s.heard, .slice (some ⟨h3, 0, none⟩) n d3, .bool x.s.ent]] y fun e w' => ∃ v, e = .returned v ∧ IntsT y.heap.size w' v (clmF x.s) ∧ Below y.heap.size y w') := by
    intro y fy
    have := claims_calls w.heap.size y n x.s h1 d1 h2 d2 h3 d3 (HST.out.below fy) HM.out.good
    unfold stW at this
    rw [HF.out] at this
    exact this
  have c0 := (cell_of_block hbx 0).trans (show _ = some (.int .i64 x.s.day) from rfl)
  have c1 := (cell_of_block hbx 1).trans (show _ = some (.slice (some ⟨h1, 0, none⟩) n d1) from rfl)
  have c2 := (cell_of_block hbx 2).trans (show _ = some (.slice (some ⟨h2, 0, none⟩) n d2) from rfl)
  have c3 := (cell_of_block hbx 3).trans (show _ = some (.int .i64 x.s.part) from rfl)
  have c4 := (cell_of_block hbx 4).trans (show _ = some (.bool true) from rfl)
  have c5 := (cell_of_block hbx 5).trans (show _ = some (.int .i64 x.s.stop) from rfl)
  have c6 := (cell_of_block hbx 6).trans (show _ = some (.bool x.s.heard) from rfl)
  have c7 := (cell_of_block hbx 7).trans (show _ = some (.slice (some ⟨h3, 0, none⟩) n d3) from rfl)
  have c8 := (cell_of_block hbx 8).trans (show _ = some (.bool x.s.ent) from rfl)
  rw [hW2, hb0]
  clear hW2 hb0 hbx hb1 hz1
  have kB : ∀ w', Below W2.heap.size W2 w' → (w'.cell? ⟨b0, 0, none⟩ = some (.int .i64 x.s.day) ∧ w'.cell? ⟨b0, 1, none⟩ = some (.slice (some ⟨h1, 0, none⟩) n d1) ∧ w'.cell? ⟨b0, 2, none⟩ = some (.slice (some ⟨h2, 0, none⟩) n d2) ∧ w'.cell? ⟨b0, 3, none⟩ = some (.int .i64 x.s.part) ∧ w'.cell? ⟨b0, 4, none⟩ = some (.bool true) ∧ w'.cell? ⟨b0, 5, none⟩ = some (.int .i64 x.s.stop) ∧ w'.cell? ⟨b0, 6, none⟩ = some (.bool x.s.heard) ∧ w'.cell? ⟨b0, 7, none⟩ = some (.slice (some ⟨h3, 0, none⟩) n d3) ∧ w'.cell? ⟨b0, 8, none⟩ = some (.bool x.s.ent)) := fun w' hB => ⟨(hB.cell (p := ⟨b0, 0, none⟩) hl0).trans c0, (hB.cell (p := ⟨b0, 1, none⟩) hl0).trans c1, (hB.cell (p := ⟨b0, 2, none⟩) hl0).trans c2, (hB.cell (p := ⟨b0, 3, none⟩) hl0).trans c3, (hB.cell (p := ⟨b0, 4, none⟩) hl0).trans c4, (hB.cell (p := ⟨b0, 5, none⟩) hl0).trans c5, (hB.cell (p := ⟨b0, 6, none⟩) hl0).trans c6, (hB.cell (p := ⟨b0, 7, none⟩) hl0).trans c7, (hB.cell (p := ⟨b0, 8, none⟩) hl0).trans c8⟩
  have hmx := mixed
  go_region_held3 (fun w' => w'.cell? ⟨b0, 0, none⟩ = some (.int .i64 x.s.day) ∧ w'.cell? ⟨b0, 1, none⟩ = some (.slice (some ⟨h1, 0, none⟩) n d1) ∧ w'.cell? ⟨b0, 2, none⟩ = some (.slice (some ⟨h2, 0, none⟩) n d2) ∧ w'.cell? ⟨b0, 3, none⟩ = some (.int .i64 x.s.part) ∧ w'.cell? ⟨b0, 4, none⟩ = some (.bool true) ∧ w'.cell? ⟨b0, 5, none⟩ = some (.int .i64 x.s.stop) ∧ w'.cell? ⟨b0, 6, none⟩ = some (.bool x.s.heard) ∧ w'.cell? ⟨b0, 7, none⟩ = some (.slice (some ⟨h3, 0, none⟩) n d3) ∧ w'.cell? ⟨b0, 8, none⟩ = some (.bool x.s.ent)) (first | go_keep | exact kB _ (by (repeat' (first | exact Below.refl _ _ | assumption | refine below_new ?_ _ | refine below_draw ?_ | refine below_tail (by assumption) ?_ | refine below_set ?_ (by first | omega | (simp <;> omega)) _))))
    ((first
      | (go_at_call 66; refine (HCL.out _ (by (repeat' (first | exact Below.refl _ _ | assumption | refine below_new ?_ _ | refine below_draw ?_ | refine below_tail (by assumption) ?_ | refine below_set ?_ (by first | omega | (simp <;> omega)) _)))).mono ?_; rintro e2 w2 ⟨v2, rfl, hi2, hb2⟩)
      | (go_at_call 68; refine (Pay_ok v2 _ (clmF x.s) x.s.laid p _ (hi2.1.below (by first | exact Below.refl _ _ | (repeat' (first | exact Below.refl _ _ | assumption | refine below_new ?_ _ | refine below_draw ?_ | refine below_tail (by assumption) ?_ | refine below_set ?_ (by first | omega | (simp <;> omega)) _)))) (HST.out.laid.below (by (repeat' (first | exact Below.refl _ _ | assumption | refine below_new ?_ _ | refine below_draw ?_ | refine below_tail (by assumption) ?_ | refine below_set ?_ (by first | omega | (simp <;> omega)) _)))) HCB.out HLT.out HLR.out hp.1 hp.2).mono ?_; rintro e3 w3 ⟨v3, rfl, hi3, hb3⟩)))
  go_wp2
  go_ret2
  refine ⟨_, by rw [HE.out]; rfl, ?_, HBW.out.trans (Below.mono (by (repeat' (first | exact Below.refl _ _ | assumption | refine below_new ?_ _ | refine below_draw ?_ | refine below_tail (by assumption) ?_ | refine below_set ?_ (by first | omega | (simp <;> omega)) _))) HBW.out.size)⟩
  rw [HLL.out]
  exact (hi3.keep (KeepT.of_below (by (repeat' (first | exact Below.refl _ _ | assumption | refine below_new ?_ _ | refine below_draw ?_ | refine below_tail (by assumption) ?_ | refine below_set ?_ (by first | omega | (simp <;> omega)) _))))).mono (Nat.le_trans HBW.out.size (Below.size (B := W2.heap.size) (by (repeat' (first | exact Below.refl _ _ | assumption | refine below_new ?_ _ | refine below_draw ?_ | refine below_tail (by assumption) ?_ | refine below_set ?_ (by first | omega | (simp <;> omega)) _)))))
set_option maxRecDepth 100000 in
set_option maxHeartbeats 4000000 in
theorem Pay_no (m : Nat) (w : World) (B n : Nat) (x : Off) (ov : Value) (p : Int) (h : OffIn m w B n x ov) (hmk : Made n x) (hf : x.s.fixed = true) (hp : p < 0 ∨ 1000 < p) :
    Calls Tryz.prog 37 #[.pointer (some ⟨B, 0, none⟩), .int .i64 p] w (PayR w x p) := by
  have HL := Lib.hid (look_calls m w B n x ov h)
  have HM := Lib.hid hmk
  clear h hmk
  unfold LookR stW at HL
  have HE : Hid (payE x p = 1) := by show _ = _; unfold payE; rw [if_pos hf, if_neg (by omega)]
  have HLL : Hid (payL x p = []) := by show _ = _; unfold payL; rw [HE.out]; rfl
  have HF := Lib.hid hf
  have hx2 : ∃ y, x.s.fixed = y := ⟨_, rfl⟩
  have HLT : Hid (x.s.laid.length = (clmF x.s).length) := by show _ = _; rw [HM.out.long.l2, clm_long HM.out.long hf]
  have HCB := Lib.hid (clm_claims HM.out.good HM.out.long HM.out.n1 HM.out.n8 hf)
  have HLR := Lib.hid (laid_range HM.out.good HM.out.long HM.out.n1 HM.out.n8)
  rw [hf] at HL
  clear hf hx2
  go_enter Tryz.func37, Tryz.ntmps37
  go_upto_region 6 with (go_at_call 58; refine HL.out.mono ?_; rintro e1 w1 ⟨h1, d1, h2, d2, h3, d3, rfl, hs1, hb1⟩; have HS1 := Lib.hid hs1; clear hs1; have hz1 : w.heap.size ≤ w1.heap.size := hb1.size)
  obtain ⟨W2, hW2⟩ : ∃ W2, w1.alloc (.cells #[.int .i64 x.s.day, .slice (some ⟨h1, 0, none⟩) n d1, .slice (some ⟨h2, 0, none⟩) n d2, .int .i64 x.s.part, .bool true, .int .i64 x.s.stop, .bool x.s.heard, .slice (some ⟨h3, 0, none⟩) n d3, .bool x.s.ent] 90) = W2 := ⟨_, rfl⟩
  obtain ⟨b0, hb0⟩ : ∃ b0, w1.heap.size = b0 := ⟨_, rfl⟩
  have hbx : W2.heap[b0]? = some (.cells #[.int .i64 x.s.day, .slice (some ⟨h1, 0, none⟩) n d1, .slice (some ⟨h2, 0, none⟩) n d2, .int .i64 x.s.part, .bool true, .int .i64 x.s.stop, .bool x.s.heard, .slice (some ⟨h3, 0, none⟩) n d3, .bool x.s.ent] 90 (0, 0)) := by rw [← hW2, ← hb0]; exact alloc_new _ _ rfl
  have HB12 : Hid (Below w1.heap.size w1 W2) := by show Below _ _ _; rw [← hW2]; exact (Below.refl _ _).alloc (Nat.le_refl _) _
  have HBW : Hid (Below w.heap.size w W2) := hb1.trans (HB12.out.mono hb1.size)
  have HST : Hid (StAt w.heap.size W2 n x.s h1 d1 h2 d2 h3 d3) := HS1.out.below HB12.out
  have hl0 : b0 < W2.heap.size := by rw [← hW2, ← hb0]; simp
  have HCL : Hid (∀ y, Below W2.heap.size W2 y → Calls Tryz.prog 66 #[.agg #[.int .i64 x.s.day, .slice (some ⟨h1, 0, none⟩) n d1, .slice (some ⟨h2, 0, none⟩) n d2, .int .i64 x.s.part, .bool true, .int .i64 x.s.stop, .bool x.s.heard, .slice (some ⟨h3, 0, none⟩) n d3, .bool x.s.ent]] y fun e w' => ∃ v, e = .returned v ∧ IntsT y.heap.size w' v (clmF x.s) ∧ Below y.heap.size y w') := by
    intro y fy
    have := claims_calls w.heap.size y n x.s h1 d1 h2 d2 h3 d3 (HST.out.below fy) HM.out.good
    unfold stW at this
    rw [HF.out] at this
    exact this
  have c0 := (cell_of_block hbx 0).trans (show _ = some (.int .i64 x.s.day) from rfl)
  have c1 := (cell_of_block hbx 1).trans (show _ = some (.slice (some ⟨h1, 0, none⟩) n d1) from rfl)
  have c2 := (cell_of_block hbx 2).trans (show _ = some (.slice (some ⟨h2, 0, none⟩) n d2) from rfl)
  have c3 := (cell_of_block hbx 3).trans (show _ = some (.int .i64 x.s.part) from rfl)
  have c4 := (cell_of_block hbx 4).trans (show _ = some (.bool true) from rfl)
  have c5 := (cell_of_block hbx 5).trans (show _ = some (.int .i64 x.s.stop) from rfl)
  have c6 := (cell_of_block hbx 6).trans (show _ = some (.bool x.s.heard) from rfl)
  have c7 := (cell_of_block hbx 7).trans (show _ = some (.slice (some ⟨h3, 0, none⟩) n d3) from rfl)
  have c8 := (cell_of_block hbx 8).trans (show _ = some (.bool x.s.ent) from rfl)
  rw [hW2, hb0]
  clear hW2 hb0 hbx hb1 hz1
  have kB : ∀ w', Below W2.heap.size W2 w' → (w'.cell? ⟨b0, 0, none⟩ = some (.int .i64 x.s.day) ∧ w'.cell? ⟨b0, 1, none⟩ = some (.slice (some ⟨h1, 0, none⟩) n d1) ∧ w'.cell? ⟨b0, 2, none⟩ = some (.slice (some ⟨h2, 0, none⟩) n d2) ∧ w'.cell? ⟨b0, 3, none⟩ = some (.int .i64 x.s.part) ∧ w'.cell? ⟨b0, 4, none⟩ = some (.bool true) ∧ w'.cell? ⟨b0, 5, none⟩ = some (.int .i64 x.s.stop) ∧ w'.cell? ⟨b0, 6, none⟩ = some (.bool x.s.heard) ∧ w'.cell? ⟨b0, 7, none⟩ = some (.slice (some ⟨h3, 0, none⟩) n d3) ∧ w'.cell? ⟨b0, 8, none⟩ = some (.bool x.s.ent)) := fun w' hB => ⟨(hB.cell (p := ⟨b0, 0, none⟩) hl0).trans c0, (hB.cell (p := ⟨b0, 1, none⟩) hl0).trans c1, (hB.cell (p := ⟨b0, 2, none⟩) hl0).trans c2, (hB.cell (p := ⟨b0, 3, none⟩) hl0).trans c3, (hB.cell (p := ⟨b0, 4, none⟩) hl0).trans c4, (hB.cell (p := ⟨b0, 5, none⟩) hl0).trans c5, (hB.cell (p := ⟨b0, 6, none⟩) hl0).trans c6, (hB.cell (p := ⟨b0, 7, none⟩) hl0).trans c7, (hB.cell (p := ⟨b0, 8, none⟩) hl0).trans c8⟩
  have hmx := mixed
  go_region_held3 (fun w' => w'.cell? ⟨b0, 0, none⟩ = some (.int .i64 x.s.day) ∧ w'.cell? ⟨b0, 1, none⟩ = some (.slice (some ⟨h1, 0, none⟩) n d1) ∧ w'.cell? ⟨b0, 2, none⟩ = some (.slice (some ⟨h2, 0, none⟩) n d2) ∧ w'.cell? ⟨b0, 3, none⟩ = some (.int .i64 x.s.part) ∧ w'.cell? ⟨b0, 4, none⟩ = some (.bool true) ∧ w'.cell? ⟨b0, 5, none⟩ = some (.int .i64 x.s.stop) ∧ w'.cell? ⟨b0, 6, none⟩ = some (.bool x.s.heard) ∧ w'.cell? ⟨b0, 7, none⟩ = some (.slice (some ⟨h3, 0, none⟩) n d3) ∧ w'.cell? ⟨b0, 8, none⟩ = some (.bool x.s.ent)) (first | go_keep | exact kB _ (by (repeat' (first | exact Below.refl _ _ | assumption | refine below_new ?_ _ | refine below_draw ?_ | refine below_tail (by assumption) ?_ | refine below_set ?_ (by first | omega | (simp <;> omega)) _))))
    ((first
      | (go_at_call 66; refine (HCL.out _ (by (repeat' (first | exact Below.refl _ _ | assumption | refine below_new ?_ _ | refine below_draw ?_ | refine below_tail (by assumption) ?_ | refine below_set ?_ (by first | omega | (simp <;> omega)) _)))).mono ?_; rintro e2 w2 ⟨v2, rfl, hi2, hb2⟩)
      | (go_at_call 68; refine (Pay_bad v2 _ (clmF x.s) x.s.laid p _ (hi2.1.below (by first | exact Below.refl _ _ | (repeat' (first | exact Below.refl _ _ | assumption | refine below_new ?_ _ | refine below_draw ?_ | refine below_tail (by assumption) ?_ | refine below_set ?_ (by first | omega | (simp <;> omega)) _)))) (HST.out.laid.below (by (repeat' (first | exact Below.refl _ _ | assumption | refine below_new ?_ _ | refine below_draw ?_ | refine below_tail (by assumption) ?_ | refine below_set ?_ (by first | omega | (simp <;> omega)) _)))) HCB.out HLT.out HLR.out hp).mono ?_; rintro e3 w3 ⟨rfl, hb3⟩)))
  go_wp2
  go_ret2
  refine ⟨.slice none 0 0, by rw [HE.out]; rfl, ?_, HBW.out.trans (Below.mono (by (repeat' (first | exact Below.refl _ _ | assumption | refine below_new ?_ _ | refine below_draw ?_ | refine below_tail (by assumption) ?_ | refine below_set ?_ (by first | omega | (simp <;> omega)) _))) HBW.out.size)⟩
  rw [HLL.out]
  exact nil_ints _ _
theorem Payments_calls (m : Nat) (w : World) (B n : Nat) (x : Off) (ov : Value) (p : Int) (h : OffIn m w B n x ov) (hmk : Made n x) :
    Calls Tryz.prog 37 #[.pointer (some ⟨B, 0, none⟩), .int .i64 p] w (PayR w x p) := by
  cases hf : x.s.fixed
  · exact Pay_state m w B n x ov p h hmk hf
  · by_cases hp : 0 ≤ p ∧ p ≤ 1000
    · exact Pay_yes m w B n x ov p h hmk hf hp
    · exact Pay_no m w B n x ov p h hmk hf (by omega)
end Go.Proofs.YthooacpfmjpdmaaGreatDoor
