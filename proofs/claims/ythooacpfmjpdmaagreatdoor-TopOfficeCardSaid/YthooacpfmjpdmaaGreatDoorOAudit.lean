/- An office audited: it holds. Conditions: the office lies as said; the library's variables read as they were laid. -/
import Derived.Test.YthooacpfmjpdmaaGreatDoorOTell
namespace Go.Proofs.YthooacpfmjpdmaaGreatDoor
open Go.RowKit
set_option maxHeartbeats 400000 in
theorem equalB_same {a b : Value} {l : List Bool} {w : World} (ha : BoolsAt w a l) (hb : BoolsAt w b l) :
    Gives Tryz.prog 74 #[a, b] w (.bool true) := by
  have HA := Lib.hid ha
  have HB := Lib.hid hb
  obtain ⟨aa, ac, rfl, hal, ham, _⟩ := ha
  obtain ⟨ba, bc, rfl, hbl, hbm, _⟩ := hb
  unfold Gives
  go_enter Tryz.func74, Tryz.ntmps74
  go_wp2
  go_loopw [13] (fun i wr => ∃ k : Nat, k ≤ l.length ∧ i = .int .i64 k ∧ Below w.heap.size w wr) (fun i _ => l.length - (intOf i).toNat)
  case atStart => exact ⟨0, Nat.zero_le _, rfl, Below.refl _ _⟩
  case round =>
    obtain ⟨k, hk, rfl, hb⟩ := hrel
    by_cases hlt : k < l.length
    · obtain ⟨ab, ao, rfl, hA, hcella⟩ := (HA.out.below hb).cellAt hlt
      obtain ⟨bb, bo, rfl, hB, hcellb⟩ := (HB.out.below hb).cellAt hlt
      have q0 := fun d os => cell_regrown hcella d os
      have q1 := fun d os => cell_regrown hcellb d os
      have hs : (gi l false k != gi l false k) = false := by simp
      go_wp2
      refine region_q mixed (by kernel_rfl) ?_
      repeat (go_big_quiet_step (fail))
      refine wpQuiet_nil ?_
      intro wq hbq
      clear q0 q1
      go_wp2
      go_roundw
      case rel => exact ⟨k + 1, by omega, by go_num, by (repeat' (first | exact Below.refl _ _ | assumption | refine below_new ?_ _ | refine below_draw ?_ | refine below_tail (by assumption) ?_ | refine below_set ?_ (by first | omega | (simp <;> omega)) _))⟩
      case measure => simp [intOf]; omega
    · obtain rfl : k = l.length := by omega
      go_wp2
      go_ret
      exact ⟨rfl, hb⟩
theorem eqi_mark (d : Nat) (a c : Int) (b f : Bool) (w : World) : (Op.equalIn (d + 1 + 1) 88 (.agg #[.int .i64 a, .bool b]) (.agg #[.int .i64 c, .bool f])).run Tryz.prog w = .ok ((a, b) == (c, f)) w := by
  have h2 : Tryz.prog.stoodInHeld 88 = false := by kernel_rfl
  have e : ((a, b) == (c, f)) = (decide (a = c) && decide (b = f)) := by rw [Bool.eq_iff_iff]; simp
  rw [e]
  simp only [Op.equalIn, Sem.run_bind, run_underlying Tryz.underlying88, Result.andThen_ok, run_program, h2, Bool.false_eq_true, if_false]
  simp [go_sem]
  by_cases k1 : a = c <;> by_cases k2 : b = f <;> simp [k1, k2]
theorem eql_mark (a : Int) (b : Bool) (w : World) : (binOp .eql 88 (.agg #[.int .i64 a, .bool b]) (.agg #[.int .i64 a, .bool b])).run Tryz.prog w = .ok (.bool true) w := by
  simp only [binOp, Op.equal, Op.maxDepth, Sem.run_bind]
  rw [eqi_mark 9998, beq_self_eq_true]; rfl
theorem eqg_mark (op : BinOp) (x y : Operand) (xs ys : Array Value) (w : World) : (eqGuard op 88 x y (.agg xs) (.agg ys)).run Tryz.prog w = .ok () w := by
  have h : Tryz.prog.eqGuardType Tryz.prog.depth 88 = false := by kernel_rfl
  cases op <;> simp [eqGuard, run_program, h]
theorem newE_made {n : Nat} {x : Off} (h : Made n x) : NewE (n : Int) x.c = 0 := by
  unfold NewE
  have := h.n1
  have := h.n8
  rw [if_neg (by omega)]; exact h.cal
attribute [local go_sem high] eql_mark eqg_mark
set_option maxRecDepth 100000 in
set_option maxHeartbeats 8000000 in
theorem Audit_tt (m : Nat) (w : World) (B n : Nat) (x : Off) (h : OffS m w B n x) (hb : Base w) (hf : x.s.fixed = true) (hh : x.s.heard = true) :
    Gives Tryz.prog 43 #[.pointer (some ⟨B, 0, none⟩)] w (.bool true) := by
  have HB := Lib.hid hb
  have HM := Lib.hid h.2
  have HN := Lib.hid (newE_made h.2)
  have HRUN : Hid (runs (newO (n : Int).toNat x.c) x.os = some x) := h.2.run
  have h1n := h.2.n1
  have h8n := h.2.n8
  have hmo := money_of h.2 1
  obtain ⟨⟨ov, hin⟩, -⟩ := h
  have HL := Lib.hid (look_calls m w B n x ov hin)
  obtain ⟨fv, sv, g1, e1, g2, e2, g3, e3, hat⟩ := hin
  have HCAL := Lib.hid hat.cal
  have hBl := hat.lt
  have KC : Hid (w.cell? ⟨B, 2, none⟩ = some (.int .i64 x.c.first) ∧ w.cell? ⟨B, 3, none⟩ = some fv ∧ w.cell? ⟨B, 4, none⟩ = some sv) := ⟨(cell_of_block hat.box 2).trans rfl, (cell_of_block hat.box 3).trans rfl, (cell_of_block hat.box 4).trans rfl⟩
  clear hat
  obtain ⟨fa, fc, sa, sc, hav, -⟩ := HCAL.out.cells
  simp only [Value.agg.injEq, Array.mk.injEq, List.cons.injEq, and_true, true_and] at hav
  obtain ⟨rfl, rfl⟩ := hav
  unfold LookR stW at HL
  have HF := Lib.hid hf
  have HH := Lib.hid hh
  obtain ⟨cs, hcs⟩ : ∃ y, sumI (clmF x.s) = y := ⟨_, rfl⟩
  obtain ⟨ls, hls⟩ : ∃ y, sumI x.s.laid = y := ⟨_, rfl⟩
  rw [hcs, hls] at hmo
  clear hcs hls
  have HMO := Lib.hid hmo
  have hlc := hmo.lo
  have klt : decide (cs < ls) = false := decide_eq_false (by omega)
  have klt' : ¬ cs < ls := by omega
  have hwd : IntKind.i64.wrap (cs - ls) = cs - ls := by have := hmo.hi; have := hmo.l0; exact IntWalk.i64_in _ (by omega)
  have kle : (ls != cs) = false := by have := hmo.hs hh; subst this; simp
  rw [hf, hh] at HL
  have HLT : Hid (x.s.laid.length = (clmF x.s).length) := by show _ = _; rw [HM.out.long.l2, clm_long HM.out.long hf]
  have HCB := Lib.hid (clm_claims HM.out.good HM.out.long HM.out.n1 HM.out.n8 hf)
  have HLR := Lib.hid (laid_range HM.out.good HM.out.long HM.out.n1 HM.out.n8)
  have hpl : payL x 1 = payF (clmF x.s) x.s.laid 1 := by unfold payL; rw [if_pos (hmo.pay hf (by decide) (by decide)).2.1]
  have HPF : Hid (Few (payF (clmF x.s) x.s.laid 1)) := hpl ▸ (hmo.pay hf (by decide) (by decide)).2.2.1
  have HPS : Hid (sumI (payF (clmF x.s) x.s.laid 1) = cs - ls) := by show _ = _; rw [← hpl, (hmo.pay hf (by decide) (by decide)).2.2.2]; omega
  clear hpl
  obtain ⟨mi, hmi⟩ : ∃ t, minF x.os = t := ⟨_, rfl⟩
  have HMI := Lib.hid hmi
  rw [hmi] at HL
  clear hmi hmo hlc hb hf hh
  go_enter Tryz.func43, Tryz.ntmps43
  go_upto_region 4 with (go_at_call 58; refine HL.out.mono ?_; rintro e1 w1 ⟨h1, d1, h2, d2, h3, d3, rfl, hs1, hb1⟩; have HS1 := Lib.hid hs1; clear hs1; have hz1 : w.heap.size ≤ w1.heap.size := hb1.size)
  obtain ⟨W2, hW2⟩ : ∃ W2, w1.alloc (.cells #[.int .i64 x.s.day, .slice (some ⟨h1, 0, none⟩) n d1, .slice (some ⟨h2, 0, none⟩) n d2, .int .i64 x.s.part, .bool true, .int .i64 x.s.stop, .bool true, .slice (some ⟨h3, 0, none⟩) n d3, .bool x.s.ent] 90) = W2 := ⟨_, rfl⟩
  obtain ⟨b0, hb0⟩ : ∃ b0, w1.heap.size = b0 := ⟨_, rfl⟩
  have hbx : W2.heap[b0]? = some (.cells #[.int .i64 x.s.day, .slice (some ⟨h1, 0, none⟩) n d1, .slice (some ⟨h2, 0, none⟩) n d2, .int .i64 x.s.part, .bool true, .int .i64 x.s.stop, .bool true, .slice (some ⟨h3, 0, none⟩) n d3, .bool x.s.ent] 90 (0, 0)) := by rw [← hW2, ← hb0]; exact alloc_new _ _ rfl
  have HB12 : Hid (Below w1.heap.size w1 W2) := by show Below _ _ _; rw [← hW2]; exact (Below.refl _ _).alloc (Nat.le_refl _) _
  have HBW : Hid (Below w.heap.size w W2) := hb1.trans (HB12.out.mono hb1.size)
  have HST : Hid (StAt w.heap.size W2 n x.s h1 d1 h2 d2 h3 d3) := HS1.out.below HB12.out
  have hl0 : b0 < W2.heap.size := by rw [← hW2, ← hb0]; simp
  have HCW : Hid (CalAt W2 (.agg #[.int .i64 x.c.first, .slice fa x.c.free.length fc, .slice sa x.c.still.length sc]) x.c) := HCAL.out.below HBW.out
  have HBB : Hid (Base W2) := HB.out.below HBW.out
  have hlB : B < W2.heap.size := Nat.lt_of_lt_of_le hBl HBW.out.size
  have HCL : Hid (∀ y, Below W2.heap.size W2 y → Calls Tryz.prog 66 #[.agg #[.int .i64 x.s.day, .slice (some ⟨h1, 0, none⟩) n d1, .slice (some ⟨h2, 0, none⟩) n d2, .int .i64 x.s.part, .bool true, .int .i64 x.s.stop, .bool true, .slice (some ⟨h3, 0, none⟩) n d3, .bool x.s.ent]] y fun e w' => ∃ v, e = .returned v ∧ IntsT y.heap.size w' v (clmF x.s) ∧ Below y.heap.size y w') := by
    intro y fy
    have := claims_calls w.heap.size y n x.s h1 d1 h2 d2 h3 d3 (HST.out.below fy) HM.out.good
    unfold stW at this
    rw [HF.out, HH.out] at this
    exact this
  have kB : ∀ w', Below W2.heap.size W2 w' → (w'.cell? ⟨b0, 0, none⟩ = some (.int .i64 x.s.day) ∧ w'.cell? ⟨b0, 1, none⟩ = some (.slice (some ⟨h1, 0, none⟩) n d1) ∧ w'.cell? ⟨b0, 2, none⟩ = some (.slice (some ⟨h2, 0, none⟩) n d2) ∧ w'.cell? ⟨b0, 3, none⟩ = some (.int .i64 x.s.part) ∧ w'.cell? ⟨b0, 4, none⟩ = some (.bool true) ∧ w'.cell? ⟨b0, 5, none⟩ = some (.int .i64 x.s.stop) ∧ w'.cell? ⟨b0, 6, none⟩ = some (.bool true) ∧ w'.cell? ⟨b0, 7, none⟩ = some (.slice (some ⟨h3, 0, none⟩) n d3) ∧ w'.cell? ⟨b0, 8, none⟩ = some (.bool x.s.ent) ∧ w'.cell? ⟨B, 2, none⟩ = some (.int .i64 x.c.first) ∧ w'.cell? ⟨B, 3, none⟩ = some (.slice fa x.c.free.length fc) ∧ w'.cell? ⟨B, 4, none⟩ = some (.slice sa x.c.still.length sc)) := fun w' hB => ⟨(hB.cell (p := ⟨b0, 0, none⟩) hl0).trans ((cell_of_block hbx 0).trans rfl), (hB.cell (p := ⟨b0, 1, none⟩) hl0).trans ((cell_of_block hbx 1).trans rfl), (hB.cell (p := ⟨b0, 2, none⟩) hl0).trans ((cell_of_block hbx 2).trans rfl), (hB.cell (p := ⟨b0, 3, none⟩) hl0).trans ((cell_of_block hbx 3).trans rfl), (hB.cell (p := ⟨b0, 4, none⟩) hl0).trans ((cell_of_block hbx 4).trans rfl), (hB.cell (p := ⟨b0, 5, none⟩) hl0).trans ((cell_of_block hbx 5).trans rfl), (hB.cell (p := ⟨b0, 6, none⟩) hl0).trans ((cell_of_block hbx 6).trans rfl), (hB.cell (p := ⟨b0, 7, none⟩) hl0).trans ((cell_of_block hbx 7).trans rfl), (hB.cell (p := ⟨b0, 8, none⟩) hl0).trans ((cell_of_block hbx 8).trans rfl), (hB.cell (p := ⟨B, 2, none⟩) hlB).trans ((HBW.out.cell (p := ⟨B, 2, none⟩) hBl).trans KC.out.1), (hB.cell (p := ⟨B, 3, none⟩) hlB).trans ((HBW.out.cell (p := ⟨B, 3, none⟩) hBl).trans KC.out.2.1), (hB.cell (p := ⟨B, 4, none⟩) hlB).trans ((HBW.out.cell (p := ⟨B, 4, none⟩) hBl).trans KC.out.2.2)⟩
  obtain ⟨k0, k1, k2, k3, k4, k5, k6, k7, k8, k9, k10, k11⟩ := kB W2 (Below.refl _ _)
  rw [hW2, hb0]
  clear hW2 hb0 hbx hb1 hz1
  have hmx := mixed
  go_region_held3 (fun w' => w'.cell? ⟨b0, 0, none⟩ = some (.int .i64 x.s.day) ∧ w'.cell? ⟨b0, 1, none⟩ = some (.slice (some ⟨h1, 0, none⟩) n d1) ∧ w'.cell? ⟨b0, 2, none⟩ = some (.slice (some ⟨h2, 0, none⟩) n d2) ∧ w'.cell? ⟨b0, 3, none⟩ = some (.int .i64 x.s.part) ∧ w'.cell? ⟨b0, 4, none⟩ = some (.bool true) ∧ w'.cell? ⟨b0, 5, none⟩ = some (.int .i64 x.s.stop) ∧ w'.cell? ⟨b0, 6, none⟩ = some (.bool true) ∧ w'.cell? ⟨b0, 7, none⟩ = some (.slice (some ⟨h3, 0, none⟩) n d3) ∧ w'.cell? ⟨b0, 8, none⟩ = some (.bool x.s.ent) ∧ w'.cell? ⟨B, 2, none⟩ = some (.int .i64 x.c.first) ∧ w'.cell? ⟨B, 3, none⟩ = some (.slice fa x.c.free.length fc) ∧ w'.cell? ⟨B, 4, none⟩ = some (.slice sa x.c.still.length sc)) (first | go_keep | exact kB _ (by (repeat' (first | exact Below.refl _ _ | assumption | refine below_new ?_ _ | refine below_draw ?_ | refine below_tail (by assumption) ?_ | refine below_set ?_ (by first | omega | (simp <;> omega)) _))))
    ((first
      | (go_at_call 66; refine (HCL.out _ (by (repeat' (first | exact Below.refl _ _ | assumption | refine below_new ?_ _ | refine below_draw ?_ | refine below_tail (by assumption) ?_ | refine below_set ?_ (by first | omega | (simp <;> omega)) _)))).mono ?_; rintro e2 w2 ⟨v2, rfl, ⟨hi2, -⟩, hb2⟩)
      | (go_at_call 72; refine Same.use (total_is (hi2.below (by first | exact Below.refl _ _ | (repeat' (first | exact Below.refl _ _ | assumption | refine below_new ?_ _ | refine below_draw ?_ | refine below_tail (by assumption) ?_ | refine below_set ?_ (by first | omega | (simp <;> omega)) _)))) HMO.out.fa HMO.out.sa) ?_)
      | (go_at_call 72; refine Same.use (total_is (HST.out.laid.below (by (repeat' (first | exact Below.refl _ _ | assumption | refine below_new ?_ _ | refine below_draw ?_ | refine below_tail (by assumption) ?_ | refine below_set ?_ (by first | omega | (simp <;> omega)) _)))) HMO.out.fb HMO.out.sb) ?_)))
  clear k0 k1 k2 k3 k4 k5 k6 k7 k8 k9 k10 k11
  rename_i hq
  have BW_w2 : Below W2.heap.size W2 w2 := (by (repeat' (first | exact Below.refl _ _ | assumption | refine below_new ?_ _ | refine below_draw ?_ | refine below_tail (by assumption) ?_ | refine below_set ?_ (by first | omega | (simp <;> omega)) _)))
  obtain ⟨k0, k1, k2, k3, k4, k5, k6, k7, k8, k9, k10, k11⟩ := hq
  clear hi2 hb2
  go_upto_region 8 with ((fail))
  go_region_held3 (fun w' => w'.cell? ⟨b0, 0, none⟩ = some (.int .i64 x.s.day) ∧ w'.cell? ⟨b0, 1, none⟩ = some (.slice (some ⟨h1, 0, none⟩) n d1) ∧ w'.cell? ⟨b0, 2, none⟩ = some (.slice (some ⟨h2, 0, none⟩) n d2) ∧ w'.cell? ⟨b0, 3, none⟩ = some (.int .i64 x.s.part) ∧ w'.cell? ⟨b0, 4, none⟩ = some (.bool true) ∧ w'.cell? ⟨b0, 5, none⟩ = some (.int .i64 x.s.stop) ∧ w'.cell? ⟨b0, 6, none⟩ = some (.bool true) ∧ w'.cell? ⟨b0, 7, none⟩ = some (.slice (some ⟨h3, 0, none⟩) n d3) ∧ w'.cell? ⟨b0, 8, none⟩ = some (.bool x.s.ent) ∧ w'.cell? ⟨B, 2, none⟩ = some (.int .i64 x.c.first) ∧ w'.cell? ⟨B, 3, none⟩ = some (.slice fa x.c.free.length fc) ∧ w'.cell? ⟨B, 4, none⟩ = some (.slice sa x.c.still.length sc)) (first | go_keep | exact kB _ (by (repeat' (first | exact Below.refl _ _ | assumption | refine below_new ?_ _ | refine below_draw ?_ | refine below_tail (by assumption) ?_ | refine below_set ?_ (by first | omega | (simp <;> omega)) _))))
    ((first
      | (go_at_call 66; refine (HCL.out _ (by (repeat' (first | exact Below.refl _ _ | assumption | refine below_new ?_ _ | refine below_draw ?_ | refine below_tail (by assumption) ?_ | refine below_set ?_ (by first | omega | (simp <;> omega)) _)))).mono ?_; rintro e5 w5 ⟨v5, rfl, ⟨hi5, -⟩, hb5⟩)
      | (go_at_call 68; refine Calls.mono (Pay_ok v5 _ (clmF x.s) x.s.laid 1 _ (IntsAt.below hi5 (by first | exact Below.refl _ _ | (repeat' (first | exact Below.refl _ _ | assumption | refine below_new ?_ _ | refine below_draw ?_ | refine below_tail (by assumption) ?_ | refine below_set ?_ (by first | omega | (simp <;> omega)) _)))) (IntsAt.below HST.out.laid (by (repeat' (first | exact Below.refl _ _ | assumption | refine below_new ?_ _ | refine below_draw ?_ | refine below_tail (by assumption) ?_ | refine below_set ?_ (by first | omega | (simp <;> omega)) _)))) HCB.out HLT.out HLR.out (by decide) (by decide)) ?_; rintro e6 w6 ⟨v6, rfl, ⟨hi6, -⟩, hb6⟩)))
  clear k0 k1 k2 k3 k4 k5 k6 k7 k8 k9 k10 k11
  rename_i hq
  have BW_w6 : Below W2.heap.size W2 w6 := (by (repeat' (first | exact Below.refl _ _ | assumption | refine below_new ?_ _ | refine below_draw ?_ | refine below_tail (by assumption) ?_ | refine below_set ?_ (by first | omega | (simp <;> omega)) _)))
  obtain ⟨k0, k1, k2, k3, k4, k5, k6, k7, k8, k9, k10, k11⟩ := hq
  clear hi5 hb5 hb6
  have HI6 := Lib.hid hi6
  clear hi6
  go_upto_region 11 with ((go_at_call 72; refine Same.use (total_is HI6.out HPF.out HPS.out) ?_))
  go_region_held3 (fun w' => w'.cell? ⟨b0, 0, none⟩ = some (.int .i64 x.s.day) ∧ w'.cell? ⟨b0, 1, none⟩ = some (.slice (some ⟨h1, 0, none⟩) n d1) ∧ w'.cell? ⟨b0, 2, none⟩ = some (.slice (some ⟨h2, 0, none⟩) n d2) ∧ w'.cell? ⟨b0, 3, none⟩ = some (.int .i64 x.s.part) ∧ w'.cell? ⟨b0, 4, none⟩ = some (.bool true) ∧ w'.cell? ⟨b0, 5, none⟩ = some (.int .i64 x.s.stop) ∧ w'.cell? ⟨b0, 6, none⟩ = some (.bool true) ∧ w'.cell? ⟨b0, 7, none⟩ = some (.slice (some ⟨h3, 0, none⟩) n d3) ∧ w'.cell? ⟨b0, 8, none⟩ = some (.bool x.s.ent) ∧ w'.cell? ⟨B, 2, none⟩ = some (.int .i64 x.c.first) ∧ w'.cell? ⟨B, 3, none⟩ = some (.slice fa x.c.free.length fc) ∧ w'.cell? ⟨B, 4, none⟩ = some (.slice sa x.c.still.length sc)) (first | go_keep | exact kB _ (by (repeat' (first | exact Below.refl _ _ | assumption | refine below_new ?_ _ | refine below_draw ?_ | refine below_tail (by assumption) ?_ | refine below_set ?_ (by first | omega | (simp <;> omega)) _))))
    ((go_at_call 25; refine Calls.mono (Replay_at HMI.out (CalAt.below HCW.out (by (repeat' (first | exact Below.refl _ _ | assumption | refine below_new ?_ _ | refine below_draw ?_ | refine below_tail (by assumption) ?_ | refine below_set ?_ (by first | omega | (simp <;> omega)) _)))) (Base.below HBB.out (by (repeat' (first | exact Below.refl _ _ | assumption | refine below_new ?_ _ | refine below_draw ?_ | refine below_tail (by assumption) ?_ | refine below_set ?_ (by first | omega | (simp <;> omega)) _)))) HN.out HRUN.out) ?_; rintro e7 w7 ⟨B2, rfl, ho7, hb7⟩))
  clear k0 k1 k2 k3 k4 k5 k6 k7 k8 k9 k10 k11
  rename_i hq
  have BW_w7 : Below W2.heap.size W2 w7 := (by (repeat' (first | exact Below.refl _ _ | assumption | refine below_new ?_ _ | refine below_draw ?_ | refine below_tail (by assumption) ?_ | refine below_set ?_ (by first | omega | (simp <;> omega)) _)))
  obtain ⟨k0, k1, k2, k3, k4, k5, k6, k7, k8, k9, k10, k11⟩ := hq
  clear hb7
  obtain ⟨⟨ov2, hin2⟩, -⟩ := ho7
  rw [Int.toNat_natCast] at hin2
  have HL2 := Lib.hid (look_calls _ _ B2 n x ov2 hin2)
  clear hin2
  unfold LookR stW at HL2
  rw [HF.out, HH.out, HMI.out] at HL2
  go_upto_region 15 with (go_at_call 58; refine HL2.out.mono ?_; rintro e8 w8 ⟨j1, q1, j2, q2, j3, q3, rfl, hs8, hb8⟩; have HS8 := Lib.hid hs8; clear hs8; have BW_w8 : Below W2.heap.size W2 w8 := (by exact BW_w7.trans (hb8.mono BW_w7.size)); clear k0 k1 k2 k3 k4 k5 k6 k7 k8 k9 k10 k11; obtain ⟨k0, k1, k2, k3, k4, k5, k6, k7, k8, k9, k10, k11⟩ := kB _ BW_w8; have hz8 : b0 < w8.heap.size := Nat.lt_of_lt_of_le hl0 BW_w8.size; clear hb8)
  obtain ⟨W3, hW3⟩ : ∃ W3, w8.alloc (.cells #[.int .i64 x.s.day, .slice (some ⟨j1, 0, none⟩) n q1, .slice (some ⟨j2, 0, none⟩) n q2, .int .i64 x.s.part, .bool true, .int .i64 x.s.stop, .bool true, .slice (some ⟨j3, 0, none⟩) n q3, .bool x.s.ent] 90) = W3 := ⟨_, rfl⟩
  obtain ⟨b3, hb3⟩ : ∃ b3, w8.heap.size = b3 := ⟨_, rfl⟩
  have hbx3 : W3.heap[b3]? = some (.cells #[.int .i64 x.s.day, .slice (some ⟨j1, 0, none⟩) n q1, .slice (some ⟨j2, 0, none⟩) n q2, .int .i64 x.s.part, .bool true, .int .i64 x.s.stop, .bool true, .slice (some ⟨j3, 0, none⟩) n q3, .bool x.s.ent] 90 (0, 0)) := by rw [← hW3, ← hb3]; exact alloc_new _ _ rfl
  have HB83 : Below w8.heap.size w8 W3 := by rw [← hW3]; exact (Below.refl _ _).alloc (Nat.le_refl _) _
  have HBW3 : Hid (Below W2.heap.size W2 W3) := BW_w8.trans (HB83.mono BW_w8.size)
  have HST3 : Hid (StAt w7.heap.size W3 n x.s j1 q1 j2 q2 j3 q3) := HS8.out.below HB83
  have HST2 : Hid (StAt w.heap.size W3 n x.s h1 d1 h2 d2 h3 d3) := HST.out.below HBW3.out
  have hl3 : b3 < W3.heap.size := by rw [← hW3, ← hb3]; simp
  have hl03 : b0 < W3.heap.size := Nat.lt_of_lt_of_le hl0 HBW3.out.size
  have kD : Hid (∀ w', Below W3.heap.size W3 w' → ((w'.cell? ⟨b0, 0, none⟩ = some (.int .i64 x.s.day) ∧ w'.cell? ⟨b0, 1, none⟩ = some (.slice (some ⟨h1, 0, none⟩) n d1) ∧ w'.cell? ⟨b0, 2, none⟩ = some (.slice (some ⟨h2, 0, none⟩) n d2) ∧ w'.cell? ⟨b0, 3, none⟩ = some (.int .i64 x.s.part) ∧ w'.cell? ⟨b0, 4, none⟩ = some (.bool true) ∧ w'.cell? ⟨b0, 5, none⟩ = some (.int .i64 x.s.stop) ∧ w'.cell? ⟨b0, 6, none⟩ = some (.bool true) ∧ w'.cell? ⟨b0, 7, none⟩ = some (.slice (some ⟨h3, 0, none⟩) n d3) ∧ w'.cell? ⟨b0, 8, none⟩ = some (.bool x.s.ent)) ∧ (w'.cell? ⟨b3, 0, none⟩ = some (.int .i64 x.s.day) ∧ w'.cell? ⟨b3, 1, none⟩ = some (.slice (some ⟨j1, 0, none⟩) n q1) ∧ w'.cell? ⟨b3, 2, none⟩ = some (.slice (some ⟨j2, 0, none⟩) n q2) ∧ w'.cell? ⟨b3, 3, none⟩ = some (.int .i64 x.s.part) ∧ w'.cell? ⟨b3, 4, none⟩ = some (.bool true) ∧ w'.cell? ⟨b3, 5, none⟩ = some (.int .i64 x.s.stop) ∧ w'.cell? ⟨b3, 6, none⟩ = some (.bool true) ∧ w'.cell? ⟨b3, 7, none⟩ = some (.slice (some ⟨j3, 0, none⟩) n q3) ∧ w'.cell? ⟨b3, 8, none⟩ = some (.bool x.s.ent)))) := fun w' hB => ⟨⟨(hB.cell (p := ⟨b0, 0, none⟩) hl03).trans ((kB _ HBW3.out).1), (hB.cell (p := ⟨b0, 1, none⟩) hl03).trans ((kB _ HBW3.out).2.1), (hB.cell (p := ⟨b0, 2, none⟩) hl03).trans ((kB _ HBW3.out).2.2.1), (hB.cell (p := ⟨b0, 3, none⟩) hl03).trans ((kB _ HBW3.out).2.2.2.1), (hB.cell (p := ⟨b0, 4, none⟩) hl03).trans ((kB _ HBW3.out).2.2.2.2.1), (hB.cell (p := ⟨b0, 5, none⟩) hl03).trans ((kB _ HBW3.out).2.2.2.2.2.1), (hB.cell (p := ⟨b0, 6, none⟩) hl03).trans ((kB _ HBW3.out).2.2.2.2.2.2.1), (hB.cell (p := ⟨b0, 7, none⟩) hl03).trans ((kB _ HBW3.out).2.2.2.2.2.2.2.1), (hB.cell (p := ⟨b0, 8, none⟩) hl03).trans ((kB _ HBW3.out).2.2.2.2.2.2.2.2.1)⟩, ⟨(hB.cell (p := ⟨b3, 0, none⟩) hl3).trans ((cell_of_block hbx3 0).trans rfl), (hB.cell (p := ⟨b3, 1, none⟩) hl3).trans ((cell_of_block hbx3 1).trans rfl), (hB.cell (p := ⟨b3, 2, none⟩) hl3).trans ((cell_of_block hbx3 2).trans rfl), (hB.cell (p := ⟨b3, 3, none⟩) hl3).trans ((cell_of_block hbx3 3).trans rfl), (hB.cell (p := ⟨b3, 4, none⟩) hl3).trans ((cell_of_block hbx3 4).trans rfl), (hB.cell (p := ⟨b3, 5, none⟩) hl3).trans ((cell_of_block hbx3 5).trans rfl), (hB.cell (p := ⟨b3, 6, none⟩) hl3).trans ((cell_of_block hbx3 6).trans rfl), (hB.cell (p := ⟨b3, 7, none⟩) hl3).trans ((cell_of_block hbx3 7).trans rfl), (hB.cell (p := ⟨b3, 8, none⟩) hl3).trans ((cell_of_block hbx3 8).trans rfl)⟩⟩
  clear k0 k1 k2 k3 k4 k5 k6 k7 k8 k9 k10 k11
  obtain ⟨⟨m0, m1, m2, m3, m4, m5, m6, m7, m8⟩, ⟨n0, n1, n2, n3, n4, n5, n6, n7, n8⟩⟩ := kD.out W3 (Below.refl _ _)
  rw [hW3, hb3]
  clear hW3 hb3 hbx3 HB83 hz8
  go_wp2_with (first
    | (go_at_call 73; refine Gives.use (equal_is (t := true) (IntsAt.below HST2.out.strips (by (repeat' (first | exact Below.refl _ _ | assumption | refine below_new ?_ _ | refine below_draw ?_ | refine below_tail (by assumption) ?_ | refine below_set ?_ (by first | omega | (simp <;> omega)) _)))) (IntsAt.below HST3.out.strips (by (repeat' (first | exact Below.refl _ _ | assumption | refine below_new ?_ _ | refine below_draw ?_ | refine below_tail (by assumption) ?_ | refine below_set ?_ (by first | omega | (simp <;> omega)) _)))) (by simp)) ?_; intro w9 hb9 hz9 hc9 hf9; clear hc9 hf9 hz9; have BX_9 : Below W3.heap.size W3 w9 := (by exact Below.trans (Below.refl W3.heap.size W3) (hb9.mono ((Below.refl W3.heap.size W3)).size)); clear hb9; clear m0 m1 m2 m3 m4 m5 m6 m7 m8 n0 n1 n2 n3 n4 n5 n6 n7 n8; obtain ⟨⟨m0, m1, m2, m3, m4, m5, m6, m7, m8⟩, ⟨n0, n1, n2, n3, n4, n5, n6, n7, n8⟩⟩ := kD.out _ BX_9)
    | (go_at_call 73; refine Gives.use (equal_is (t := true) (IntsAt.below HST2.out.laid (by (repeat' (first | exact Below.refl _ _ | assumption | refine below_new ?_ _ | refine below_draw ?_ | refine below_tail (by assumption) ?_ | refine below_set ?_ (by first | omega | (simp <;> omega)) _)))) (IntsAt.below HST3.out.laid (by (repeat' (first | exact Below.refl _ _ | assumption | refine below_new ?_ _ | refine below_draw ?_ | refine below_tail (by assumption) ?_ | refine below_set ?_ (by first | omega | (simp <;> omega)) _)))) (by simp)) ?_; intro w10 hb10 hz10 hc10 hf10; clear hc10 hf10 hz10; have BX_10 : Below W3.heap.size W3 w10 := (by exact Below.trans BX_9 (hb10.mono (BX_9).size)); clear hb10; clear m0 m1 m2 m3 m4 m5 m6 m7 m8 n0 n1 n2 n3 n4 n5 n6 n7 n8; obtain ⟨⟨m0, m1, m2, m3, m4, m5, m6, m7, m8⟩, ⟨n0, n1, n2, n3, n4, n5, n6, n7, n8⟩⟩ := kD.out _ BX_10)
    | (go_at_call 74; refine Gives.use (equalB_same (BoolsAt.below HST2.out.opn (by (repeat' (first | exact Below.refl _ _ | assumption | refine below_new ?_ _ | refine below_draw ?_ | refine below_tail (by assumption) ?_ | refine below_set ?_ (by first | omega | (simp <;> omega)) _)))) (BoolsAt.below HST3.out.opn (by (repeat' (first | exact Below.refl _ _ | assumption | refine below_new ?_ _ | refine below_draw ?_ | refine below_tail (by assumption) ?_ | refine below_set ?_ (by first | omega | (simp <;> omega)) _))))) ?_; intro w11 hb11 hz11 hc11 hf11; clear hc11 hf11 hz11; have BX_11 : Below W3.heap.size W3 w11 := (by exact Below.trans BX_10 (hb11.mono (BX_10).size)); clear hb11; clear m0 m1 m2 m3 m4 m5 m6 m7 m8 n0 n1 n2 n3 n4 n5 n6 n7 n8; obtain ⟨⟨m0, m1, m2, m3, m4, m5, m6, m7, m8⟩, ⟨n0, n1, n2, n3, n4, n5, n6, n7, n8⟩⟩ := kD.out _ BX_11))
  go_ret
  exact ⟨rfl, HBW.out.trans ((HBW3.out.trans (BX_11.mono HBW3.out.size)).mono HBW.out.size)⟩
set_option maxRecDepth 100000 in
set_option maxHeartbeats 8000000 in
theorem Audit_tf (m : Nat) (w : World) (B n : Nat) (x : Off) (h : OffS m w B n x) (hb : Base w) (hf : x.s.fixed = true) (hh : x.s.heard = false) :
    Gives Tryz.prog 43 #[.pointer (some ⟨B, 0, none⟩)] w (.bool true) := by
  have HB := Lib.hid hb
  have HM := Lib.hid h.2
  have HN := Lib.hid (newE_made h.2)
  have HRUN : Hid (runs (newO (n : Int).toNat x.c) x.os = some x) := h.2.run
  have h1n := h.2.n1
  have h8n := h.2.n8
  have hmo := money_of h.2 1
  obtain ⟨⟨ov, hin⟩, -⟩ := h
  have HL := Lib.hid (look_calls m w B n x ov hin)
  obtain ⟨fv, sv, g1, e1, g2, e2, g3, e3, hat⟩ := hin
  have HCAL := Lib.hid hat.cal
  have hBl := hat.lt
  have KC : Hid (w.cell? ⟨B, 2, none⟩ = some (.int .i64 x.c.first) ∧ w.cell? ⟨B, 3, none⟩ = some fv ∧ w.cell? ⟨B, 4, none⟩ = some sv) := ⟨(cell_of_block hat.box 2).trans rfl, (cell_of_block hat.box 3).trans rfl, (cell_of_block hat.box 4).trans rfl⟩
  clear hat
  obtain ⟨fa, fc, sa, sc, hav, -⟩ := HCAL.out.cells
  simp only [Value.agg.injEq, Array.mk.injEq, List.cons.injEq, and_true, true_and] at hav
  obtain ⟨rfl, rfl⟩ := hav
  unfold LookR stW at HL
  have HF := Lib.hid hf
  have HH := Lib.hid hh
  obtain ⟨cs, hcs⟩ : ∃ y, sumI (clmF x.s) = y := ⟨_, rfl⟩
  obtain ⟨ls, hls⟩ : ∃ y, sumI x.s.laid = y := ⟨_, rfl⟩
  rw [hcs, hls] at hmo
  clear hcs hls
  have HMO := Lib.hid hmo
  have hlc := hmo.lo
  have klt : decide (cs < ls) = false := decide_eq_false (by omega)
  have klt' : ¬ cs < ls := by omega
  have hwd : IntKind.i64.wrap (cs - ls) = cs - ls := by have := hmo.hi; have := hmo.l0; exact IntWalk.i64_in _ (by omega)
  have HNO := Lib.hid (hmo.no hh)
  have hen := (hmo.no hh).2
  have HE := Lib.hid hen
  rw [hf, hh, hen] at HL
  clear hen
  have HLT : Hid (x.s.laid.length = (clmF x.s).length) := by show _ = _; rw [HM.out.long.l2, clm_long HM.out.long hf]
  have HCB := Lib.hid (clm_claims HM.out.good HM.out.long HM.out.n1 HM.out.n8 hf)
  have HLR := Lib.hid (laid_range HM.out.good HM.out.long HM.out.n1 HM.out.n8)
  have hpl : payL x 1 = payF (clmF x.s) x.s.laid 1 := by unfold payL; rw [if_pos (hmo.pay hf (by decide) (by decide)).2.1]
  have HPF : Hid (Few (payF (clmF x.s) x.s.laid 1)) := hpl ▸ (hmo.pay hf (by decide) (by decide)).2.2.1
  have HPS : Hid (sumI (payF (clmF x.s) x.s.laid 1) = cs - ls) := by show _ = _; rw [← hpl, (hmo.pay hf (by decide) (by decide)).2.2.2]; omega
  clear hpl
  obtain ⟨mi, hmi⟩ : ∃ t, minF x.os = t := ⟨_, rfl⟩
  have HMI := Lib.hid hmi
  rw [hmi] at HL
  clear hmi hmo hlc hb hf hh
  go_enter Tryz.func43, Tryz.ntmps43
  go_upto_region 4 with (go_at_call 58; refine HL.out.mono ?_; rintro e1 w1 ⟨h1, d1, h2, d2, h3, d3, rfl, hs1, hb1⟩; have HS1 := Lib.hid hs1; clear hs1; have hz1 : w.heap.size ≤ w1.heap.size := hb1.size)
  obtain ⟨W2, hW2⟩ : ∃ W2, w1.alloc (.cells #[.int .i64 x.s.day, .slice (some ⟨h1, 0, none⟩) n d1, .slice (some ⟨h2, 0, none⟩) n d2, .int .i64 x.s.part, .bool true, .int .i64 x.s.stop, .bool false, .slice (some ⟨h3, 0, none⟩) n d3, .bool false] 90) = W2 := ⟨_, rfl⟩
  obtain ⟨b0, hb0⟩ : ∃ b0, w1.heap.size = b0 := ⟨_, rfl⟩
  have hbx : W2.heap[b0]? = some (.cells #[.int .i64 x.s.day, .slice (some ⟨h1, 0, none⟩) n d1, .slice (some ⟨h2, 0, none⟩) n d2, .int .i64 x.s.part, .bool true, .int .i64 x.s.stop, .bool false, .slice (some ⟨h3, 0, none⟩) n d3, .bool false] 90 (0, 0)) := by rw [← hW2, ← hb0]; exact alloc_new _ _ rfl
  have HB12 : Hid (Below w1.heap.size w1 W2) := by show Below _ _ _; rw [← hW2]; exact (Below.refl _ _).alloc (Nat.le_refl _) _
  have HBW : Hid (Below w.heap.size w W2) := hb1.trans (HB12.out.mono hb1.size)
  have HST : Hid (StAt w.heap.size W2 n x.s h1 d1 h2 d2 h3 d3) := HS1.out.below HB12.out
  have hl0 : b0 < W2.heap.size := by rw [← hW2, ← hb0]; simp
  have HCW : Hid (CalAt W2 (.agg #[.int .i64 x.c.first, .slice fa x.c.free.length fc, .slice sa x.c.still.length sc]) x.c) := HCAL.out.below HBW.out
  have HBB : Hid (Base W2) := HB.out.below HBW.out
  have hlB : B < W2.heap.size := Nat.lt_of_lt_of_le hBl HBW.out.size
  have HCL : Hid (∀ y, Below W2.heap.size W2 y → Calls Tryz.prog 66 #[.agg #[.int .i64 x.s.day, .slice (some ⟨h1, 0, none⟩) n d1, .slice (some ⟨h2, 0, none⟩) n d2, .int .i64 x.s.part, .bool true, .int .i64 x.s.stop, .bool false, .slice (some ⟨h3, 0, none⟩) n d3, .bool false]] y fun e w' => ∃ v, e = .returned v ∧ IntsT y.heap.size w' v (clmF x.s) ∧ Below y.heap.size y w') := by
    intro y fy
    have := claims_calls w.heap.size y n x.s h1 d1 h2 d2 h3 d3 (HST.out.below fy) HM.out.good
    unfold stW at this
    rw [HF.out, HH.out, HE.out] at this
    exact this
  have HOP : Hid (∀ y, Below W2.heap.size W2 y → Calls Tryz.prog 67 #[.agg #[.int .i64 x.s.day, .slice (some ⟨h1, 0, none⟩) n d1, .slice (some ⟨h2, 0, none⟩) n d2, .int .i64 x.s.part, .bool true, .int .i64 x.s.stop, .bool false, .slice (some ⟨h3, 0, none⟩) n d3, .bool false]] y fun e w' => ∃ v, e = .returned v ∧ IntsT y.heap.size w' v [] ∧ Below y.heap.size y w') := by
    intro y fy
    have := opened_calls w.heap.size y n x.s h1 d1 h2 d2 h3 d3 (HST.out.below fy)
    unfold stW at this
    rw [HF.out, HH.out, HE.out, HNO.out.1] at this
    exact this
  have kB : ∀ w', Below W2.heap.size W2 w' → (w'.cell? ⟨b0, 0, none⟩ = some (.int .i64 x.s.day) ∧ w'.cell? ⟨b0, 1, none⟩ = some (.slice (some ⟨h1, 0, none⟩) n d1) ∧ w'.cell? ⟨b0, 2, none⟩ = some (.slice (some ⟨h2, 0, none⟩) n d2) ∧ w'.cell? ⟨b0, 3, none⟩ = some (.int .i64 x.s.part) ∧ w'.cell? ⟨b0, 4, none⟩ = some (.bool true) ∧ w'.cell? ⟨b0, 5, none⟩ = some (.int .i64 x.s.stop) ∧ w'.cell? ⟨b0, 6, none⟩ = some (.bool false) ∧ w'.cell? ⟨b0, 7, none⟩ = some (.slice (some ⟨h3, 0, none⟩) n d3) ∧ w'.cell? ⟨b0, 8, none⟩ = some (.bool false) ∧ w'.cell? ⟨B, 2, none⟩ = some (.int .i64 x.c.first) ∧ w'.cell? ⟨B, 3, none⟩ = some (.slice fa x.c.free.length fc) ∧ w'.cell? ⟨B, 4, none⟩ = some (.slice sa x.c.still.length sc)) := fun w' hB => ⟨(hB.cell (p := ⟨b0, 0, none⟩) hl0).trans ((cell_of_block hbx 0).trans rfl), (hB.cell (p := ⟨b0, 1, none⟩) hl0).trans ((cell_of_block hbx 1).trans rfl), (hB.cell (p := ⟨b0, 2, none⟩) hl0).trans ((cell_of_block hbx 2).trans rfl), (hB.cell (p := ⟨b0, 3, none⟩) hl0).trans ((cell_of_block hbx 3).trans rfl), (hB.cell (p := ⟨b0, 4, none⟩) hl0).trans ((cell_of_block hbx 4).trans rfl), (hB.cell (p := ⟨b0, 5, none⟩) hl0).trans ((cell_of_block hbx 5).trans rfl), (hB.cell (p := ⟨b0, 6, none⟩) hl0).trans ((cell_of_block hbx 6).trans rfl), (hB.cell (p := ⟨b0, 7, none⟩) hl0).trans ((cell_of_block hbx 7).trans rfl), (hB.cell (p := ⟨b0, 8, none⟩) hl0).trans ((cell_of_block hbx 8).trans rfl), (hB.cell (p := ⟨B, 2, none⟩) hlB).trans ((HBW.out.cell (p := ⟨B, 2, none⟩) hBl).trans KC.out.1), (hB.cell (p := ⟨B, 3, none⟩) hlB).trans ((HBW.out.cell (p := ⟨B, 3, none⟩) hBl).trans KC.out.2.1), (hB.cell (p := ⟨B, 4, none⟩) hlB).trans ((HBW.out.cell (p := ⟨B, 4, none⟩) hBl).trans KC.out.2.2)⟩
  obtain ⟨k0, k1, k2, k3, k4, k5, k6, k7, k8, k9, k10, k11⟩ := kB W2 (Below.refl _ _)
  rw [hW2, hb0]
  clear hW2 hb0 hbx hb1 hz1
  have hmx := mixed
  go_region_held3 (fun w' => w'.cell? ⟨b0, 0, none⟩ = some (.int .i64 x.s.day) ∧ w'.cell? ⟨b0, 1, none⟩ = some (.slice (some ⟨h1, 0, none⟩) n d1) ∧ w'.cell? ⟨b0, 2, none⟩ = some (.slice (some ⟨h2, 0, none⟩) n d2) ∧ w'.cell? ⟨b0, 3, none⟩ = some (.int .i64 x.s.part) ∧ w'.cell? ⟨b0, 4, none⟩ = some (.bool true) ∧ w'.cell? ⟨b0, 5, none⟩ = some (.int .i64 x.s.stop) ∧ w'.cell? ⟨b0, 6, none⟩ = some (.bool false) ∧ w'.cell? ⟨b0, 7, none⟩ = some (.slice (some ⟨h3, 0, none⟩) n d3) ∧ w'.cell? ⟨b0, 8, none⟩ = some (.bool false) ∧ w'.cell? ⟨B, 2, none⟩ = some (.int .i64 x.c.first) ∧ w'.cell? ⟨B, 3, none⟩ = some (.slice fa x.c.free.length fc) ∧ w'.cell? ⟨B, 4, none⟩ = some (.slice sa x.c.still.length sc)) (first | go_keep | exact kB _ (by (repeat' (first | exact Below.refl _ _ | assumption | refine below_new ?_ _ | refine below_draw ?_ | refine below_tail (by assumption) ?_ | refine below_set ?_ (by first | omega | (simp <;> omega)) _))))
    ((first
      | (go_at_call 66; refine (HCL.out _ (by (repeat' (first | exact Below.refl _ _ | assumption | refine below_new ?_ _ | refine below_draw ?_ | refine below_tail (by assumption) ?_ | refine below_set ?_ (by first | omega | (simp <;> omega)) _)))).mono ?_; rintro e2 w2 ⟨v2, rfl, ⟨hi2, -⟩, hb2⟩)
      | (go_at_call 72; refine Same.use (total_is (hi2.below (by first | exact Below.refl _ _ | (repeat' (first | exact Below.refl _ _ | assumption | refine below_new ?_ _ | refine below_draw ?_ | refine below_tail (by assumption) ?_ | refine below_set ?_ (by first | omega | (simp <;> omega)) _)))) HMO.out.fa HMO.out.sa) ?_)
      | (go_at_call 72; refine Same.use (total_is (HST.out.laid.below (by (repeat' (first | exact Below.refl _ _ | assumption | refine below_new ?_ _ | refine below_draw ?_ | refine below_tail (by assumption) ?_ | refine below_set ?_ (by first | omega | (simp <;> omega)) _)))) HMO.out.fb HMO.out.sb) ?_)))
  clear k0 k1 k2 k3 k4 k5 k6 k7 k8 k9 k10 k11
  rename_i hq
  have BW_w2 : Below W2.heap.size W2 w2 := (by (repeat' (first | exact Below.refl _ _ | assumption | refine below_new ?_ _ | refine below_draw ?_ | refine below_tail (by assumption) ?_ | refine below_set ?_ (by first | omega | (simp <;> omega)) _)))
  obtain ⟨k0, k1, k2, k3, k4, k5, k6, k7, k8, k9, k10, k11⟩ := hq
  clear hi2 hb2
  go_upto_region 8 with ((go_at_call 67; refine Calls.mono (HOP.out _ (by (repeat' (first | exact Below.refl _ _ | assumption | refine below_new ?_ _ | refine below_draw ?_ | refine below_tail (by assumption) ?_ | refine below_set ?_ (by first | omega | (simp <;> omega)) _)))) ?_; rintro e3 w3 ⟨v3, rfl, ⟨hi3, -⟩, hb3⟩; obtain ⟨oa, oc, rfl⟩ := ints_none hi3; clear hi3; have BW_w3 : Below W2.heap.size W2 w3 := (by first | exact BW_w2.trans (hb3.mono BW_w2.size)); clear k0 k1 k2 k3 k4 k5 k6 k7 k8 k9 k10 k11; obtain ⟨k0, k1, k2, k3, k4, k5, k6, k7, k8, k9, k10, k11⟩ := kB _ BW_w3; clear hb3))
  go_region_held3 (fun w' => w'.cell? ⟨b0, 0, none⟩ = some (.int .i64 x.s.day) ∧ w'.cell? ⟨b0, 1, none⟩ = some (.slice (some ⟨h1, 0, none⟩) n d1) ∧ w'.cell? ⟨b0, 2, none⟩ = some (.slice (some ⟨h2, 0, none⟩) n d2) ∧ w'.cell? ⟨b0, 3, none⟩ = some (.int .i64 x.s.part) ∧ w'.cell? ⟨b0, 4, none⟩ = some (.bool true) ∧ w'.cell? ⟨b0, 5, none⟩ = some (.int .i64 x.s.stop) ∧ w'.cell? ⟨b0, 6, none⟩ = some (.bool false) ∧ w'.cell? ⟨b0, 7, none⟩ = some (.slice (some ⟨h3, 0, none⟩) n d3) ∧ w'.cell? ⟨b0, 8, none⟩ = some (.bool false) ∧ w'.cell? ⟨B, 2, none⟩ = some (.int .i64 x.c.first) ∧ w'.cell? ⟨B, 3, none⟩ = some (.slice fa x.c.free.length fc) ∧ w'.cell? ⟨B, 4, none⟩ = some (.slice sa x.c.still.length sc)) (first | go_keep | exact kB _ (by (repeat' (first | exact Below.refl _ _ | assumption | refine below_new ?_ _ | refine below_draw ?_ | refine below_tail (by assumption) ?_ | refine below_set ?_ (by first | omega | (simp <;> omega)) _))))
    ((first
      | (go_at_call 66; refine (HCL.out _ (by (repeat' (first | exact Below.refl _ _ | assumption | refine below_new ?_ _ | refine below_draw ?_ | refine below_tail (by assumption) ?_ | refine below_set ?_ (by first | omega | (simp <;> omega)) _)))).mono ?_; rintro e5 w5 ⟨v5, rfl, ⟨hi5, -⟩, hb5⟩)
      | (go_at_call 68; refine Calls.mono (Pay_ok v5 _ (clmF x.s) x.s.laid 1 _ (IntsAt.below hi5 (by first | exact Below.refl _ _ | (repeat' (first | exact Below.refl _ _ | assumption | refine below_new ?_ _ | refine below_draw ?_ | refine below_tail (by assumption) ?_ | refine below_set ?_ (by first | omega | (simp <;> omega)) _)))) (IntsAt.below HST.out.laid (by (repeat' (first | exact Below.refl _ _ | assumption | refine below_new ?_ _ | refine below_draw ?_ | refine below_tail (by assumption) ?_ | refine below_set ?_ (by first | omega | (simp <;> omega)) _)))) HCB.out HLT.out HLR.out (by decide) (by decide)) ?_; rintro e6 w6 ⟨v6, rfl, ⟨hi6, -⟩, hb6⟩)))
  clear k0 k1 k2 k3 k4 k5 k6 k7 k8 k9 k10 k11
  rename_i hq
  have BW_w6 : Below W2.heap.size W2 w6 := (by (repeat' (first | exact Below.refl _ _ | assumption | refine below_new ?_ _ | refine below_draw ?_ | refine below_tail (by assumption) ?_ | refine below_set ?_ (by first | omega | (simp <;> omega)) _)))
  obtain ⟨k0, k1, k2, k3, k4, k5, k6, k7, k8, k9, k10, k11⟩ := hq
  clear hi5 hb5 hb6
  have HI6 := Lib.hid hi6
  clear hi6
  go_upto_region 11 with ((go_at_call 72; refine Same.use (total_is HI6.out HPF.out HPS.out) ?_))
  go_region_held3 (fun w' => w'.cell? ⟨b0, 0, none⟩ = some (.int .i64 x.s.day) ∧ w'.cell? ⟨b0, 1, none⟩ = some (.slice (some ⟨h1, 0, none⟩) n d1) ∧ w'.cell? ⟨b0, 2, none⟩ = some (.slice (some ⟨h2, 0, none⟩) n d2) ∧ w'.cell? ⟨b0, 3, none⟩ = some (.int .i64 x.s.part) ∧ w'.cell? ⟨b0, 4, none⟩ = some (.bool true) ∧ w'.cell? ⟨b0, 5, none⟩ = some (.int .i64 x.s.stop) ∧ w'.cell? ⟨b0, 6, none⟩ = some (.bool false) ∧ w'.cell? ⟨b0, 7, none⟩ = some (.slice (some ⟨h3, 0, none⟩) n d3) ∧ w'.cell? ⟨b0, 8, none⟩ = some (.bool false) ∧ w'.cell? ⟨B, 2, none⟩ = some (.int .i64 x.c.first) ∧ w'.cell? ⟨B, 3, none⟩ = some (.slice fa x.c.free.length fc) ∧ w'.cell? ⟨B, 4, none⟩ = some (.slice sa x.c.still.length sc)) (first | go_keep | exact kB _ (by (repeat' (first | exact Below.refl _ _ | assumption | refine below_new ?_ _ | refine below_draw ?_ | refine below_tail (by assumption) ?_ | refine below_set ?_ (by first | omega | (simp <;> omega)) _))))
    ((go_at_call 25; refine Calls.mono (Replay_at HMI.out (CalAt.below HCW.out (by (repeat' (first | exact Below.refl _ _ | assumption | refine below_new ?_ _ | refine below_draw ?_ | refine below_tail (by assumption) ?_ | refine below_set ?_ (by first | omega | (simp <;> omega)) _)))) (Base.below HBB.out (by (repeat' (first | exact Below.refl _ _ | assumption | refine below_new ?_ _ | refine below_draw ?_ | refine below_tail (by assumption) ?_ | refine below_set ?_ (by first | omega | (simp <;> omega)) _)))) HN.out HRUN.out) ?_; rintro e7 w7 ⟨B2, rfl, ho7, hb7⟩))
  clear k0 k1 k2 k3 k4 k5 k6 k7 k8 k9 k10 k11
  rename_i hq
  have BW_w7 : Below W2.heap.size W2 w7 := (by (repeat' (first | exact Below.refl _ _ | assumption | refine below_new ?_ _ | refine below_draw ?_ | refine below_tail (by assumption) ?_ | refine below_set ?_ (by first | omega | (simp <;> omega)) _)))
  obtain ⟨k0, k1, k2, k3, k4, k5, k6, k7, k8, k9, k10, k11⟩ := hq
  clear hb7
  obtain ⟨⟨ov2, hin2⟩, -⟩ := ho7
  rw [Int.toNat_natCast] at hin2
  have HL2 := Lib.hid (look_calls _ _ B2 n x ov2 hin2)
  clear hin2
  unfold LookR stW at HL2
  rw [HF.out, HH.out, HE.out, HMI.out] at HL2
  go_upto_region 15 with (go_at_call 58; refine HL2.out.mono ?_; rintro e8 w8 ⟨j1, q1, j2, q2, j3, q3, rfl, hs8, hb8⟩; have HS8 := Lib.hid hs8; clear hs8; have BW_w8 : Below W2.heap.size W2 w8 := (by exact BW_w7.trans (hb8.mono BW_w7.size)); clear k0 k1 k2 k3 k4 k5 k6 k7 k8 k9 k10 k11; obtain ⟨k0, k1, k2, k3, k4, k5, k6, k7, k8, k9, k10, k11⟩ := kB _ BW_w8; have hz8 : b0 < w8.heap.size := Nat.lt_of_lt_of_le hl0 BW_w8.size; clear hb8)
  obtain ⟨W3, hW3⟩ : ∃ W3, w8.alloc (.cells #[.int .i64 x.s.day, .slice (some ⟨j1, 0, none⟩) n q1, .slice (some ⟨j2, 0, none⟩) n q2, .int .i64 x.s.part, .bool true, .int .i64 x.s.stop, .bool false, .slice (some ⟨j3, 0, none⟩) n q3, .bool false] 90) = W3 := ⟨_, rfl⟩
  obtain ⟨b3, hb3⟩ : ∃ b3, w8.heap.size = b3 := ⟨_, rfl⟩
  have hbx3 : W3.heap[b3]? = some (.cells #[.int .i64 x.s.day, .slice (some ⟨j1, 0, none⟩) n q1, .slice (some ⟨j2, 0, none⟩) n q2, .int .i64 x.s.part, .bool true, .int .i64 x.s.stop, .bool false, .slice (some ⟨j3, 0, none⟩) n q3, .bool false] 90 (0, 0)) := by rw [← hW3, ← hb3]; exact alloc_new _ _ rfl
  have HB83 : Below w8.heap.size w8 W3 := by rw [← hW3]; exact (Below.refl _ _).alloc (Nat.le_refl _) _
  have HBW3 : Hid (Below W2.heap.size W2 W3) := BW_w8.trans (HB83.mono BW_w8.size)
  have HST3 : Hid (StAt w7.heap.size W3 n x.s j1 q1 j2 q2 j3 q3) := HS8.out.below HB83
  have HST2 : Hid (StAt w.heap.size W3 n x.s h1 d1 h2 d2 h3 d3) := HST.out.below HBW3.out
  have hl3 : b3 < W3.heap.size := by rw [← hW3, ← hb3]; simp
  have hl03 : b0 < W3.heap.size := Nat.lt_of_lt_of_le hl0 HBW3.out.size
  have kD : Hid (∀ w', Below W3.heap.size W3 w' → ((w'.cell? ⟨b0, 0, none⟩ = some (.int .i64 x.s.day) ∧ w'.cell? ⟨b0, 1, none⟩ = some (.slice (some ⟨h1, 0, none⟩) n d1) ∧ w'.cell? ⟨b0, 2, none⟩ = some (.slice (some ⟨h2, 0, none⟩) n d2) ∧ w'.cell? ⟨b0, 3, none⟩ = some (.int .i64 x.s.part) ∧ w'.cell? ⟨b0, 4, none⟩ = some (.bool true) ∧ w'.cell? ⟨b0, 5, none⟩ = some (.int .i64 x.s.stop) ∧ w'.cell? ⟨b0, 6, none⟩ = some (.bool false) ∧ w'.cell? ⟨b0, 7, none⟩ = some (.slice (some ⟨h3, 0, none⟩) n d3) ∧ w'.cell? ⟨b0, 8, none⟩ = some (.bool false)) ∧ (w'.cell? ⟨b3, 0, none⟩ = some (.int .i64 x.s.day) ∧ w'.cell? ⟨b3, 1, none⟩ = some (.slice (some ⟨j1, 0, none⟩) n q1) ∧ w'.cell? ⟨b3, 2, none⟩ = some (.slice (some ⟨j2, 0, none⟩) n q2) ∧ w'.cell? ⟨b3, 3, none⟩ = some (.int .i64 x.s.part) ∧ w'.cell? ⟨b3, 4, none⟩ = some (.bool true) ∧ w'.cell? ⟨b3, 5, none⟩ = some (.int .i64 x.s.stop) ∧ w'.cell? ⟨b3, 6, none⟩ = some (.bool false) ∧ w'.cell? ⟨b3, 7, none⟩ = some (.slice (some ⟨j3, 0, none⟩) n q3) ∧ w'.cell? ⟨b3, 8, none⟩ = some (.bool false)))) := fun w' hB => ⟨⟨(hB.cell (p := ⟨b0, 0, none⟩) hl03).trans ((kB _ HBW3.out).1), (hB.cell (p := ⟨b0, 1, none⟩) hl03).trans ((kB _ HBW3.out).2.1), (hB.cell (p := ⟨b0, 2, none⟩) hl03).trans ((kB _ HBW3.out).2.2.1), (hB.cell (p := ⟨b0, 3, none⟩) hl03).trans ((kB _ HBW3.out).2.2.2.1), (hB.cell (p := ⟨b0, 4, none⟩) hl03).trans ((kB _ HBW3.out).2.2.2.2.1), (hB.cell (p := ⟨b0, 5, none⟩) hl03).trans ((kB _ HBW3.out).2.2.2.2.2.1), (hB.cell (p := ⟨b0, 6, none⟩) hl03).trans ((kB _ HBW3.out).2.2.2.2.2.2.1), (hB.cell (p := ⟨b0, 7, none⟩) hl03).trans ((kB _ HBW3.out).2.2.2.2.2.2.2.1), (hB.cell (p := ⟨b0, 8, none⟩) hl03).trans ((kB _ HBW3.out).2.2.2.2.2.2.2.2.1)⟩, ⟨(hB.cell (p := ⟨b3, 0, none⟩) hl3).trans ((cell_of_block hbx3 0).trans rfl), (hB.cell (p := ⟨b3, 1, none⟩) hl3).trans ((cell_of_block hbx3 1).trans rfl), (hB.cell (p := ⟨b3, 2, none⟩) hl3).trans ((cell_of_block hbx3 2).trans rfl), (hB.cell (p := ⟨b3, 3, none⟩) hl3).trans ((cell_of_block hbx3 3).trans rfl), (hB.cell (p := ⟨b3, 4, none⟩) hl3).trans ((cell_of_block hbx3 4).trans rfl), (hB.cell (p := ⟨b3, 5, none⟩) hl3).trans ((cell_of_block hbx3 5).trans rfl), (hB.cell (p := ⟨b3, 6, none⟩) hl3).trans ((cell_of_block hbx3 6).trans rfl), (hB.cell (p := ⟨b3, 7, none⟩) hl3).trans ((cell_of_block hbx3 7).trans rfl), (hB.cell (p := ⟨b3, 8, none⟩) hl3).trans ((cell_of_block hbx3 8).trans rfl)⟩⟩
  clear k0 k1 k2 k3 k4 k5 k6 k7 k8 k9 k10 k11
  obtain ⟨⟨m0, m1, m2, m3, m4, m5, m6, m7, m8⟩, ⟨n0, n1, n2, n3, n4, n5, n6, n7, n8⟩⟩ := kD.out W3 (Below.refl _ _)
  rw [hW3, hb3]
  clear hW3 hb3 hbx3 HB83 hz8
  go_wp2_with (first
    | (go_at_call 73; refine Gives.use (equal_is (t := true) (IntsAt.below HST2.out.strips (by (repeat' (first | exact Below.refl _ _ | assumption | refine below_new ?_ _ | refine below_draw ?_ | refine below_tail (by assumption) ?_ | refine below_set ?_ (by first | omega | (simp <;> omega)) _)))) (IntsAt.below HST3.out.strips (by (repeat' (first | exact Below.refl _ _ | assumption | refine below_new ?_ _ | refine below_draw ?_ | refine below_tail (by assumption) ?_ | refine below_set ?_ (by first | omega | (simp <;> omega)) _)))) (by simp)) ?_; intro w9 hb9 hz9 hc9 hf9; clear hc9 hf9 hz9; have BX_9 : Below W3.heap.size W3 w9 := (by exact Below.trans (Below.refl W3.heap.size W3) (hb9.mono ((Below.refl W3.heap.size W3)).size)); clear hb9; clear m0 m1 m2 m3 m4 m5 m6 m7 m8 n0 n1 n2 n3 n4 n5 n6 n7 n8; obtain ⟨⟨m0, m1, m2, m3, m4, m5, m6, m7, m8⟩, ⟨n0, n1, n2, n3, n4, n5, n6, n7, n8⟩⟩ := kD.out _ BX_9)
    | (go_at_call 73; refine Gives.use (equal_is (t := true) (IntsAt.below HST2.out.laid (by (repeat' (first | exact Below.refl _ _ | assumption | refine below_new ?_ _ | refine below_draw ?_ | refine below_tail (by assumption) ?_ | refine below_set ?_ (by first | omega | (simp <;> omega)) _)))) (IntsAt.below HST3.out.laid (by (repeat' (first | exact Below.refl _ _ | assumption | refine below_new ?_ _ | refine below_draw ?_ | refine below_tail (by assumption) ?_ | refine below_set ?_ (by first | omega | (simp <;> omega)) _)))) (by simp)) ?_; intro w10 hb10 hz10 hc10 hf10; clear hc10 hf10 hz10; have BX_10 : Below W3.heap.size W3 w10 := (by exact Below.trans BX_9 (hb10.mono (BX_9).size)); clear hb10; clear m0 m1 m2 m3 m4 m5 m6 m7 m8 n0 n1 n2 n3 n4 n5 n6 n7 n8; obtain ⟨⟨m0, m1, m2, m3, m4, m5, m6, m7, m8⟩, ⟨n0, n1, n2, n3, n4, n5, n6, n7, n8⟩⟩ := kD.out _ BX_10)
    | (go_at_call 74; refine Gives.use (equalB_same (BoolsAt.below HST2.out.opn (by (repeat' (first | exact Below.refl _ _ | assumption | refine below_new ?_ _ | refine below_draw ?_ | refine below_tail (by assumption) ?_ | refine below_set ?_ (by first | omega | (simp <;> omega)) _)))) (BoolsAt.below HST3.out.opn (by (repeat' (first | exact Below.refl _ _ | assumption | refine below_new ?_ _ | refine below_draw ?_ | refine below_tail (by assumption) ?_ | refine below_set ?_ (by first | omega | (simp <;> omega)) _))))) ?_; intro w11 hb11 hz11 hc11 hf11; clear hc11 hf11 hz11; have BX_11 : Below W3.heap.size W3 w11 := (by exact Below.trans BX_10 (hb11.mono (BX_10).size)); clear hb11; clear m0 m1 m2 m3 m4 m5 m6 m7 m8 n0 n1 n2 n3 n4 n5 n6 n7 n8; obtain ⟨⟨m0, m1, m2, m3, m4, m5, m6, m7, m8⟩, ⟨n0, n1, n2, n3, n4, n5, n6, n7, n8⟩⟩ := kD.out _ BX_11))
  go_ret
  exact ⟨rfl, HBW.out.trans ((HBW3.out.trans (BX_11.mono HBW3.out.size)).mono HBW.out.size)⟩
set_option maxRecDepth 100000 in
set_option maxHeartbeats 8000000 in
theorem Audit_ff (m : Nat) (w : World) (B n : Nat) (x : Off) (h : OffS m w B n x) (hb : Base w) (hf : x.s.fixed = false) (hh : x.s.heard = false) :
    Gives Tryz.prog 43 #[.pointer (some ⟨B, 0, none⟩)] w (.bool true) := by
  have HB := Lib.hid hb
  have HM := Lib.hid h.2
  have HN := Lib.hid (newE_made h.2)
  have HRUN : Hid (runs (newO (n : Int).toNat x.c) x.os = some x) := h.2.run
  have h1n := h.2.n1
  have h8n := h.2.n8
  have hmo := money_of h.2 1
  obtain ⟨⟨ov, hin⟩, -⟩ := h
  have HL := Lib.hid (look_calls m w B n x ov hin)
  obtain ⟨fv, sv, g1, e1, g2, e2, g3, e3, hat⟩ := hin
  have HCAL := Lib.hid hat.cal
  have hBl := hat.lt
  have KC : Hid (w.cell? ⟨B, 2, none⟩ = some (.int .i64 x.c.first) ∧ w.cell? ⟨B, 3, none⟩ = some fv ∧ w.cell? ⟨B, 4, none⟩ = some sv) := ⟨(cell_of_block hat.box 2).trans rfl, (cell_of_block hat.box 3).trans rfl, (cell_of_block hat.box 4).trans rfl⟩
  clear hat
  obtain ⟨fa, fc, sa, sc, hav, -⟩ := HCAL.out.cells
  simp only [Value.agg.injEq, Array.mk.injEq, List.cons.injEq, and_true, true_and] at hav
  obtain ⟨rfl, rfl⟩ := hav
  unfold LookR stW at HL
  have HF := Lib.hid hf
  have HH := Lib.hid hh
  obtain ⟨cs, hcs⟩ : ∃ y, sumI (clmF x.s) = y := ⟨_, rfl⟩
  obtain ⟨ls, hls⟩ : ∃ y, sumI x.s.laid = y := ⟨_, rfl⟩
  rw [hcs, hls] at hmo
  clear hcs hls
  have HMO := Lib.hid hmo
  have hlc := hmo.lo
  have klt : decide (cs < ls) = false := decide_eq_false (by omega)
  have klt' : ¬ cs < ls := by omega
  have hwd : IntKind.i64.wrap (cs - ls) = cs - ls := by have := hmo.hi; have := hmo.l0; exact IntWalk.i64_in _ (by omega)
  have HNO := Lib.hid (hmo.no hh)
  have hen := (hmo.no hh).2
  have HE := Lib.hid hen
  rw [hf, hh, hen] at HL
  clear hen
  obtain ⟨mi, hmi⟩ : ∃ t, minF x.os = t := ⟨_, rfl⟩
  have HMI := Lib.hid hmi
  rw [hmi] at HL
  clear hmi hmo hlc hb hf hh
  go_enter Tryz.func43, Tryz.ntmps43
  go_upto_region 4 with (go_at_call 58; refine HL.out.mono ?_; rintro e1 w1 ⟨h1, d1, h2, d2, h3, d3, rfl, hs1, hb1⟩; have HS1 := Lib.hid hs1; clear hs1; have hz1 : w.heap.size ≤ w1.heap.size := hb1.size)
  obtain ⟨W2, hW2⟩ : ∃ W2, w1.alloc (.cells #[.int .i64 x.s.day, .slice (some ⟨h1, 0, none⟩) n d1, .slice (some ⟨h2, 0, none⟩) n d2, .int .i64 x.s.part, .bool false, .int .i64 x.s.stop, .bool false, .slice (some ⟨h3, 0, none⟩) n d3, .bool false] 90) = W2 := ⟨_, rfl⟩
  obtain ⟨b0, hb0⟩ : ∃ b0, w1.heap.size = b0 := ⟨_, rfl⟩
  have hbx : W2.heap[b0]? = some (.cells #[.int .i64 x.s.day, .slice (some ⟨h1, 0, none⟩) n d1, .slice (some ⟨h2, 0, none⟩) n d2, .int .i64 x.s.part, .bool false, .int .i64 x.s.stop, .bool false, .slice (some ⟨h3, 0, none⟩) n d3, .bool false] 90 (0, 0)) := by rw [← hW2, ← hb0]; exact alloc_new _ _ rfl
  have HB12 : Hid (Below w1.heap.size w1 W2) := by show Below _ _ _; rw [← hW2]; exact (Below.refl _ _).alloc (Nat.le_refl _) _
  have HBW : Hid (Below w.heap.size w W2) := hb1.trans (HB12.out.mono hb1.size)
  have HST : Hid (StAt w.heap.size W2 n x.s h1 d1 h2 d2 h3 d3) := HS1.out.below HB12.out
  have hl0 : b0 < W2.heap.size := by rw [← hW2, ← hb0]; simp
  have HCW : Hid (CalAt W2 (.agg #[.int .i64 x.c.first, .slice fa x.c.free.length fc, .slice sa x.c.still.length sc]) x.c) := HCAL.out.below HBW.out
  have HBB : Hid (Base W2) := HB.out.below HBW.out
  have hlB : B < W2.heap.size := Nat.lt_of_lt_of_le hBl HBW.out.size
  have HCL : Hid (∀ y, Below W2.heap.size W2 y → Calls Tryz.prog 66 #[.agg #[.int .i64 x.s.day, .slice (some ⟨h1, 0, none⟩) n d1, .slice (some ⟨h2, 0, none⟩) n d2, .int .i64 x.s.part, .bool false, .int .i64 x.s.stop, .bool false, .slice (some ⟨h3, 0, none⟩) n d3, .bool false]] y fun e w' => ∃ v, e = .returned v ∧ IntsT y.heap.size w' v (clmF x.s) ∧ Below y.heap.size y w') := by
    intro y fy
    have := claims_calls w.heap.size y n x.s h1 d1 h2 d2 h3 d3 (HST.out.below fy) HM.out.good
    unfold stW at this
    rw [HF.out, HH.out, HE.out] at this
    exact this
  have HOP : Hid (∀ y, Below W2.heap.size W2 y → Calls Tryz.prog 67 #[.agg #[.int .i64 x.s.day, .slice (some ⟨h1, 0, none⟩) n d1, .slice (some ⟨h2, 0, none⟩) n d2, .int .i64 x.s.part, .bool false, .int .i64 x.s.stop, .bool false, .slice (some ⟨h3, 0, none⟩) n d3, .bool false]] y fun e w' => ∃ v, e = .returned v ∧ IntsT y.heap.size w' v [] ∧ Below y.heap.size y w') := by
    intro y fy
    have := opened_calls w.heap.size y n x.s h1 d1 h2 d2 h3 d3 (HST.out.below fy)
    unfold stW at this
    rw [HF.out, HH.out, HE.out, HNO.out.1] at this
    exact this
  have kB : ∀ w', Below W2.heap.size W2 w' → (w'.cell? ⟨b0, 0, none⟩ = some (.int .i64 x.s.day) ∧ w'.cell? ⟨b0, 1, none⟩ = some (.slice (some ⟨h1, 0, none⟩) n d1) ∧ w'.cell? ⟨b0, 2, none⟩ = some (.slice (some ⟨h2, 0, none⟩) n d2) ∧ w'.cell? ⟨b0, 3, none⟩ = some (.int .i64 x.s.part) ∧ w'.cell? ⟨b0, 4, none⟩ = some (.bool false) ∧ w'.cell? ⟨b0, 5, none⟩ = some (.int .i64 x.s.stop) ∧ w'.cell? ⟨b0, 6, none⟩ = some (.bool false) ∧ w'.cell? ⟨b0, 7, none⟩ = some (.slice (some ⟨h3, 0, none⟩) n d3) ∧ w'.cell? ⟨b0, 8, none⟩ = some (.bool false) ∧ w'.cell? ⟨B, 2, none⟩ = some (.int .i64 x.c.first) ∧ w'.cell? ⟨B, 3, none⟩ = some (.slice fa x.c.free.length fc) ∧ w'.cell? ⟨B, 4, none⟩ = some (.slice sa x.c.still.length sc)) := fun w' hB => ⟨(hB.cell (p := ⟨b0, 0, none⟩) hl0).trans ((cell_of_block hbx 0).trans rfl), (hB.cell (p := ⟨b0, 1, none⟩) hl0).trans ((cell_of_block hbx 1).trans rfl), (hB.cell (p := ⟨b0, 2, none⟩) hl0).trans ((cell_of_block hbx 2).trans rfl), (hB.cell (p := ⟨b0, 3, none⟩) hl0).trans ((cell_of_block hbx 3).trans rfl), (hB.cell (p := ⟨b0, 4, none⟩) hl0).trans ((cell_of_block hbx 4).trans rfl), (hB.cell (p := ⟨b0, 5, none⟩) hl0).trans ((cell_of_block hbx 5).trans rfl), (hB.cell (p := ⟨b0, 6, none⟩) hl0).trans ((cell_of_block hbx 6).trans rfl), (hB.cell (p := ⟨b0, 7, none⟩) hl0).trans ((cell_of_block hbx 7).trans rfl), (hB.cell (p := ⟨b0, 8, none⟩) hl0).trans ((cell_of_block hbx 8).trans rfl), (hB.cell (p := ⟨B, 2, none⟩) hlB).trans ((HBW.out.cell (p := ⟨B, 2, none⟩) hBl).trans KC.out.1), (hB.cell (p := ⟨B, 3, none⟩) hlB).trans ((HBW.out.cell (p := ⟨B, 3, none⟩) hBl).trans KC.out.2.1), (hB.cell (p := ⟨B, 4, none⟩) hlB).trans ((HBW.out.cell (p := ⟨B, 4, none⟩) hBl).trans KC.out.2.2)⟩
  obtain ⟨k0, k1, k2, k3, k4, k5, k6, k7, k8, k9, k10, k11⟩ := kB W2 (Below.refl _ _)
  rw [hW2, hb0]
  clear hW2 hb0 hbx hb1 hz1
  have hmx := mixed
  go_region_held3 (fun w' => w'.cell? ⟨b0, 0, none⟩ = some (.int .i64 x.s.day) ∧ w'.cell? ⟨b0, 1, none⟩ = some (.slice (some ⟨h1, 0, none⟩) n d1) ∧ w'.cell? ⟨b0, 2, none⟩ = some (.slice (some ⟨h2, 0, none⟩) n d2) ∧ w'.cell? ⟨b0, 3, none⟩ = some (.int .i64 x.s.part) ∧ w'.cell? ⟨b0, 4, none⟩ = some (.bool false) ∧ w'.cell? ⟨b0, 5, none⟩ = some (.int .i64 x.s.stop) ∧ w'.cell? ⟨b0, 6, none⟩ = some (.bool false) ∧ w'.cell? ⟨b0, 7, none⟩ = some (.slice (some ⟨h3, 0, none⟩) n d3) ∧ w'.cell? ⟨b0, 8, none⟩ = some (.bool false) ∧ w'.cell? ⟨B, 2, none⟩ = some (.int .i64 x.c.first) ∧ w'.cell? ⟨B, 3, none⟩ = some (.slice fa x.c.free.length fc) ∧ w'.cell? ⟨B, 4, none⟩ = some (.slice sa x.c.still.length sc)) (first | go_keep | exact kB _ (by (repeat' (first | exact Below.refl _ _ | assumption | refine below_new ?_ _ | refine below_draw ?_ | refine below_tail (by assumption) ?_ | refine below_set ?_ (by first | omega | (simp <;> omega)) _))))
    ((first
      | (go_at_call 66; refine (HCL.out _ (by (repeat' (first | exact Below.refl _ _ | assumption | refine below_new ?_ _ | refine below_draw ?_ | refine below_tail (by assumption) ?_ | refine below_set ?_ (by first | omega | (simp <;> omega)) _)))).mono ?_; rintro e2 w2 ⟨v2, rfl, ⟨hi2, -⟩, hb2⟩)
      | (go_at_call 72; refine Same.use (total_is (hi2.below (by first | exact Below.refl _ _ | (repeat' (first | exact Below.refl _ _ | assumption | refine below_new ?_ _ | refine below_draw ?_ | refine below_tail (by assumption) ?_ | refine below_set ?_ (by first | omega | (simp <;> omega)) _)))) HMO.out.fa HMO.out.sa) ?_)
      | (go_at_call 72; refine Same.use (total_is (HST.out.laid.below (by (repeat' (first | exact Below.refl _ _ | assumption | refine below_new ?_ _ | refine below_draw ?_ | refine below_tail (by assumption) ?_ | refine below_set ?_ (by first | omega | (simp <;> omega)) _)))) HMO.out.fb HMO.out.sb) ?_)))
  clear k0 k1 k2 k3 k4 k5 k6 k7 k8 k9 k10 k11
  rename_i hq
  have BW_w2 : Below W2.heap.size W2 w2 := (by (repeat' (first | exact Below.refl _ _ | assumption | refine below_new ?_ _ | refine below_draw ?_ | refine below_tail (by assumption) ?_ | refine below_set ?_ (by first | omega | (simp <;> omega)) _)))
  obtain ⟨k0, k1, k2, k3, k4, k5, k6, k7, k8, k9, k10, k11⟩ := hq
  clear hi2 hb2
  go_upto_region 11 with ((go_at_call 67; refine Calls.mono (HOP.out _ (by (repeat' (first | exact Below.refl _ _ | assumption | refine below_new ?_ _ | refine below_draw ?_ | refine below_tail (by assumption) ?_ | refine below_set ?_ (by first | omega | (simp <;> omega)) _)))) ?_; rintro e3 w3 ⟨v3, rfl, ⟨hi3, -⟩, hb3⟩; obtain ⟨oa, oc, rfl⟩ := ints_none hi3; clear hi3; have BW_w3 : Below W2.heap.size W2 w3 := (by first | exact BW_w2.trans (hb3.mono BW_w2.size)); clear k0 k1 k2 k3 k4 k5 k6 k7 k8 k9 k10 k11; obtain ⟨k0, k1, k2, k3, k4, k5, k6, k7, k8, k9, k10, k11⟩ := kB _ BW_w3; clear hb3))
  go_region_held3 (fun w' => w'.cell? ⟨b0, 0, none⟩ = some (.int .i64 x.s.day) ∧ w'.cell? ⟨b0, 1, none⟩ = some (.slice (some ⟨h1, 0, none⟩) n d1) ∧ w'.cell? ⟨b0, 2, none⟩ = some (.slice (some ⟨h2, 0, none⟩) n d2) ∧ w'.cell? ⟨b0, 3, none⟩ = some (.int .i64 x.s.part) ∧ w'.cell? ⟨b0, 4, none⟩ = some (.bool false) ∧ w'.cell? ⟨b0, 5, none⟩ = some (.int .i64 x.s.stop) ∧ w'.cell? ⟨b0, 6, none⟩ = some (.bool false) ∧ w'.cell? ⟨b0, 7, none⟩ = some (.slice (some ⟨h3, 0, none⟩) n d3) ∧ w'.cell? ⟨b0, 8, none⟩ = some (.bool false) ∧ w'.cell? ⟨B, 2, none⟩ = some (.int .i64 x.c.first) ∧ w'.cell? ⟨B, 3, none⟩ = some (.slice fa x.c.free.length fc) ∧ w'.cell? ⟨B, 4, none⟩ = some (.slice sa x.c.still.length sc)) (first | go_keep | exact kB _ (by (repeat' (first | exact Below.refl _ _ | assumption | refine below_new ?_ _ | refine below_draw ?_ | refine below_tail (by assumption) ?_ | refine below_set ?_ (by first | omega | (simp <;> omega)) _))))
    ((go_at_call 25; refine Calls.mono (Replay_at HMI.out (CalAt.below HCW.out (by (repeat' (first | exact Below.refl _ _ | assumption | refine below_new ?_ _ | refine below_draw ?_ | refine below_tail (by assumption) ?_ | refine below_set ?_ (by first | omega | (simp <;> omega)) _)))) (Base.below HBB.out (by (repeat' (first | exact Below.refl _ _ | assumption | refine below_new ?_ _ | refine below_draw ?_ | refine below_tail (by assumption) ?_ | refine below_set ?_ (by first | omega | (simp <;> omega)) _)))) HN.out HRUN.out) ?_; rintro e7 w7 ⟨B2, rfl, ho7, hb7⟩))
  clear k0 k1 k2 k3 k4 k5 k6 k7 k8 k9 k10 k11
  rename_i hq
  have BW_w7 : Below W2.heap.size W2 w7 := (by (repeat' (first | exact Below.refl _ _ | assumption | refine below_new ?_ _ | refine below_draw ?_ | refine below_tail (by assumption) ?_ | refine below_set ?_ (by first | omega | (simp <;> omega)) _)))
  obtain ⟨k0, k1, k2, k3, k4, k5, k6, k7, k8, k9, k10, k11⟩ := hq
  clear hb7
  obtain ⟨⟨ov2, hin2⟩, -⟩ := ho7
  rw [Int.toNat_natCast] at hin2
  have HL2 := Lib.hid (look_calls _ _ B2 n x ov2 hin2)
  clear hin2
  unfold LookR stW at HL2
  rw [HF.out, HH.out, HE.out, HMI.out] at HL2
  go_upto_region 15 with (go_at_call 58; refine HL2.out.mono ?_; rintro e8 w8 ⟨j1, q1, j2, q2, j3, q3, rfl, hs8, hb8⟩; have HS8 := Lib.hid hs8; clear hs8; have BW_w8 : Below W2.heap.size W2 w8 := (by exact BW_w7.trans (hb8.mono BW_w7.size)); clear k0 k1 k2 k3 k4 k5 k6 k7 k8 k9 k10 k11; obtain ⟨k0, k1, k2, k3, k4, k5, k6, k7, k8, k9, k10, k11⟩ := kB _ BW_w8; have hz8 : b0 < w8.heap.size := Nat.lt_of_lt_of_le hl0 BW_w8.size; clear hb8)
  obtain ⟨W3, hW3⟩ : ∃ W3, w8.alloc (.cells #[.int .i64 x.s.day, .slice (some ⟨j1, 0, none⟩) n q1, .slice (some ⟨j2, 0, none⟩) n q2, .int .i64 x.s.part, .bool false, .int .i64 x.s.stop, .bool false, .slice (some ⟨j3, 0, none⟩) n q3, .bool false] 90) = W3 := ⟨_, rfl⟩
  obtain ⟨b3, hb3⟩ : ∃ b3, w8.heap.size = b3 := ⟨_, rfl⟩
  have hbx3 : W3.heap[b3]? = some (.cells #[.int .i64 x.s.day, .slice (some ⟨j1, 0, none⟩) n q1, .slice (some ⟨j2, 0, none⟩) n q2, .int .i64 x.s.part, .bool false, .int .i64 x.s.stop, .bool false, .slice (some ⟨j3, 0, none⟩) n q3, .bool false] 90 (0, 0)) := by rw [← hW3, ← hb3]; exact alloc_new _ _ rfl
  have HB83 : Below w8.heap.size w8 W3 := by rw [← hW3]; exact (Below.refl _ _).alloc (Nat.le_refl _) _
  have HBW3 : Hid (Below W2.heap.size W2 W3) := BW_w8.trans (HB83.mono BW_w8.size)
  have HST3 : Hid (StAt w7.heap.size W3 n x.s j1 q1 j2 q2 j3 q3) := HS8.out.below HB83
  have HST2 : Hid (StAt w.heap.size W3 n x.s h1 d1 h2 d2 h3 d3) := HST.out.below HBW3.out
  have hl3 : b3 < W3.heap.size := by rw [← hW3, ← hb3]; simp
  have hl03 : b0 < W3.heap.size := Nat.lt_of_lt_of_le hl0 HBW3.out.size
  have kD : Hid (∀ w', Below W3.heap.size W3 w' → ((w'.cell? ⟨b0, 0, none⟩ = some (.int .i64 x.s.day) ∧ w'.cell? ⟨b0, 1, none⟩ = some (.slice (some ⟨h1, 0, none⟩) n d1) ∧ w'.cell? ⟨b0, 2, none⟩ = some (.slice (some ⟨h2, 0, none⟩) n d2) ∧ w'.cell? ⟨b0, 3, none⟩ = some (.int .i64 x.s.part) ∧ w'.cell? ⟨b0, 4, none⟩ = some (.bool false) ∧ w'.cell? ⟨b0, 5, none⟩ = some (.int .i64 x.s.stop) ∧ w'.cell? ⟨b0, 6, none⟩ = some (.bool false) ∧ w'.cell? ⟨b0, 7, none⟩ = some (.slice (some ⟨h3, 0, none⟩) n d3) ∧ w'.cell? ⟨b0, 8, none⟩ = some (.bool false)) ∧ (w'.cell? ⟨b3, 0, none⟩ = some (.int .i64 x.s.day) ∧ w'.cell? ⟨b3, 1, none⟩ = some (.slice (some ⟨j1, 0, none⟩) n q1) ∧ w'.cell? ⟨b3, 2, none⟩ = some (.slice (some ⟨j2, 0, none⟩) n q2) ∧ w'.cell? ⟨b3, 3, none⟩ = some (.int .i64 x.s.part) ∧ w'.cell? ⟨b3, 4, none⟩ = some (.bool false) ∧ w'.cell? ⟨b3, 5, none⟩ = some (.int .i64 x.s.stop) ∧ w'.cell? ⟨b3, 6, none⟩ = some (.bool false) ∧ w'.cell? ⟨b3, 7, none⟩ = some (.slice (some ⟨j3, 0, none⟩) n q3) ∧ w'.cell? ⟨b3, 8, none⟩ = some (.bool false)))) := fun w' hB => ⟨⟨(hB.cell (p := ⟨b0, 0, none⟩) hl03).trans ((kB _ HBW3.out).1), (hB.cell (p := ⟨b0, 1, none⟩) hl03).trans ((kB _ HBW3.out).2.1), (hB.cell (p := ⟨b0, 2, none⟩) hl03).trans ((kB _ HBW3.out).2.2.1), (hB.cell (p := ⟨b0, 3, none⟩) hl03).trans ((kB _ HBW3.out).2.2.2.1), (hB.cell (p := ⟨b0, 4, none⟩) hl03).trans ((kB _ HBW3.out).2.2.2.2.1), (hB.cell (p := ⟨b0, 5, none⟩) hl03).trans ((kB _ HBW3.out).2.2.2.2.2.1), (hB.cell (p := ⟨b0, 6, none⟩) hl03).trans ((kB _ HBW3.out).2.2.2.2.2.2.1), (hB.cell (p := ⟨b0, 7, none⟩) hl03).trans ((kB _ HBW3.out).2.2.2.2.2.2.2.1), (hB.cell (p := ⟨b0, 8, none⟩) hl03).trans ((kB _ HBW3.out).2.2.2.2.2.2.2.2.1)⟩, ⟨(hB.cell (p := ⟨b3, 0, none⟩) hl3).trans ((cell_of_block hbx3 0).trans rfl), (hB.cell (p := ⟨b3, 1, none⟩) hl3).trans ((cell_of_block hbx3 1).trans rfl), (hB.cell (p := ⟨b3, 2, none⟩) hl3).trans ((cell_of_block hbx3 2).trans rfl), (hB.cell (p := ⟨b3, 3, none⟩) hl3).trans ((cell_of_block hbx3 3).trans rfl), (hB.cell (p := ⟨b3, 4, none⟩) hl3).trans ((cell_of_block hbx3 4).trans rfl), (hB.cell (p := ⟨b3, 5, none⟩) hl3).trans ((cell_of_block hbx3 5).trans rfl), (hB.cell (p := ⟨b3, 6, none⟩) hl3).trans ((cell_of_block hbx3 6).trans rfl), (hB.cell (p := ⟨b3, 7, none⟩) hl3).trans ((cell_of_block hbx3 7).trans rfl), (hB.cell (p := ⟨b3, 8, none⟩) hl3).trans ((cell_of_block hbx3 8).trans rfl)⟩⟩
  clear k0 k1 k2 k3 k4 k5 k6 k7 k8 k9 k10 k11
  obtain ⟨⟨m0, m1, m2, m3, m4, m5, m6, m7, m8⟩, ⟨n0, n1, n2, n3, n4, n5, n6, n7, n8⟩⟩ := kD.out W3 (Below.refl _ _)
  rw [hW3, hb3]
  clear hW3 hb3 hbx3 HB83 hz8
  go_wp2_with (first
    | (go_at_call 73; refine Gives.use (equal_is (t := true) (IntsAt.below HST2.out.strips (by (repeat' (first | exact Below.refl _ _ | assumption | refine below_new ?_ _ | refine below_draw ?_ | refine below_tail (by assumption) ?_ | refine below_set ?_ (by first | omega | (simp <;> omega)) _)))) (IntsAt.below HST3.out.strips (by (repeat' (first | exact Below.refl _ _ | assumption | refine below_new ?_ _ | refine below_draw ?_ | refine below_tail (by assumption) ?_ | refine below_set ?_ (by first | omega | (simp <;> omega)) _)))) (by simp)) ?_; intro w9 hb9 hz9 hc9 hf9; clear hc9 hf9 hz9; have BX_9 : Below W3.heap.size W3 w9 := (by exact Below.trans (Below.refl W3.heap.size W3) (hb9.mono ((Below.refl W3.heap.size W3)).size)); clear hb9; clear m0 m1 m2 m3 m4 m5 m6 m7 m8 n0 n1 n2 n3 n4 n5 n6 n7 n8; obtain ⟨⟨m0, m1, m2, m3, m4, m5, m6, m7, m8⟩, ⟨n0, n1, n2, n3, n4, n5, n6, n7, n8⟩⟩ := kD.out _ BX_9)
    | (go_at_call 73; refine Gives.use (equal_is (t := true) (IntsAt.below HST2.out.laid (by (repeat' (first | exact Below.refl _ _ | assumption | refine below_new ?_ _ | refine below_draw ?_ | refine below_tail (by assumption) ?_ | refine below_set ?_ (by first | omega | (simp <;> omega)) _)))) (IntsAt.below HST3.out.laid (by (repeat' (first | exact Below.refl _ _ | assumption | refine below_new ?_ _ | refine below_draw ?_ | refine below_tail (by assumption) ?_ | refine below_set ?_ (by first | omega | (simp <;> omega)) _)))) (by simp)) ?_; intro w10 hb10 hz10 hc10 hf10; clear hc10 hf10 hz10; have BX_10 : Below W3.heap.size W3 w10 := (by exact Below.trans BX_9 (hb10.mono (BX_9).size)); clear hb10; clear m0 m1 m2 m3 m4 m5 m6 m7 m8 n0 n1 n2 n3 n4 n5 n6 n7 n8; obtain ⟨⟨m0, m1, m2, m3, m4, m5, m6, m7, m8⟩, ⟨n0, n1, n2, n3, n4, n5, n6, n7, n8⟩⟩ := kD.out _ BX_10)
    | (go_at_call 74; refine Gives.use (equalB_same (BoolsAt.below HST2.out.opn (by (repeat' (first | exact Below.refl _ _ | assumption | refine below_new ?_ _ | refine below_draw ?_ | refine below_tail (by assumption) ?_ | refine below_set ?_ (by first | omega | (simp <;> omega)) _)))) (BoolsAt.below HST3.out.opn (by (repeat' (first | exact Below.refl _ _ | assumption | refine below_new ?_ _ | refine below_draw ?_ | refine below_tail (by assumption) ?_ | refine below_set ?_ (by first | omega | (simp <;> omega)) _))))) ?_; intro w11 hb11 hz11 hc11 hf11; clear hc11 hf11 hz11; have BX_11 : Below W3.heap.size W3 w11 := (by exact Below.trans BX_10 (hb11.mono (BX_10).size)); clear hb11; clear m0 m1 m2 m3 m4 m5 m6 m7 m8 n0 n1 n2 n3 n4 n5 n6 n7 n8; obtain ⟨⟨m0, m1, m2, m3, m4, m5, m6, m7, m8⟩, ⟨n0, n1, n2, n3, n4, n5, n6, n7, n8⟩⟩ := kD.out _ BX_11))
  go_ret
  exact ⟨rfl, HBW.out.trans ((HBW3.out.trans (BX_11.mono HBW3.out.size)).mono HBW.out.size)⟩
theorem Audit_calls {m : Nat} {w : World} {B n : Nat} {x : Off} (h : OffS m w B n x) (hb : Base w) :
    Gives Tryz.prog 43 #[.pointer (some ⟨B, 0, none⟩)] w (.bool true) := by
  cases hh : x.s.heard
  · cases hf : x.s.fixed
    · exact Audit_ff m w B n x h hb hf hh
    · exact Audit_tf m w B n x h hb hf hh
  · exact Audit_tt m w B n x h hb (h.2.good.hfix hh) hh
end Go.Proofs.YthooacpfmjpdmaaGreatDoor
