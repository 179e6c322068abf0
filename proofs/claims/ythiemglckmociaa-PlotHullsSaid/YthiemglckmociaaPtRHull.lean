/- What Hull of the document gives. Conditions: the list lies in memory as said. -/
import Derived.Test.YthiemglckmociaaPtHullA
import Derived.Test.YthiemglckmociaaPtRNormal2
import Derived.Test.YthiemglckmociaaPtBtw
import Derived.Test.YthiemglckmociaaPtChanged
namespace Go.Proofs.Ythiemglckmociaa
open Go.RowKit
attribute [local go_sem high] eql_pt neq_pt eqg_pt

/-- A point in a box of its own. -/
def PtBox (w : World) (b : Nat) (x : Int × Int) : Prop := w.heap[b]? = some (.cells #[.int .i64 x.1, .int .i64 x.2] 32 (0, 0))
theorem PtBox.lt {w : World} {b : Nat} {x : Int × Int} (h : PtBox w b x) : b < w.heap.size := (Array.getElem?_eq_some_iff.1 h).1
theorem PtBox.c0 {w : World} {b : Nat} {x : Int × Int} (h : PtBox w b x) : w.cell? ⟨b, 0, none⟩ = some (.int .i64 x.1) := (cell_of_block h 0).trans rfl
theorem PtBox.c1 {w : World} {b : Nat} {x : Int × Int} (h : PtBox w b x) : w.cell? ⟨b, 1, none⟩ = some (.int .i64 x.2) := (cell_of_block h 1).trans rfl
theorem PtBox.f0 {w : World} {b : Nat} {x : Int × Int} (h : PtBox w b x) (i : Nat) : w.frozen? ⟨b, i, none⟩ = false := frozen_of_block h i
theorem PtBox.below {w w' : World} {b : Nat} {x : Int × Int} (h : PtBox w b x) (hb : Below w.heap.size w w') : PtBox w' b x := (hb.block b h.lt).trans h
theorem PtBox.grown {w w' : World} {b : Nat} {x : Int × Int} {row : Option Nat} (h : PtBox w b x) (hg : w.grownBy w' row) (hr : row ≠ some b) : PtBox w' b x := (hg.block b h.lt (fun e => hr e.symm)).trans h
theorem PtBox.put {w : World} {b : Nat} {x : Int × Int} (h : PtBox w b x) (y : Int × Int) : PtBox ((w.setCell ⟨b, 0, none⟩ (.int .i64 y.1)).setCell ⟨b, 1, none⟩ (.int .i64 y.2)) b y := by
  have h1 := block_set h 0 (.int .i64 y.1)
  have h2 := block_set h1 1 (.int .i64 y.2)
  exact h2.trans rfl
theorem PtBox.other {w : World} {b b' : Nat} {x y : Int × Int} (h : PtBox w b x) (hn : b ≠ b') : PtBox ((w.setCell ⟨b', 0, none⟩ (.int .i64 y.1)).setCell ⟨b', 1, none⟩ (.int .i64 y.2)) b x := by
  unfold PtBox
  rw [Below.heap_setCell _ _ _ _ (by simpa using hn), Below.heap_setCell _ _ _ _ (by simpa using hn)]
  exact h
theorem PtBox.new (w : World) (x : Int × Int) {b : Nat} (hb : b = w.heap.size) : PtBox (w.alloc (.cells #[.int .i64 x.1, .int .i64 x.2] 32)) b x := by
  subst hb; exact World.alloc_heap_new w _
/-- One step of the document's search for the next corner. -/
def nextS (a nx x : Int × Int) : Int × Int := if x ≠ a ∧ (nx = a ∨ turn a nx x < 0 ∨ (turn a nx x = 0 ∧ onB a x nx = true)) then x else nx
def nxK (a : Int × Int) (l : List (Int × Int)) (k : Nat) : Int × Int := (l.take k).foldl (nextS a) a
theorem nxK_succ {a : Int × Int} {l : List (Int × Int)} {k : Nat} (h : k < l.length) : nxK a l (k + 1) = nextS a (nxK a l k) (gi l (0, 0) k) := by
  unfold nxK
  rw [List.take_add_one, List.foldl_append, List.getElem?_eq_getElem h, gi_lt h]
  rfl
theorem nxK_all (a : Int × Int) (l : List (Int × Int)) : nxK a l l.length = nextF a l := by unfold nxK nextF; rw [List.take_length]; rfl
theorem nxK_bd {a : Int × Int} {l : List (Int × Int)} (ha : bdP a) (hl : ∀ i, i < l.length → bdP (gi l (0, 0) i)) : ∀ k, k ≤ l.length → bdP (nxK a l k)
  | 0, _ => ha
  | k + 1, h => by
    rw [nxK_succ (by omega)]
    unfold nextS
    split
    · exact hl k (by omega)
    · exact nxK_bd ha hl k (by omega)
theorem nextS_eq (a nx x : Int × Int) : nextS a nx x = if (!(((x.1, x.2) : Int × Int) == (a.1, a.2)) && ((((nx.1, nx.2) : Int × Int) == (a.1, a.2)) || decide (turn a nx x < 0) || ((turn a nx x == 0) && onB a x nx))) = true then x else nx := by
  unfold nextS
  have e : ∀ p q : Int × Int, (((p.1, p.2) : Int × Int) == (q.1, q.2)) = true ↔ p = q := fun p q => by simp [Prod.ext_iff]
  congr 1
  simp only [Bool.and_eq_true, Bool.or_eq_true, Bool.not_eq_true', decide_eq_true_eq, beq_iff_eq, ← Bool.not_eq_true, ne_eq, or_assoc]
theorem anyN_succ (f : Nat → Bool) (k : Nat) : anyN f (k + 1) = (anyN f k || f k) := by
  unfold anyN; rw [List.range_succ, List.any_append]; simp
def flG (l : List (Int × Int)) (i k : Nat) : Bool := turn (gi l (0, 0) 0) (gi l (0, 0) i) (gi l (0, 0) k) != 0
def flR (l : List (Int × Int)) (i : Nat) : Bool := anyN (flG l i) l.length
theorem flatB_not (l : List (Int × Int)) : flatB l = !(anyN (flR l) l.length) := rfl
theorem take_cor {h : List (Int × Int)} {i : Nat} (hi : i < h.length) : h.take (i + 1) = h.take i ++ [cor h i] := by
  rw [List.take_add_one, List.getElem?_eq_getElem hi, cor_lt hi, gi_lt hi]; rfl
theorem pt_ne {x y : Int × Int} (h : x ≠ y) : (((x.1, x.2) : Int × Int) == (y.1, y.2)) = false := by
  have : ¬ ((x.1, x.2) : Int × Int) = (y.1, y.2) := fun e => h (by simpa [Prod.ext_iff] using e)
  simpa using this
theorem pt_eq (x : Int × Int) : (((x.1, x.2) : Int × Int) == (x.1, x.2)) = true := by simp
theorem begin_is {l h : List (Int × Int)} (k : HullOK l h) : gi l (0, 0) (fstK l (l.length - 1)) = cor h 0 ∧ 0 < l.length := by
  obtain ⟨z, h1, h2, h3⟩ := k.min
  have h0 := List.length_pos_of_mem h2
  have hf := fstK_le l (l.length - 1)
  have hm : gi l (0, 0) (fstK l (l.length - 1)) ∈ l := by rw [gi_lt (by omega)]; exact List.getElem_mem _
  rw [h1]
  refine ⟨?_, h0⟩
  rcases h3 _ hm with e | e
  · exact e
  · obtain ⟨j, hj, hz⟩ := List.getElem_of_mem h2
    have := fstK_min l (l.length - 1) j (by omega)
    rw [gi_lt hj, hz] at this
    exact absurd e this
set_option maxHeartbeats 8000000 in
set_option maxRecDepth 100000 in
theorem rHull_calls (v : Value) (l : List (Int × Int)) (w : World) (h : PairsAt w v l) : GivesPts Try.prog 54 #[v] w (hullL l) (hullE l) := by
  have HP := Lib.hid h
  obtain ⟨k1, k2, -, k4, k5⟩ := hullE_cases l
  obtain ⟨sa, cap, rfl, hlc, hcm, -⟩ := h
  unfold GivesPts
  by_cases h10 : 10 < l.length
  · have x0 : decide ((10 : Int) < (l.length : Int)) = true := decide_eq_true (by omega)
    have HK := Lib.hid (k1 h10)
    clear k1 k2 k4 k5
    go_enter Try.func54, Try.ntmps54
    go_wp2_with fail
    refine bodyPost_ret (v := .tuple #[.slice none 0 0, .int .i64 3]) (by simp [results, Try.f54, go_sem]) rfl ?_
    exact ⟨_, by rw [HK.out.1], by rw [HK.out.2]; exact World.ownsRow_nil _ _ _ _, Below.refl _ _⟩
  · have x0 : decide ((10 : Int) < (l.length : Int)) = false := decide_eq_false (by omega)
    have hl10 : l.length ≤ 10 := by omega
    obtain ⟨rb, hrb⟩ : ∃ b, rangedB l = b := ⟨_, rfl⟩
    have HRB := Lib.hid hrb
    cases rb
    · have HK := Lib.hid (k2 (by omega) hrb)
      clear k1 k2 k4 k5 hrb
      go_enter Try.func54, Try.ntmps54
      go_wp2_with (go_at_call 70; (with_reducible refine (ranged_is _ (HP.out.below (by (repeat' (first | exact Below.refl _ _ | assumption | refine below_new ?_ _ | refine below_draw ?_ | refine below_tail (by assumption) ?_ | refine below_set ?_ (by first | omega | (simp <;> omega)) _)))) HRB.out).use ?_); intro w1 hb1 hz1 hc1 hf1; clear hc1 hf1)
      refine bodyPost_ret (v := .tuple #[.slice none 0 0, .int .i64 1]) (by simp [results, Try.f54, go_sem]) rfl ?_
      exact ⟨_, by rw [HK.out.1], by rw [HK.out.2]; exact World.ownsRow_nil _ _ _ _, by (repeat' (first | exact Below.refl _ _ | assumption | refine below_new ?_ _ | refine below_draw ?_ | refine below_tail (by assumption) ?_ | refine below_set ?_ (by first | omega | (simp <;> omega)) _))⟩
    · have hbd : ∀ i, i < l.length → bdP (gi l (0, 0) i) := fun i hi => by
        rw [gi_lt hi]
        have := inR_iff.1 (List.all_eq_true.1 hrb _ (List.getElem_mem hi))
        unfold bdP; omega
      have HBD := Lib.hid hbd
      have K4 := Lib.hid (k4 (by omega) hrb)
      have K5 := Lib.hid (k5 (by omega) hrb)
      have HFB := Lib.hid (flatB_not l)
      clear k1 k2 k4 k5 hrb hbd h10
      go_enter Try.func54, Try.ntmps54
      go_wp2_with (go_at_call 70; (with_reducible refine (ranged_is _ (HP.out.below (by (repeat' (first | exact Below.refl _ _ | assumption | refine below_new ?_ _ | refine below_draw ?_ | refine below_tail (by assumption) ?_ | refine below_set ?_ (by first | omega | (simp <;> omega)) _)))) HRB.out).use ?_); intro w1 hb1 hz1 hc1 hf1; clear hc1 hf1)
      have hB1 : Below w.heap.size w w1 := by (repeat' (first | exact Below.refl _ _ | assumption | refine below_new ?_ _ | refine below_draw ?_ | refine below_tail (by assumption) ?_ | refine below_set ?_ (by first | omega | (simp <;> omega)) _))
      clear hb1 hz1
      go_loopw [4, 5] (fun fl i wr => ∃ k : Nat, k ≤ l.length ∧ i = .int .i64 k ∧ (∃ b, fl = .bool b ∧ Hid (b = !(anyN (flR l) k))) ∧ Below w.heap.size w wr) (fun _ i _ => l.length - (intOf i).toNat)
      case atStart => exact ⟨0, Nat.zero_le _, rfl, ⟨_, rfl, rfl⟩, hB1⟩
      case round =>
        clear hB1
        obtain ⟨k, hk, rfl, ⟨b, rfl, hbk⟩, hbw⟩ := hrel
        by_cases hlt : k < l.length
        · have hg : decide ((k : Int) < (l.length : Int)) = true := decide_eq_true (by omega)
          have HR := Lib.hid (anyN_succ (flR l) k)
          go_wp2_with fail
          go_loopw [4, 6] (fun fl i wr => ∃ r : Nat, r ≤ l.length ∧ i = .int .i64 r ∧ (∃ c, fl = .bool c ∧ Hid (c = (b && !(anyN (flG l k) r)))) ∧ Below w.heap.size w wr) (fun _ i _ => l.length - (intOf i).toNat)
          case atStart => exact ⟨0, Nat.zero_le _, rfl, ⟨_, rfl, (Bool.and_true b).symm⟩, hbw⟩
          case round =>
            obtain ⟨r, hr, rfl, ⟨c, rfl, hcr⟩, hbw2⟩ := hrel
            by_cases hlt2 : r < l.length
            · have hg2 : decide ((r : Int) < (l.length : Int)) = true := decide_eq_true (by omega)
              have HS := Lib.hid (anyN_succ (flG l k) r)
              cases c
              · go_wp2_with fail
                refine region_q mixed (by kernel_rfl) ?_
                repeat (go_big_quiet_step (fail))
                refine wpQuiet_nil ?_
                intro wq hbq
                go_wp2_with fail
                go_roundw
                case rel => exact ⟨r + 1, by omega, by go_num, ⟨_, rfl, by
                  unfold Hid; rw [HS.out]
                  have := hcr.out
                  cases b
                  · rfl
                  · cases e : anyN (flG l k) r
                    · rw [e] at this; cases this
                    · rfl⟩, by (repeat' (first | exact Below.refl _ _ | assumption | refine below_new ?_ _ | refine below_draw ?_ | refine below_tail (by assumption) ?_ | refine below_set ?_ (by first | omega | (simp <;> omega)) _))⟩
                case measure => simp [intOf]; omega
              · obtain ⟨b0, o0, e1, hb0, a0, a1⟩ := HP.out.cellB hbw2 (show 0 < l.length by omega)
                obtain ⟨b1, o1, e2, _, a2, a3⟩ := HP.out.cellB hbw2 hlt
                subst e1
                cases e2
                obtain ⟨b1, o1, e2, _, a4, a5⟩ := HP.out.cellB hbw2 hlt2
                cases e2
                simp only [Nat.zero_mul, Nat.add_zero] at a0 a1
                have q0 := fun d os => cell_regrown a0 d os
                have q1 := fun d os => cell_regrown a1 d os
                have q2 := fun d os => cell_regrown a2 d os
                have q3 := fun d os => cell_regrown a3 d os
                have q4 := fun d os => cell_regrown a4 d os
                have q5 := fun d os => cell_regrown a5 d os
                have HA := HBD.out 0 (by omega)
                have HB := HBD.out k hlt
                have HC := HBD.out r hlt2
                have HGD : Hid (flG l k r = (turn (gi l (0, 0) 0) (gi l (0, 0) k) (gi l (0, 0) r) != 0)) := rfl
                obtain ⟨t, ht⟩ : ∃ t, turn (gi l (0, 0) 0) (gi l (0, 0) k) (gi l (0, 0) r) = t := ⟨_, rfl⟩
                have HTT := Lib.hid ht
                rw [ht] at HGD
                have hl0 : (0 : Int) < (l.length : Int) := by omega
                clear ht a0 a1 a2 a3 a4 a5
                cases hd : (t == 0)
                all_goals
                  have HD := Lib.hid hd
                  go_wp2_with fail
                  refine region_q mixed (by kernel_rfl) ?_
                  repeat (go_big_quiet_step ((go_at_call 89; exact Calls.regrown_of (rturn_is _ HA HB HC HTT.out))))
                  refine wpQuiet_nil ?_
                  intro wq hbq
                  clear q0 q1 q2 q3 q4 q5
                  go_wp2_with fail
                  go_roundw
                  case rel => exact ⟨r + 1, by omega, by go_num, ⟨_, rfl, by
                    unfold Hid; rw [HS.out, HGD.out, bne, HD.out]
                    have := hcr.out
                    cases b
                    · cases this
                    · cases e : anyN (flG l k) r
                      · rfl
                      · rw [e] at this; cases this⟩, by (repeat' (first | exact Below.refl _ _ | assumption | refine below_new ?_ _ | refine below_draw ?_ | refine below_tail (by assumption) ?_ | refine below_set ?_ (by first | omega | (simp <;> omega)) _))⟩
                  case measure => simp [intOf]; omega
            · have hg2 : decide ((r : Int) < (l.length : Int)) = false := decide_eq_false (by omega)
              obtain rfl : r = l.length := by omega
              go_wp2_with fail
              go_roundw
              case rel => exact ⟨k + 1, by omega, by go_num, ⟨_, rfl, by
                unfold Hid; rw [HR.out, hcr.out, hbk.out, Bool.not_or]; rfl⟩, hbw2⟩
              case measure => simp [intOf]; omega
        · have hg : decide ((k : Int) < (l.length : Int)) = false := decide_eq_false (by omega)
          obtain rfl : k = l.length := by omega
          have hfb : flatB l = b := by rw [HFB.out, hbk.out]
          clear hbk
          have HFH := Lib.hid (flat_hull l)
          rw [hfb] at HFH
          clear hfb
          cases b
          · have K := Lib.hid (K5.out fun c => by have := HFH.out.2 c; cases this)
            have hok := hull_ok K.out.1
            have HOK := Lib.hid hok
            have HBG := Lib.hid (begin_is hok)
            have hn0 := (begin_is hok).2
            have HL : Hid (hullL l = hullF (sortC l)) := K.out.2
            obtain ⟨hh, hhe⟩ : ∃ hh, hullF (sortC l) = hh := ⟨_, rfl⟩
            rw [hhe] at HOK HBG HL
            clear hok hhe HFH
            have hh3 := HOK.out.q.three
            have hh10 := HOK.out.val.hi
            have hf0 := fstK_le l (l.length - 1)
            obtain ⟨f, hf⟩ : ∃ f, fstK l (l.length - 1) = f := ⟨_, rfl⟩
            have HF := Lib.hid hf
            rw [hf] at hf0 HBG
            clear hf
            have hfl : f < l.length := by omega
            have hg3 : gi l (0, 0) f = cor hh 0 := HBG.out.1
            obtain ⟨b0, o0, rfl, hb0, a0, a1⟩ := HP.out.cellAt hfl
            rw [hg3] at a0 a1
            have HCB : Hid (∀ i, bdP (cor hh i)) := HOK.out.val.bd
            have HNX : Hid (∀ i, nextF (cor hh i) l = cor hh (i + 1)) := fun i => hull_next HOK.out i
            obtain ⟨i0, hi0, hz0, hi1, hi2⟩ := info_parts infoPoint
            obtain ⟨z, hz⟩ : ∃ z, cor hh 0 = z := ⟨_, rfl⟩
            have HZ := Lib.hid hz
            rw [hz] at a0 a1
            clear hz hg3
            go_wp2_with (first | (go_at_call 101; (with_reducible refine (first_is _ (HP.out.below (by (repeat' (first | exact Below.refl _ _ | assumption | refine below_new ?_ _ | refine below_draw ?_ | refine below_tail (by assumption) ?_ | refine below_set ?_ (by first | omega | (simp <;> omega)) _)))) hn0 (by omega) HF.out).use ?_); intro w2 hb2 hz2 hc2 hf2; (try simp at hz2); have a0 := (hc2 b0 (o0 + f * 2) (by have := hbw.size; omega)).trans ((hbw.cell (p := ⟨b0, o0 + f * 2, none⟩) hb0).trans a0); have a1 := (hc2 b0 (o0 + f * 2 + 1) (by have := hbw.size; omega)).trans ((hbw.cell (p := ⟨b0, o0 + f * 2 + 1, none⟩) hb0).trans a1); clear hc2 hf2))
            -- LOOP
            obtain ⟨W0, hW0⟩ : ∃ W0, ((w2.alloc (.cells #[.int .i64 z.1, .int .i64 z.2] 32)).alloc (.cells #[.int .i64 z.1, .int .i64 z.2] 32)).alloc (.cells #[.int .i64 z.1, .int .i64 z.2] 32) = W0 := ⟨_, rfl⟩
            rw [hW0]
            have hB0 : Below w.heap.size w W0 := by rw [← hW0]; (repeat' (first | exact Below.refl _ _ | assumption | refine below_new ?_ _ | refine below_draw ?_ | refine below_tail (by assumption) ?_ | refine below_set ?_ (by first | omega | (simp <;> omega)) _))
            have p0 : PtBox W0 w2.heap.size z := by rw [← hW0]; exact ((PtBox.new w2 z rfl).below (by (repeat' (first | exact Below.refl _ _ | assumption | refine below_new ?_ _ | refine below_draw ?_ | refine below_tail (by assumption) ?_ | refine below_set ?_ (by first | omega | (simp <;> omega)) _)))).below (by (repeat' (first | exact Below.refl _ _ | assumption | refine below_new ?_ _ | refine below_draw ?_ | refine below_tail (by assumption) ?_ | refine below_set ?_ (by first | omega | (simp <;> omega)) _)))
            have p1 : PtBox W0 (w2.heap.size + 1 + 1) z := by rw [← hW0]; exact PtBox.new _ z (by simp)
            have p2 : W0.ownsRow (w2.heap.size + 1) 32 2 (.slice (some ⟨w2.heap.size + 1, 0, none⟩) 1 1) (0 + 1) (cells2 (hh.take (0 + 1))) := by
              rw [take_cor (h := hh) (i := 0) (by omega), HZ.out, ← hW0]
              have := (World.ownsRow_lit (base := w2.heap.size + 1) (e := 32) (size := 2) (w2.alloc (.cells #[.int .i64 z.1, .int .i64 z.2] 32)) #[.int .i64 z.1, .int .i64 z.2] 1 (by simp) (by decide) (by simp)).alloc (.cells #[.int .i64 z.1, .int .i64 z.2] 32)
              simpa [cells2] using this
            have hwB : w.heap.size ≤ w2.heap.size := by have := hbw.size; omega
            clear hW0 hb2 hz2
            go_loopw [8, 9] (fun s a wr => ∃ (i pb : Nat), i < hh.length ∧ a = .pointer (some ⟨pb, 0, none⟩) ∧ PtBox wr pb (cor hh i) ∧ PtBox wr w2.heap.size z ∧ wr.ownsRow (w2.heap.size + 1) 32 2 s (i + 1) (cells2 (hh.take (i + 1))) ∧ s.ownBlock ≠ some pb ∧ w2.heap.size < pb ∧ Below w.heap.size w wr) (fun s _ _ => hh.length + 1 - lenV s)
            case atStart => exact ⟨0, w2.heap.size + 1 + 1, by omega, rfl, by rw [HZ.out]; exact p1, p0, p2, by simp [Value.ownBlock], by omega, hB0⟩
            case round =>
              clear p0 p1 p2 hB0 a0 a1
              obtain ⟨i, pb, hi, rfl, hA1, hBg, hown, hne, hpb, hbw1⟩ := hrel
              have HPD := Lib.hid (HCB.out i)
              obtain ⟨pa, hpa⟩ : ∃ pa, cor hh i = pa := ⟨_, rfl⟩
              have HPA := Lib.hid hpa
              rw [hpa] at hA1 HPD
              clear hpa
              obtain ⟨sx, cx, rfl⟩ := own_slice hown
              obtain ⟨wr1, hwr1⟩ : ∃ w, w = wr := ⟨_, rfl⟩
              subst hwr1
              have d0 := hA1.c0
              have d1 := hA1.c1
              have hnr0 : (Value.slice sx (i + 1) cx).ownBlock ≠ some wr1.heap.size := ne_new hown (Nat.le_refl _)
              go_wp2_with fail
              obtain ⟨pn, hpn⟩ : ∃ pn, pn = wr1.heap.size := ⟨_, rfl⟩
              have hs1 := hbw1.size
              have n1 : PtBox (wr1.alloc (.cells #[.int .i64 pa.1, .int .i64 pa.2] 32)) pn pa := PtBox.new _ _ hpn
              have n2 := hA1.below (by (repeat' (first | exact Below.refl _ _ | assumption | refine below_new ?_ _ | refine below_draw ?_ | refine below_tail (by assumption) ?_ | refine below_set ?_ (by first | omega | (simp <;> omega)) _)) : Below wr1.heap.size wr1 (wr1.alloc (.cells #[.int .i64 pa.1, .int .i64 pa.2] 32)))
              have n3 := hBg.below (by (repeat' (first | exact Below.refl _ _ | assumption | refine below_new ?_ _ | refine below_draw ?_ | refine below_tail (by assumption) ?_ | refine below_set ?_ (by first | omega | (simp <;> omega)) _)) : Below wr1.heap.size wr1 (wr1.alloc (.cells #[.int .i64 pa.1, .int .i64 pa.2] 32)))
              have n4 := hown.alloc (.cells #[.int .i64 pa.1, .int .i64 pa.2] 32)
              have n5 : Below w.heap.size w (wr1.alloc (.cells #[.int .i64 pa.1, .int .i64 pa.2] 32)) := by (repeat' (first | exact Below.refl _ _ | assumption | refine below_new ?_ _ | refine below_draw ?_ | refine below_tail (by assumption) ?_ | refine below_set ?_ (by first | omega | (simp <;> omega)) _))
              have hnb : pb ≠ pn := by have := hA1.lt; omega
              have hnB : w2.heap.size ≠ pn := by have := hBg.lt; omega
              have hnr : (Value.slice sx (i + 1) cx).ownBlock ≠ some pn := by rw [hpn]; exact hnr0
              have hwpn : w.heap.size ≤ pn := by omega
              rw [← hpn]
              generalize wr1.alloc (.cells #[.int .i64 pa.1, .int .i64 pa.2] 32) = W2 at *
              clear d0 d1 hnr0 hA1 hBg hown hbw1 hs1 hpn
              go_loopw [11] (fun a wr => ∃ k : Nat, k ≤ l.length ∧ a = .int .i64 k ∧ PtBox wr pn (nxK pa l k) ∧ PtBox wr pb pa ∧ PtBox wr w2.heap.size z ∧ wr.ownsRow (w2.heap.size + 1) 32 2 (.slice sx (i + 1) cx) (i + 1) (cells2 (hh.take (i + 1))) ∧ Below w.heap.size w wr) (fun a _ => l.length - (intOf a).toNat)
              case atStart => exact ⟨0, Nat.zero_le _, rfl, n1, n2, n3, n4, n5⟩
              case round =>
                clear n1 n2 n3 n4 n5
                obtain ⟨wr2, hwr2⟩ : ∃ w, w = wr := ⟨_, rfl⟩
                subst hwr2
                obtain ⟨k, hk, rfl, hN, hA2, hB2, hown2, hbw2⟩ := hrel
                by_cases hlt : k < l.length
                · have hg : decide ((k : Int) < (l.length : Int)) = true := decide_eq_true (by omega)
                  obtain ⟨b1, o1, e1, hg1, g0, g1⟩ := HP.out.cellB hbw2 hlt
                  cases e1
                  have hg2 : b0 < wr2.heap.size := Nat.lt_of_lt_of_le hg1 hbw2.size
                  have HSU := Lib.hid (nxK_succ (a := pa) hlt)
                  have HB := nxK_bd HPD.out HBD.out k hk
                  have HC := HBD.out k hlt
                  have HA := HPD.out
                  obtain ⟨nx, hnx⟩ : ∃ nx, nxK pa l k = nx := ⟨_, rfl⟩
                  rw [hnx] at hN HB HSU
                  obtain ⟨x, hx⟩ : ∃ x, gi l (0, 0) k = x := ⟨_, rfl⟩
                  rw [hx] at g0 g1 HC HSU
                  have HNS := Lib.hid (nextS_eq pa nx x)
                  obtain ⟨t, ht⟩ : ∃ t, turn pa nx x = t := ⟨_, rfl⟩
                  have HT := Lib.hid ht
                  rw [ht] at HNS
                  obtain ⟨v5, ho⟩ : ∃ b, onB pa x nx = b := ⟨_, rfl⟩
                  have HO := Lib.hid ho
                  rw [ho] at HNS
                  obtain ⟨v1, e1⟩ : ∃ b, (((x.1, x.2) : Int × Int) == (pa.1, pa.2)) = b := ⟨_, rfl⟩
                  obtain ⟨v2, e2⟩ : ∃ b, (((nx.1, nx.2) : Int × Int) == (pa.1, pa.2)) = b := ⟨_, rfl⟩
                  obtain ⟨v3, e3⟩ : ∃ b, decide (t < 0) = b := ⟨_, rfl⟩
                  obtain ⟨v4, e4⟩ : ∃ b, (t == 0) = b := ⟨_, rfl⟩
                  have q0 := fun d os => cell_regrown hN.c0 d os
                  have q1 := fun d os => cell_regrown hN.c1 d os
                  have q2 := fun d os => cell_regrown hA2.c0 d os
                  have q3 := fun d os => cell_regrown hA2.c1 d os
                  have q4 := fun d os => cell_regrown g0 d os
                  have q5 := fun d os => cell_regrown g1 d os
                  have q6 := True.intro
                  have q7 := True.intro
                  clear hnx hx ht ho
                  rcases (show (v1 = true) ∨ (v1 = false ∧ v2 = true) ∨ (v1 = false ∧ v2 = false ∧ v3 = true) ∨ (v1 = false ∧ v2 = false ∧ v3 = false ∧ v4 = false) ∨ (v1 = false ∧ v2 = false ∧ v3 = false ∧ v4 = true ∧ v5 = true) ∨ (v1 = false ∧ v2 = false ∧ v3 = false ∧ v4 = true ∧ v5 = false) by cases v1 <;> cases v2 <;> cases v3 <;> cases v4 <;> cases v5 <;> simp) with rfl | ⟨rfl, rfl⟩ | ⟨rfl, rfl, rfl⟩ | ⟨rfl, rfl, rfl, rfl⟩ | ⟨rfl, rfl, rfl, rfl, rfl⟩ | ⟨rfl, rfl, rfl, rfl, rfl⟩
                  · have hr : nextS pa nx x = nx := by rw [HNS.out]; simp [e1, e2, e3, e4]
                    have HR := Lib.hid hr
                    clear hr
                    go_wp2_with fail
                    refine region_q mixed (by kernel_rfl) ?_
                    repeat (go_big_quiet_step (first | (go_at_call 89; exact Calls.regrown_of (rturn_is _ HA HB HC HT.out)) | (go_at_call 102; exact Calls.regrown_of (ron_is _ HB HA HC HO.out))))
                    refine wpQuiet_nil ?_
                    intro wq hbq
                    clear q0 q1 q2 q3 q4 q5 q6 q7
                    have hNq := hN.below hbq
                    have hAq := hA2.below hbq
                    have g0q := (hbq.cell (p := ⟨b0, o0 + k * 2, none⟩) hg2).trans g0
                    have g1q := (hbq.cell (p := ⟨b0, o0 + k * 2 + 1, none⟩) hg2).trans g1
                    have q0 := fun d os => cell_regrown hNq.c0 d os
                    have q1 := fun d os => cell_regrown hNq.c1 d os
                    have q2 := fun d os => cell_regrown hAq.c0 d os
                    have q3 := fun d os => cell_regrown hAq.c1 d os
                    have q4 := fun d os => cell_regrown g0q d os
                    have q5 := fun d os => cell_regrown g1q d os
                    have HNQ := Lib.hid hNq
                    have HAQ := Lib.hid hAq
                    have HBQ := Lib.hid (hB2.below hbq)
                    have HOQ := Lib.hid (own_below hown2 hbq)
                    have HWQ := Lib.hid (show Below w.heap.size w wq by (repeat' (first | exact Below.refl _ _ | assumption | refine below_new ?_ _ | refine below_draw ?_ | refine below_tail (by assumption) ?_ | refine below_set ?_ (by first | omega | (simp <;> omega)) _)))
                    have HG0 := Lib.hid g0q
                    have HG1 := Lib.hid g1q
                    have hgq : b0 < wq.heap.size := Nat.lt_of_lt_of_le hg2 hbq.size
                    clear hNq hAq g0q g1q
                    go_wp2_with fail
                    refine region_q mixed (by kernel_rfl) ?_
                    repeat (go_big_quiet_step (first | (go_at_call 89; exact Calls.regrown_of (rturn_is _ HA HB HC HT.out)) | (go_at_call 102; exact Calls.regrown_of (ron_is _ HB HA HC HO.out))))
                    refine wpQuiet_nil ?_
                    intro wz hbz
                    clear q0 q1 q2 q3 q4 q5
                    have hNz := HNQ.out.below hbz
                    have c0 := hNz.c0
                    have c1 := hNz.c1
                    have f0 := hNz.f0 0
                    have f1 := hNz.f0 1
                    have hlz := hNz.lt
                    have y0 := (hbz.cell (p := ⟨b0, o0 + k * 2, none⟩) hgq).trans HG0.out
                    have y1 := (hbz.cell (p := ⟨b0, o0 + k * 2 + 1, none⟩) hgq).trans HG1.out
                    have HNZ := Lib.hid hNz
                    have HWZ := Lib.hid (show Below w.heap.size w wz from HWQ.out.trans (hbz.mono HWQ.out.size))
                    have HAZ := Lib.hid (HAQ.out.below hbz)
                    have HBZ := Lib.hid (HBQ.out.below hbz)
                    have HOZ := Lib.hid (own_below HOQ.out hbz)
                    clear hNz
                    go_wp2_with fail
                    go_roundw
                    case rel => exact ⟨k + 1, by omega, by go_num, by rw [HSU.out, HR.out]; exact HNZ.out, HAZ.out, HBZ.out, HOZ.out, HWZ.out⟩
                    case measure => simp [intOf]; omega
                  · have hr : nextS pa nx x = x := by rw [HNS.out]; simp [e1, e2, e3, e4]
                    have HR := Lib.hid hr
                    clear hr
                    go_wp2_with fail
                    refine region_q mixed (by kernel_rfl) ?_
                    repeat (go_big_quiet_step (first | (go_at_call 89; exact Calls.regrown_of (rturn_is _ HA HB HC HT.out)) | (go_at_call 102; exact Calls.regrown_of (ron_is _ HB HA HC HO.out))))
                    refine wpQuiet_nil ?_
                    intro wq hbq
                    clear q0 q1 q2 q3 q4 q5 q6 q7
                    have hNq := hN.below hbq
                    have hAq := hA2.below hbq
                    have g0q := (hbq.cell (p := ⟨b0, o0 + k * 2, none⟩) hg2).trans g0
                    have g1q := (hbq.cell (p := ⟨b0, o0 + k * 2 + 1, none⟩) hg2).trans g1
                    have q0 := fun d os => cell_regrown hNq.c0 d os
                    have q1 := fun d os => cell_regrown hNq.c1 d os
                    have q2 := fun d os => cell_regrown hAq.c0 d os
                    have q3 := fun d os => cell_regrown hAq.c1 d os
                    have q4 := fun d os => cell_regrown g0q d os
                    have q5 := fun d os => cell_regrown g1q d os
                    have HNQ := Lib.hid hNq
                    have HAQ := Lib.hid hAq
                    have HBQ := Lib.hid (hB2.below hbq)
                    have HOQ := Lib.hid (own_below hown2 hbq)
                    have HWQ := Lib.hid (show Below w.heap.size w wq by (repeat' (first | exact Below.refl _ _ | assumption | refine below_new ?_ _ | refine below_draw ?_ | refine below_tail (by assumption) ?_ | refine below_set ?_ (by first | omega | (simp <;> omega)) _)))
                    have HG0 := Lib.hid g0q
                    have HG1 := Lib.hid g1q
                    have hgq : b0 < wq.heap.size := Nat.lt_of_lt_of_le hg2 hbq.size
                    clear hNq hAq g0q g1q
                    go_wp2_with fail
                    refine region_q mixed (by kernel_rfl) ?_
                    repeat (go_big_quiet_step (first | (go_at_call 89; exact Calls.regrown_of (rturn_is _ HA HB HC HT.out)) | (go_at_call 102; exact Calls.regrown_of (ron_is _ HB HA HC HO.out))))
                    refine wpQuiet_nil ?_
                    intro wz hbz
                    clear q0 q1 q2 q3 q4 q5
                    have hNz := HNQ.out.below hbz
                    have c0 := hNz.c0
                    have c1 := hNz.c1
                    have f0 := hNz.f0 0
                    have f1 := hNz.f0 1
                    have hlz := hNz.lt
                    have y0 := (hbz.cell (p := ⟨b0, o0 + k * 2, none⟩) hgq).trans HG0.out
                    have y1 := (hbz.cell (p := ⟨b0, o0 + k * 2 + 1, none⟩) hgq).trans HG1.out
                    have HNZ := Lib.hid hNz
                    have HWZ := Lib.hid (show Below w.heap.size w wz from HWQ.out.trans (hbz.mono HWQ.out.size))
                    have HAZ := Lib.hid (HAQ.out.below hbz)
                    have HBZ := Lib.hid (HBQ.out.below hbz)
                    have HOZ := Lib.hid (own_below HOQ.out hbz)
                    clear hNz
                    go_wp2_with fail
                    go_roundw
                    case rel => exact ⟨k + 1, by omega, by go_num, by rw [HSU.out, HR.out]; exact HNZ.out.put x, HAZ.out.other hnb, HBZ.out.other hnB, own_set1 (own_set1 HOZ.out hnr) hnr, below_set (below_set HWZ.out (by dsimp only; omega) _) (by dsimp only; omega) _⟩
                    case measure => simp [intOf]; omega
                  · have hr : nextS pa nx x = x := by rw [HNS.out]; simp [e1, e2, e3, e4]
                    have HR := Lib.hid hr
                    clear hr
                    go_wp2_with fail
                    refine region_q mixed (by kernel_rfl) ?_
                    repeat (go_big_quiet_step (first | (go_at_call 89; exact Calls.regrown_of (rturn_is _ HA HB HC HT.out)) | (go_at_call 102; exact Calls.regrown_of (ron_is _ HB HA HC HO.out))))
                    refine wpQuiet_nil ?_
                    intro wq hbq
                    clear q0 q1 q2 q3 q4 q5 q6 q7
                    have hNq := hN.below hbq
                    have hAq := hA2.below hbq
                    have g0q := (hbq.cell (p := ⟨b0, o0 + k * 2, none⟩) hg2).trans g0
                    have g1q := (hbq.cell (p := ⟨b0, o0 + k * 2 + 1, none⟩) hg2).trans g1
                    have q0 := fun d os => cell_regrown hNq.c0 d os
                    have q1 := fun d os => cell_regrown hNq.c1 d os
                    have q2 := fun d os => cell_regrown hAq.c0 d os
                    have q3 := fun d os => cell_regrown hAq.c1 d os
                    have q4 := fun d os => cell_regrown g0q d os
                    have q5 := fun d os => cell_regrown g1q d os
                    have HNQ := Lib.hid hNq
                    have HAQ := Lib.hid hAq
                    have HBQ := Lib.hid (hB2.below hbq)
                    have HOQ := Lib.hid (own_below hown2 hbq)
                    have HWQ := Lib.hid (show Below w.heap.size w wq by (repeat' (first | exact Below.refl _ _ | assumption | refine below_new ?_ _ | refine below_draw ?_ | refine below_tail (by assumption) ?_ | refine below_set ?_ (by first | omega | (simp <;> omega)) _)))
                    have HG0 := Lib.hid g0q
                    have HG1 := Lib.hid g1q
                    have hgq : b0 < wq.heap.size := Nat.lt_of_lt_of_le hg2 hbq.size
                    clear hNq hAq g0q g1q
                    go_wp2_with fail
                    refine region_q mixed (by kernel_rfl) ?_
                    repeat (go_big_quiet_step (first | (go_at_call 89; exact Calls.regrown_of (rturn_is _ HA HB HC HT.out)) | (go_at_call 102; exact Calls.regrown_of (ron_is _ HB HA HC HO.out))))
                    refine wpQuiet_nil ?_
                    intro wz hbz
                    clear q0 q1 q2 q3 q4 q5
                    have hNz := HNQ.out.below hbz
                    have c0 := hNz.c0
                    have c1 := hNz.c1
                    have f0 := hNz.f0 0
                    have f1 := hNz.f0 1
                    have hlz := hNz.lt
                    have y0 := (hbz.cell (p := ⟨b0, o0 + k * 2, none⟩) hgq).trans HG0.out
                    have y1 := (hbz.cell (p := ⟨b0, o0 + k * 2 + 1, none⟩) hgq).trans HG1.out
                    have HNZ := Lib.hid hNz
                    have HWZ := Lib.hid (show Below w.heap.size w wz from HWQ.out.trans (hbz.mono HWQ.out.size))
                    have HAZ := Lib.hid (HAQ.out.below hbz)
                    have HBZ := Lib.hid (HBQ.out.below hbz)
                    have HOZ := Lib.hid (own_below HOQ.out hbz)
                    clear hNz
                    go_wp2_with fail
                    go_roundw
                    case rel => exact ⟨k + 1, by omega, by go_num, by rw [HSU.out, HR.out]; exact HNZ.out.put x, HAZ.out.other hnb, HBZ.out.other hnB, own_set1 (own_set1 HOZ.out hnr) hnr, below_set (below_set HWZ.out (by dsimp only; omega) _) (by dsimp only; omega) _⟩
                    case measure => simp [intOf]; omega
                  · have hr : nextS pa nx x = nx := by rw [HNS.out]; simp [e1, e2, e3, e4]
                    have HR := Lib.hid hr
                    clear hr
                    go_wp2_with fail
                    refine region_q mixed (by kernel_rfl) ?_
                    repeat (go_big_quiet_step (first | (go_at_call 89; exact Calls.regrown_of (rturn_is _ HA HB HC HT.out)) | (go_at_call 102; exact Calls.regrown_of (ron_is _ HB HA HC HO.out))))
                    refine wpQuiet_nil ?_
                    intro wq hbq
                    clear q0 q1 q2 q3 q4 q5 q6 q7
                    have hNq := hN.below hbq
                    have hAq := hA2.below hbq
                    have g0q := (hbq.cell (p := ⟨b0, o0 + k * 2, none⟩) hg2).trans g0
                    have g1q := (hbq.cell (p := ⟨b0, o0 + k * 2 + 1, none⟩) hg2).trans g1
                    have q0 := fun d os => cell_regrown hNq.c0 d os
                    have q1 := fun d os => cell_regrown hNq.c1 d os
                    have q2 := fun d os => cell_regrown hAq.c0 d os
                    have q3 := fun d os => cell_regrown hAq.c1 d os
                    have q4 := fun d os => cell_regrown g0q d os
                    have q5 := fun d os => cell_regrown g1q d os
                    have HNQ := Lib.hid hNq
                    have HAQ := Lib.hid hAq
                    have HBQ := Lib.hid (hB2.below hbq)
                    have HOQ := Lib.hid (own_below hown2 hbq)
                    have HWQ := Lib.hid (show Below w.heap.size w wq by (repeat' (first | exact Below.refl _ _ | assumption | refine below_new ?_ _ | refine below_draw ?_ | refine below_tail (by assumption) ?_ | refine below_set ?_ (by first | omega | (simp <;> omega)) _)))
                    have HG0 := Lib.hid g0q
                    have HG1 := Lib.hid g1q
                    have hgq : b0 < wq.heap.size := Nat.lt_of_lt_of_le hg2 hbq.size
                    clear hNq hAq g0q g1q
                    go_wp2_with fail
                    refine region_q mixed (by kernel_rfl) ?_
                    repeat (go_big_quiet_step (first | (go_at_call 89; exact Calls.regrown_of (rturn_is _ HA HB HC HT.out)) | (go_at_call 102; exact Calls.regrown_of (ron_is _ HB HA HC HO.out))))
                    refine wpQuiet_nil ?_
                    intro wz hbz
                    clear q0 q1 q2 q3 q4 q5
                    have hNz := HNQ.out.below hbz
                    have c0 := hNz.c0
                    have c1 := hNz.c1
                    have f0 := hNz.f0 0
                    have f1 := hNz.f0 1
                    have hlz := hNz.lt
                    have y0 := (hbz.cell (p := ⟨b0, o0 + k * 2, none⟩) hgq).trans HG0.out
                    have y1 := (hbz.cell (p := ⟨b0, o0 + k * 2 + 1, none⟩) hgq).trans HG1.out
                    have HNZ := Lib.hid hNz
                    have HWZ := Lib.hid (show Below w.heap.size w wz from HWQ.out.trans (hbz.mono HWQ.out.size))
                    have HAZ := Lib.hid (HAQ.out.below hbz)
                    have HBZ := Lib.hid (HBQ.out.below hbz)
                    have HOZ := Lib.hid (own_below HOQ.out hbz)
                    clear hNz
                    go_wp2_with fail
                    go_roundw
                    case rel => exact ⟨k + 1, by omega, by go_num, by rw [HSU.out, HR.out]; exact HNZ.out, HAZ.out, HBZ.out, HOZ.out, HWZ.out⟩
                    case measure => simp [intOf]; omega
                  · have hr : nextS pa nx x = x := by rw [HNS.out]; simp [e1, e2, e3, e4]
                    have HR := Lib.hid hr
                    clear hr
                    go_wp2_with fail
                    refine region_q mixed (by kernel_rfl) ?_
                    repeat (go_big_quiet_step (first | (go_at_call 89; exact Calls.regrown_of (rturn_is _ HA HB HC HT.out)) | (go_at_call 102; exact Calls.regrown_of (ron_is _ HB HA HC HO.out))))
                    refine wpQuiet_nil ?_
                    intro wq hbq
                    clear q0 q1 q2 q3 q4 q5 q6 q7
                    have hNq := hN.below hbq
                    have hAq := hA2.below hbq
                    have g0q := (hbq.cell (p := ⟨b0, o0 + k * 2, none⟩) hg2).trans g0
                    have g1q := (hbq.cell (p := ⟨b0, o0 + k * 2 + 1, none⟩) hg2).trans g1
                    have q0 := fun d os => cell_regrown hNq.c0 d os
                    have q1 := fun d os => cell_regrown hNq.c1 d os
                    have q2 := fun d os => cell_regrown hAq.c0 d os
                    have q3 := fun d os => cell_regrown hAq.c1 d os
                    have q4 := fun d os => cell_regrown g0q d os
                    have q5 := fun d os => cell_regrown g1q d os
                    have HNQ := Lib.hid hNq
                    have HAQ := Lib.hid hAq
                    have HBQ := Lib.hid (hB2.below hbq)
                    have HOQ := Lib.hid (own_below hown2 hbq)
                    have HWQ := Lib.hid (show Below w.heap.size w wq by (repeat' (first | exact Below.refl _ _ | assumption | refine below_new ?_ _ | refine below_draw ?_ | refine below_tail (by assumption) ?_ | refine below_set ?_ (by first | omega | (simp <;> omega)) _)))
                    have HG0 := Lib.hid g0q
                    have HG1 := Lib.hid g1q
                    have hgq : b0 < wq.heap.size := Nat.lt_of_lt_of_le hg2 hbq.size
                    clear hNq hAq g0q g1q
                    go_wp2_with fail
                    refine region_q mixed (by kernel_rfl) ?_
                    repeat (go_big_quiet_step (first | (go_at_call 89; exact Calls.regrown_of (rturn_is _ HA HB HC HT.out)) | (go_at_call 102; exact Calls.regrown_of (ron_is _ HB HA HC HO.out))))
                    refine wpQuiet_nil ?_
                    intro wz hbz
                    clear q0 q1 q2 q3 q4 q5
                    have hNz := HNQ.out.below hbz
                    have c0 := hNz.c0
                    have c1 := hNz.c1
                    have f0 := hNz.f0 0
                    have f1 := hNz.f0 1
                    have hlz := hNz.lt
                    have y0 := (hbz.cell (p := ⟨b0, o0 + k * 2, none⟩) hgq).trans HG0.out
                    have y1 := (hbz.cell (p := ⟨b0, o0 + k * 2 + 1, none⟩) hgq).trans HG1.out
                    have HNZ := Lib.hid hNz
                    have HWZ := Lib.hid (show Below w.heap.size w wz from HWQ.out.trans (hbz.mono HWQ.out.size))
                    have HAZ := Lib.hid (HAQ.out.below hbz)
                    have HBZ := Lib.hid (HBQ.out.below hbz)
                    have HOZ := Lib.hid (own_below HOQ.out hbz)
                    clear hNz
                    go_wp2_with fail
                    go_roundw
                    case rel => exact ⟨k + 1, by omega, by go_num, by rw [HSU.out, HR.out]; exact HNZ.out.put x, HAZ.out.other hnb, HBZ.out.other hnB, own_set1 (own_set1 HOZ.out hnr) hnr, below_set (below_set HWZ.out (by dsimp only; omega) _) (by dsimp only; omega) _⟩
                    case measure => simp [intOf]; omega
                  · have hr : nextS pa nx x = nx := by rw [HNS.out]; simp [e1, e2, e3, e4]
                    have HR := Lib.hid hr
                    clear hr
                    go_wp2_with fail
                    refine region_q mixed (by kernel_rfl) ?_
                    repeat (go_big_quiet_step (first | (go_at_call 89; exact Calls.regrown_of (rturn_is _ HA HB HC HT.out)) | (go_at_call 102; exact Calls.regrown_of (ron_is _ HB HA HC HO.out))))
                    refine wpQuiet_nil ?_
                    intro wq hbq
                    clear q0 q1 q2 q3 q4 q5 q6 q7
                    have hNq := hN.below hbq
                    have hAq := hA2.below hbq
                    have g0q := (hbq.cell (p := ⟨b0, o0 + k * 2, none⟩) hg2).trans g0
                    have g1q := (hbq.cell (p := ⟨b0, o0 + k * 2 + 1, none⟩) hg2).trans g1
                    have q0 := fun d os => cell_regrown hNq.c0 d os
                    have q1 := fun d os => cell_regrown hNq.c1 d os
                    have q2 := fun d os => cell_regrown hAq.c0 d os
                    have q3 := fun d os => cell_regrown hAq.c1 d os
                    have q4 := fun d os => cell_regrown g0q d os
                    have q5 := fun d os => cell_regrown g1q d os
                    have HNQ := Lib.hid hNq
                    have HAQ := Lib.hid hAq
                    have HBQ := Lib.hid (hB2.below hbq)
                    have HOQ := Lib.hid (own_below hown2 hbq)
                    have HWQ := Lib.hid (show Below w.heap.size w wq by (repeat' (first | exact Below.refl _ _ | assumption | refine below_new ?_ _ | refine below_draw ?_ | refine below_tail (by assumption) ?_ | refine below_set ?_ (by first | omega | (simp <;> omega)) _)))
                    have HG0 := Lib.hid g0q
                    have HG1 := Lib.hid g1q
                    have hgq : b0 < wq.heap.size := Nat.lt_of_lt_of_le hg2 hbq.size
                    clear hNq hAq g0q g1q
                    go_wp2_with fail
                    refine region_q mixed (by kernel_rfl) ?_
                    repeat (go_big_quiet_step (first | (go_at_call 89; exact Calls.regrown_of (rturn_is _ HA HB HC HT.out)) | (go_at_call 102; exact Calls.regrown_of (ron_is _ HB HA HC HO.out))))
                    refine wpQuiet_nil ?_
                    intro wz hbz
                    clear q0 q1 q2 q3 q4 q5
                    have hNz := HNQ.out.below hbz
                    have c0 := hNz.c0
                    have c1 := hNz.c1
                    have f0 := hNz.f0 0
                    have f1 := hNz.f0 1
                    have hlz := hNz.lt
                    have y0 := (hbz.cell (p := ⟨b0, o0 + k * 2, none⟩) hgq).trans HG0.out
                    have y1 := (hbz.cell (p := ⟨b0, o0 + k * 2 + 1, none⟩) hgq).trans HG1.out
                    have HNZ := Lib.hid hNz
                    have HWZ := Lib.hid (show Below w.heap.size w wz from HWQ.out.trans (hbz.mono HWQ.out.size))
                    have HAZ := Lib.hid (HAQ.out.below hbz)
                    have HBZ := Lib.hid (HBQ.out.below hbz)
                    have HOZ := Lib.hid (own_below HOQ.out hbz)
                    clear hNz
                    go_wp2_with fail
                    go_roundw
                    case rel => exact ⟨k + 1, by omega, by go_num, by rw [HSU.out, HR.out]; exact HNZ.out, HAZ.out, HBZ.out, HOZ.out, HWZ.out⟩
                    case measure => simp [intOf]; omega
                · obtain rfl : k = l.length := by omega
                  have hg : decide ((l.length : Int) < (l.length : Int)) = false := decide_eq_false (by omega)
                  have hnx : nxK pa l l.length = cor hh (i + 1) := by rw [nxK_all, ← HPA.out, HNX.out]
                  rw [hnx] at hN
                  have HIJ := Lib.hid HOK.out.q.inj
                  by_cases hlast : i + 1 = hh.length
                  · have hz : cor hh (i + 1) = z := by rw [hlast, ← HZ.out]; exact HOK.out.q.per0
                    rw [hz] at hN
                    have c0 := hN.c0
                    have c1 := hN.c1
                    have c2 := hB2.c0
                    have c3 := hB2.c1
                    have htk : hh.take (i + 1) = hh := by rw [hlast, List.take_length]
                    rw [htk] at hown2
                    rw [hlast] at hown2 ⊢
                    have HOW := Lib.hid hown2
                    clear hnx hz htk hown2
                    go_wp2_with fail
                    refine bodyPost_ret (v := .tuple #[.slice sx hh.length cx, .int .i64 0]) (by simp [results, Try.f54, go_sem]) rfl ?_
                    exact ⟨_, by rw [K.out.1], by rw [HL.out]; exact own_base HOW.out (by omega), hbw2⟩
                  · have hne2 : cor hh (i + 1) ≠ z := fun e => by
                      rw [← HZ.out] at e
                      have := HIJ.out (i + 1) 0 (by omega) (by omega) e
                      omega
                    have HTC : Hid (hh.take (i + 1 + 1) = hh.take (i + 1) ++ [cor hh (i + 1)]) := take_cor (by omega)
                    have HNA : Hid (cor hh (i + 1) = cor hh (i + 1)) := rfl
                    obtain ⟨nx, hnx2⟩ : ∃ nx, cor hh (i + 1) = nx := ⟨_, rfl⟩
                    have HNZ := Lib.hid hnx2
                    rw [hnx2] at hN hne2 HTC
                    have x1 : (((nx.1, nx.2) : Int × Int) == (z.1, z.2)) = false := pt_ne hne2
                    have c0 := hN.c0
                    have c1 := hN.c1
                    have c2 := hB2.c0
                    have c3 := hB2.c1
                    have hlN := hN.lt
                    have hlA := hA2.lt
                    have HLN : Hid ((hh.take (i + 1)).length = i + 1) := by unfold Hid; rw [List.length_take]; omega
                    have HNB := Lib.hid hN
                    have HAB := Lib.hid hA2
                    have HBB := Lib.hid hB2
                    have HOW := Lib.hid hown2
                    have hs2 := hbw2.size
                    clear hnx hnx2 hN hA2 hB2 hown2 hne2
                    go_wp2_with (at_builtin; refine wpList_append_own_at _ rfl _ _ 22 rfl (w2.heap.size + 1) 32 i0 (.agg #[.int .i64 0, .int .i64 0]) 2 16 Try.underlying22 hi0 hz0 hi1 hi2 rfl (by decide) _ _ _ rfl (HOW.out.alloc _) ⟨wr2.heap.size, 0, none⟩ 1 1 (cells2 [nx]) rfl rfl (app_src2 _ _ _) (cells2_one _) (by unfold maxLen; omega) (by omega) (by first | omega | (simp; omega)) ?_; intro v' w4 hown4 hgrow4 _ hat4; obtain ⟨sy, cy, rfl⟩ := own_slice hown4; have hN4 := (HNB.out.below (by (repeat' (first | exact Below.refl _ _ | assumption | refine below_new ?_ _ | refine below_draw ?_ | refine below_tail (by assumption) ?_ | refine below_set ?_ (by first | omega | (simp <;> omega)) _)) : Below wr2.heap.size wr2 (wr2.alloc (.cells #[.int .i64 nx.1, .int .i64 nx.2] 32)))).grown hgrow4 hnr; have hA4 := (HAB.out.below (by (repeat' (first | exact Below.refl _ _ | assumption | refine below_new ?_ _ | refine below_draw ?_ | refine below_tail (by assumption) ?_ | refine below_set ?_ (by first | omega | (simp <;> omega)) _)) : Below wr2.heap.size wr2 (wr2.alloc (.cells #[.int .i64 nx.1, .int .i64 nx.2] 32)))).grown hgrow4 hne; have d0 := hN4.c0; have d1 := hN4.c1; have d2 := hA4.c0; have d3 := hA4.c1; have d4 := hA4.f0 0; have d5 := hA4.f0 1; have hl4 := hA4.lt; have HA4 := Lib.hid hA4; have HG4 := Lib.hid hgrow4; have HO4 := Lib.hid hown4; have HT4 := Lib.hid hat4; clear hown4 hgrow4 hat4 hA4 hN4)
                    have hg4 : (wr2.alloc (.cells #[.int .i64 nx.1, .int .i64 nx.2] 32)).grownBy w4 (Value.slice sx (i + 1) cx).ownBlock := HG4.out
                    have ht4 : (Value.slice sy (i + 1 + 1) cy).ownBlock = (Value.slice sx (i + 1) cx).ownBlock ∨ (Value.slice sy (i + 1 + 1) cy).ownBlock = some (wr2.alloc (.cells #[.int .i64 nx.1, .int .i64 nx.2] 32)).heap.size := HT4.out
                    have hB4 : PtBox w4 w2.heap.size z := (HBB.out.below (by (repeat' (first | exact Below.refl _ _ | assumption | refine below_new ?_ _ | refine below_draw ?_ | refine below_tail (by assumption) ?_ | refine below_set ?_ (by first | omega | (simp <;> omega)) _)) : Below wr2.heap.size wr2 (wr2.alloc (.cells #[.int .i64 nx.1, .int .i64 nx.2] 32)))).grown hg4 (ne_old HOW.out (Nat.lt_succ_self _))
                    have hv4 : (Value.slice sy (i + 1 + 1) cy).ownBlock ≠ some pb := ne_app (by simp; omega) hne ht4
                    have hb4 : Below w.heap.size w w4 := (hbw2.alloc hs2 _).grown hg4 (by simp; omega) (own_block_le2 (own_base HOW.out (by omega)))
                    have ho4 : w4.ownsRow (w2.heap.size + 1) 32 2 (.slice sy (i + 1 + 1) cy) (i + 1 + 1) (cells2 (hh.take (i + 1 + 1))) := by rw [HTC.out, cells2_append]; exact HO4.out
                    have hpl : (Value.slice sy (i + 1 + 1) cy).ownBlock ≠ some w4.heap.size := ne_new ho4 (Nat.le_refl _)
                    go_roundw
                    case rel => exact ⟨i + 1, w4.heap.size, by omega, rfl, by rw [HNZ.out]; exact PtBox.new _ nx (by simp), PtBox.below (PtBox.other (y := nx) hB4 (by omega)) (below_new (Below.refl _ _) _), (own_set1 (own_set1 ho4 hv4) hv4).alloc _, hpl, by omega, below_new (below_set (below_set hb4 (by dsimp only; omega) _) (by dsimp only; omega) _) _⟩
                    case measure => simp [lenV]; omega
          · have K := Lib.hid (K4.out (HFH.out.1 rfl))
            go_wp2_with fail
            refine bodyPost_ret (v := .tuple #[.slice none 0 0, .int .i64 8]) (by simp [results, Try.f54, go_sem]) rfl ?_
            exact ⟨_, by rw [K.out.1], by rw [K.out.2]; exact World.ownsRow_nil _ _ _ _, hbw⟩
end Go.Proofs.Ythiemglckmociaa
