/- What chain of package plot gives: the points of one side of the hull, without the last one. Conditions: the list lies in memory as said, it is not empty, coordinates are small. -/
import Derived.Test.YthiemglckmociaaPtBtw
import Derived.Test.YthiemglckmociaaPtNormal
import Derived.Test.YthiemglckmociaaHullG
namespace Go.Proofs.Ythiemglckmociaa
open Go.RowKit

theorem cells2_take : ∀ (l : List (Int × Int)) (m : Nat), cells2 (l.take m) = (cells2 l).take (m * 2)
  | [], m => by simp [cells2]
  | x :: l, 0 => by simp [cells2]
  | x :: l, m + 1 => by
    rw [List.take_succ_cons]
    show _ :: _ :: cells2 (l.take m) = _
    rw [cells2_take l m, show (m + 1) * 2 = m * 2 + 1 + 1 by omega]
    rfl
theorem own_cut {w : World} {base e n m : Nat} {g cap : Nat} {l : List (Int × Int)} (h : w.ownsRow base e 2 (.slice (some ⟨g, 0, none⟩) n cap) n (cells2 l)) (hm : m ≤ n) :
    w.ownsRow base e 2 (.slice (some ⟨g, 0, none⟩) m cap) m (cells2 (l.take m)) := by
  rw [cells2_take]
  obtain ⟨h1, ⟨k, _⟩ | ⟨g', cap', cur, hv, hb, hh, c1, c2, c3, c4⟩⟩ := h
  · cases k
  · cases hv
    refine ⟨by rw [List.length_take, h1]; omega, .inr ⟨g, cap, cur, rfl, hb, hh, Nat.le_trans hm c1, c2, c3, ?_⟩⟩
    rw [← c4, List.take_take, Nat.min_eq_left (by omega)]
/-- The stack of corners behind the first k points. -/
def chK (l : List (Int × Int)) (k : Nat) : List (Int × Int) := (l.take k).foldl (fun st x => x :: popF x st) []
theorem chK_succ {l : List (Int × Int)} {k : Nat} (h : k < l.length) : chK l (k + 1) = gi l (0, 0) k :: popF (gi l (0, 0) k) (chK l k) := by
  unfold chK
  rw [List.take_add_one, List.foldl_append, List.getElem?_eq_getElem h, gi_lt h]
  rfl
theorem chK_all (l : List (Int × Int)) : chK l l.length = chainR l := by unfold chK chainR; rw [List.take_length]
theorem chK_pos {l : List (Int × Int)} (h : 0 < l.length) : ∃ x r, chainR l = x :: r := by
  have := chK_succ (l := l) (k := l.length - 1) (by omega)
  rw [show l.length - 1 + 1 = l.length by omega, chK_all] at this
  exact ⟨_, _, this⟩
theorem popF_mem (x : Int × Int) : ∀ (st : List (Int × Int)), ∀ y ∈ popF x st, y ∈ st
  | [], y, h => by cases h
  | [_], y, h => h
  | b :: a :: r, y, h => by
    unfold popF at h
    split at h
    · exact List.mem_cons_of_mem _ (popF_mem x (a :: r) y h)
    · exact h
theorem popF_stop {x : Int × Int} {st : List (Int × Int)} (h : ¬ 1 < st.length) : popF x st = st := by
  match st, h with
  | [], _ => rfl
  | [_], _ => rfl
  | b :: a :: r, h => simp at h
theorem popF_yes {x a b : Int × Int} {r : List (Int × Int)} (h : turn a b x ≤ 0) : popF x (b :: a :: r) = popF x (a :: r) := by
  rw [popF, if_pos h]
theorem popF_no {x a b : Int × Int} {r : List (Int × Int)} (h : ¬ turn a b x ≤ 0) : popF x (b :: a :: r) = b :: a :: r := by
  rw [popF, if_neg h]
theorem stack_get {a b : Int × Int} {r : List (Int × Int)} : gi (b :: a :: r).reverse (0, 0) r.length = a ∧ gi (b :: a :: r).reverse (0, 0) (r.length + 1) = b := by
  have e : (b :: a :: r).reverse = r.reverse ++ [a, b] := by simp
  rw [e]
  constructor
  · unfold gi
    rw [List.getElem?_append_right (by simp)]; simp
  · unfold gi
    rw [List.getElem?_append_right (by simp)]; simp
theorem stack_take {b : Int × Int} {r : List (Int × Int)} : (b :: r).reverse.take r.length = r.reverse := by
  rw [List.reverse_cons, List.take_append_of_le_length (by simp), List.take_of_length_le (by simp)]
set_option maxHeartbeats 4000000 in
set_option maxRecDepth 100000 in
theorem chain_calls (v : Value) (l : List (Int × Int)) (w : World) (h : PairsAt w v l) (h0 : 0 < l.length) (hn : l.length ≤ 1000) (hbd : ∀ y ∈ l, bdP y) :
    Calls Try.prog 83 #[v] w fun e w' => ∃ v', e = .returned v' ∧ w'.ownsRow w.heap.size 32 2 v' (chainF l).length (cells2 (chainF l)) ∧ Below w.heap.size w w' := by
  have HP := Lib.hid h
  have HBD := Lib.hid hbd
  obtain ⟨sa, cap, rfl, hlc, hcm, -⟩ := h
  obtain ⟨i0, hi0, hz0, hi1, hi2⟩ := info_parts infoPoint
  clear hbd
  go_enter Try.func83, Try.ntmps83
  go_wp2_with fail
  go_loopw [3, 8] (fun s i wr => ∃ k : Nat, k ≤ l.length ∧ i = .int .i64 k ∧ wr.ownsRow w.heap.size 32 2 s (chK l k).length (cells2 (chK l k).reverse) ∧ Hid (∀ y ∈ chK l k, bdP y) ∧ (chK l k).length ≤ k ∧ Below w.heap.size w wr) (fun _ i _ => l.length - (intOf i).toNat)
  case atStart => exact ⟨0, Nat.zero_le _, rfl, World.ownsRow_nil _ _ _ _, fun y hy => (by cases hy), Nat.le_refl _, Below.refl _ _⟩
  case round =>
    obtain ⟨k, hk, rfl, hown, hst, hsk, hbw⟩ := hrel
    by_cases hlt : k < l.length
    · obtain ⟨b, o, rfl, hB, c0, c1⟩ := HP.out.cellB hbw hlt
      have HSU := Lib.hid (chK_succ hlt)
      have hx : bdP (gi l (0, 0) k) := HBD.out _ (by rw [gi_lt hlt]; exact List.getElem_mem hlt)
      obtain ⟨st, hste⟩ : ∃ st, chK l k = st := ⟨_, rfl⟩
      rw [hste] at hown hst hsk HSU
      clear hste
      generalize gi l (0, 0) k = x at *
      obtain ⟨sx, cx, rfl⟩ := own_slice hown
      obtain ⟨W1, hW1⟩ : ∃ W1, W1 = wr := ⟨_, rfl⟩
      subst hW1
      have hbs := hbw.size
      go_wp2_with fail
      obtain ⟨p, hp⟩ : ∃ p, p = W1.heap.size := ⟨_, rfl⟩
      have hwp : w.heap.size ≤ p := by omega
      have g0 : (W1.alloc (.cells #[.int .i64 x.1, .int .i64 x.2] 32)).cell? ⟨p, 0, none⟩ = some (.int .i64 x.1) := by rw [hp]; simp [go_sem]
      have g1 : (W1.alloc (.cells #[.int .i64 x.1, .int .i64 x.2] 32)).cell? ⟨p, 1, none⟩ = some (.int .i64 x.2) := by rw [hp]; simp [go_sem]
      have g2 : p < (W1.alloc (.cells #[.int .i64 x.1, .int .i64 x.2] 32)).heap.size := by rw [hp]; simp
      have hown1 := hown.alloc (.cells #[.int .i64 x.1, .int .i64 x.2] 32)
      have hbw1 : Below w.heap.size w (W1.alloc (.cells #[.int .i64 x.1, .int .i64 x.2] 32)) := by (repeat' (first | exact Below.refl _ _ | assumption | refine below_new ?_ _ | refine below_draw ?_ | refine below_tail (by assumption) ?_ | refine below_set ?_ (by first | omega | (simp <;> omega)) _))
      rw [← hp]
      generalize hWe : W1.alloc (.cells #[.int .i64 x.1, .int .i64 x.2] 32) = W2 at *
      clear hWe c0 c1 hown hbw hp
      go_loopw [3] (fun s wr => ∃ st' : List (Int × Int), popF x st' = popF x st ∧ (∀ y ∈ st', bdP y) ∧ st'.length ≤ st.length ∧ wr.ownsRow w.heap.size 32 2 s st'.length (cells2 st'.reverse) ∧ Below w.heap.size w wr ∧ wr.cell? ⟨p, 0, none⟩ = some (.int .i64 x.1) ∧ wr.cell? ⟨p, 1, none⟩ = some (.int .i64 x.2) ∧ p < wr.heap.size) (fun s _ => lenV s)
      case atStart => exact ⟨st, rfl, hst.out, Nat.le_refl _, hown1, hbw1, g0, g1, g2⟩
      case round =>
        clear g0 g1 g2 hown1 hbw1
        obtain ⟨st', e1, e2, e3, hown2, hb2, q0, q1, hq⟩ := hrel
        have HE := Lib.hid e1
        clear e1
        by_cases h2 : 1 < st'.length
        · obtain ⟨pb, pa, r, rfl⟩ : ∃ pb pa r, st' = pb :: pa :: r := by
            match st', h2 with
            | pb :: pa :: r, _ => exact ⟨pb, pa, r, rfl⟩
          obtain ⟨g, cx2, rfl, hg1, hg2, hgc, hgm⟩ := own_slice0 hown2 (by omega)
          obtain ⟨n, hnn⟩ : ∃ n, n = (pb :: pa :: r).length := ⟨_, rfl⟩
          obtain ⟨m, hmm⟩ : ∃ m, m = r.length := ⟨_, rfl⟩
          have hnm : n = m + 1 + 1 := by rw [hnn, hmm]; rfl
          obtain ⟨s1, s2⟩ := stack_get (a := pa) (b := pb) (r := r)
          have d0 := (hown2.cellAt (m * 2) (by omega)).trans (cells2_get1 _ m (by simp; omega))
          have d1 := (hown2.cellAt (m * 2 + 1) (by omega)).trans (cells2_get2 _ m (by simp; omega))
          have d2 := (hown2.cellAt ((m + 1) * 2) (by omega)).trans (cells2_get1 _ (m + 1) (by simp; omega))
          have d3 := (hown2.cellAt ((m + 1) * 2 + 1) (by omega)).trans (cells2_get2 _ (m + 1) (by simp; omega))
          rw [hmm, s1, ← hmm] at d0 d1
          rw [hmm, s2, ← hmm] at d2 d3
          have HA := e2 pa (by simp)
          have HB := e2 pb (by simp)
          have HOW := Lib.hid hown2
          have HE2 := Lib.hid e2
          obtain ⟨j, hj⟩ : ∃ j, j = m + 1 := ⟨_, rfl⟩
          rw [← hj] at d2 d3
          rw [← hnn] at HOW hgc ⊢
          have hNN := Lib.hid hnn
          have hMM := Lib.hid hmm
          have hmn : m < n := by omega
          have hjn : j < n := by omega
          have HJ := Lib.hid hj
          have hn10 : n ≤ 1000 := by omega
          have HNM := Lib.hid hnm
          have hw2 : IntKind.i64.wrap ((n : Int) - 2) = (m : Int) := by rw [IntWalk.i64_in _ (by omega)]; omega
          have hw1 : IntKind.i64.wrap ((n : Int) - 1) = (j : Int) := by rw [IntWalk.i64_in _ (by omega)]; omega
          have x0 : decide ((1 : Int) < (n : Int)) = true := decide_eq_true (by omega)
          obtain ⟨t, ht⟩ : ∃ t, turn pa pb x = t := ⟨_, rfl⟩
          have HT := Lib.hid ht
          clear ht hown2 e2 s1 s2 hnn hmm hj hnm h2
          have k0 := fun dr os => cell_regrown d0 dr os
          have k1 := fun dr os => cell_regrown d1 dr os
          have k2 := fun dr os => cell_regrown d2 dr os
          have k3 := fun dr os => cell_regrown d3 dr os
          have k4 := fun dr os => cell_regrown q0 dr os
          have k5 := fun dr os => cell_regrown q1 dr os
          by_cases htz : t ≤ 0
          · have x1 : decide (t ≤ 0) = true := decide_eq_true htz
            go_wp2_with fail
            refine region_q mixed (by kernel_rfl) ?_
            repeat (go_big_quiet_step ((go_at_call 66; exact Calls.regrown_of (turn_is _ HA HB hx HT.out))))
            refine wpQuiet_nil ?_
            intro wq hbq
            clear k0 k1 k2 k3 k4 k5 hw1 hw2
            have b0 : (0 : Int) ≤ (j : Int) := by omega
            have b1 : (j : Int) ≤ (n : Int) := by omega
            have b3 : (j : Int) ≤ (cx2 : Int) := by omega
            have y1 : (n : Int) - 1 = (j : Int) := by have := HJ.out; have := HNM.out; omega
            go_wp2_with fail
            go_roundw
            case rel => exact ⟨pa :: r, (popF_yes (by rw [HT.out]; exact htz)).symm.trans HE.out, fun y hy => HE2.out y (List.mem_cons_of_mem _ hy), by have := hNN.out; simp at this e3 ⊢; omega, by
              have hc := own_cut (own_below HOW.out hbq) (show j ≤ n by omega)
              have ej : j = (pa :: r).length := by rw [HJ.out, hMM.out]; rfl
              rw [ej, stack_take] at hc
              rw [ej]; exact hc, by (repeat' (first | exact Below.refl _ _ | assumption | refine below_new ?_ _ | refine below_draw ?_ | refine below_tail (by assumption) ?_ | refine below_set ?_ (by first | omega | (simp <;> omega)) _)), (hbq.cell (p := ⟨p, 0, none⟩) hq).trans q0, (hbq.cell (p := ⟨p, 1, none⟩) hq).trans q1, Nat.lt_of_lt_of_le hq hbq.size⟩
            case measure => simp [lenV]; omega
          · have x1 : decide (t ≤ 0) = false := decide_eq_false htz
            go_wp2_with fail
            refine region_q mixed (by kernel_rfl) ?_
            repeat (go_big_quiet_step ((go_at_call 66; exact Calls.regrown_of (turn_is _ HA HB hx HT.out))))
            refine wpQuiet_nil ?_
            intro wq hbq
            clear k0 k1 k2 k3 k4 k5 hw1 hw2
            have hbv : Below w.heap.size w wq := by (repeat' (first | exact Below.refl _ _ | assumption | refine below_new ?_ _ | refine below_draw ?_ | refine below_tail (by assumption) ?_ | refine below_set ?_ (by first | omega | (simp <;> omega)) _))
            have q0' := (hbq.cell (p := ⟨p, 0, none⟩) hq).trans q0
            have q1' := (hbq.cell (p := ⟨p, 1, none⟩) hq).trans q1
            have HO := Lib.hid (own_below HOW.out hbq)
            have hsz := hbv.size
            clear q0 q1
            go_wp2_with (at_builtin; refine wpList_append_own _ rfl _ _ 22 rfl w.heap.size 32 i0 (.agg #[.int .i64 0, .int .i64 0]) 2 16 Try.underlying22 hi0 hz0 hi1 hi2 rfl (by decide) _ _ _ rfl (HO.out.alloc _) ⟨wq.heap.size, 0, none⟩ 1 1 (cells2 [x]) rfl rfl (app_src2 _ _ _) (cells2_one _) (by unfold maxLen; omega) (by omega) (by have := hbv.size; simp; omega) ?_; intro v' w4 hown4 hgrow _)
            have hb4 := (hbv.alloc hsz _).grown hgrow (by simp; omega) (own_block_le2 HO.out)
            go_roundw
            case rel =>
              have hes : chK l (k + 1) = x :: pb :: pa :: r := by rw [HSU.out, ← HE.out, popF_no (by rw [HT.out]; omega)]
              refine ⟨k + 1, by omega, by go_num, ?_, ?_, ?_, hb4⟩
              · rw [hes, show (x :: pb :: pa :: r).reverse = (pb :: pa :: r).reverse ++ [x] from List.reverse_cons]
                have := own_more2 (l := (pb :: pa :: r).reverse) hown4 (by rw [hNN.out, List.length_reverse])
                rw [List.length_append, List.length_reverse] at this
                exact this
              · intro y hy
                rw [hes] at hy
                rcases List.mem_cons.1 hy with rfl | hy
                · exact hx
                · exact HE2.out y hy
              · rw [hes]; have := hNN.out; simp at this e3 ⊢; omega
            case measure => simp [intOf]; omega
        · have hs' := popF_stop (x := x) h2
          obtain ⟨n, hnn⟩ : ∃ n, n = st'.length := ⟨_, rfl⟩
          obtain ⟨sy, cy, rfl⟩ := own_slice hown2
          have HOW := Lib.hid hown2
          rw [← hnn] at HOW
          have x0 : decide ((1 : Int) < (n : Int)) = false := decide_eq_false (by omega)
          have hn1 : n ≤ 1 := by omega
          rw [← hnn]
          have hNN := Lib.hid hnn
          have HS := Lib.hid hs'
          have HE2 := Lib.hid e2
          clear hnn hown2 h2 hs' e2
          go_wp2_with fail
          refine region_q mixed (by kernel_rfl) ?_
          repeat (go_big_quiet_step (fail))
          refine wpQuiet_nil ?_
          intro wq hbq
          have hbv : Below w.heap.size w wq := by (repeat' (first | exact Below.refl _ _ | assumption | refine below_new ?_ _ | refine below_draw ?_ | refine below_tail (by assumption) ?_ | refine below_set ?_ (by first | omega | (simp <;> omega)) _))
          have q0' := (hbq.cell (p := ⟨p, 0, none⟩) hq).trans q0
          have q1' := (hbq.cell (p := ⟨p, 1, none⟩) hq).trans q1
          have HO := Lib.hid (own_below HOW.out hbq)
          have hsz := hbv.size
          clear q0 q1
          go_wp2_with (at_builtin; refine wpList_append_own _ rfl _ _ 22 rfl w.heap.size 32 i0 (.agg #[.int .i64 0, .int .i64 0]) 2 16 Try.underlying22 hi0 hz0 hi1 hi2 rfl (by decide) _ _ _ rfl (HO.out.alloc _) ⟨wq.heap.size, 0, none⟩ 1 1 (cells2 [x]) rfl rfl (app_src2 _ _ _) (cells2_one _) (by unfold maxLen; omega) (by omega) (by have := hbv.size; simp; omega) ?_; intro v' w4 hown4 hgrow _)
          have hb4 := (hbv.alloc hsz _).grown hgrow (by simp; omega) (own_block_le2 HO.out)
          go_roundw
          case rel =>
            have hes : chK l (k + 1) = x :: st' := by rw [HSU.out, ← HE.out, HS.out]
            refine ⟨k + 1, by omega, by go_num, ?_, ?_, ?_, hb4⟩
            · rw [hes, show (x :: st').reverse = st'.reverse ++ [x] from List.reverse_cons]
              have := own_more2 (l := st'.reverse) hown4 (by rw [hNN.out, List.length_reverse])
              rw [List.length_append, List.length_reverse] at this
              exact this
            · intro y hy
              rw [hes] at hy
              rcases List.mem_cons.1 hy with rfl | hy
              · exact hx
              · exact HE2.out y hy
            · rw [hes]; simp; omega
          case measure => simp [intOf]; omega
    · obtain rfl : k = l.length := by omega
      obtain ⟨z, r, hz⟩ := chK_pos h0
      rw [chK_all, hz] at hown hst hsk
      obtain ⟨g, cx2, rfl, hg1, hg2, hgc, hgm⟩ := own_slice0 hown (by simp)
      obtain ⟨n, hnn⟩ : ∃ n, n = (z :: r).length := ⟨_, rfl⟩
      obtain ⟨j, hj⟩ : ∃ j, j = r.length := ⟨_, rfl⟩
      have hnj : n = j + 1 := by rw [hnn, hj]; rfl
      have HOW := Lib.hid hown
      have HZ := Lib.hid hz
      rw [← hnn] at HOW hgc ⊢
      have b0 : (0 : Int) ≤ (j : Int) := by omega
      have b1 : (j : Int) ≤ (n : Int) := by omega
      have b3 : (j : Int) ≤ (cx2 : Int) := by omega
      have hn10 : n ≤ 1000 := by omega
      have y1 : (n : Int) - 1 = (j : Int) := by omega
      have HJ := Lib.hid hj
      have hjn : j ≤ n := by omega
      clear hown hz hst hj hnj hnn
      go_wp2_with fail
      go_ret
      refine ⟨_, rfl, ?_, hbw⟩
      have hc := own_cut HOW.out hjn
      rw [HJ.out, stack_take] at hc
      have e : chainF l = r.reverse := by unfold chainF; rw [HZ.out]; rfl
      rw [e, List.length_reverse, HJ.out]
      exact hc
end Go.Proofs.Ythiemglckmociaa
