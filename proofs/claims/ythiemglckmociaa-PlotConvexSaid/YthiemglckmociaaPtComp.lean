/- What slices.Compact at points gives: of neighbours that are equal the first one, in the same row. Conditions: the row is one of the caller's own; it is short and not empty. -/
import Derived.Test.YthiemglckmociaaPtChain
import Derived.Lib.SlicesCompact
namespace Go.Proofs.Ythiemglckmociaa
open Go.RowKit
attribute [local go_sem high] eql_pt neq_pt eqg_pt

theorem arr_get {l : List (Int × Int)} {i : Nat} (h : i < l.length) : l.toArray[i]! = gi l (0, 0) i := by
  rw [gi_lt h, getElem!_pos _ i (by simpa using h)]; simp
theorem own_far {w : World} {base e n g cap : Nat} {xs : List Value} (h : w.ownsRow base e 2 (.slice (some ⟨g, 0, none⟩) n cap) n xs) {j : Nat} (hj : n * 2 ≤ j) (u : Value) : (w.setCell ⟨g, j, none⟩ u).ownsRow base e 2 (.slice (some ⟨g, 0, none⟩) n cap) n xs := by
  have := (h.stored j u).1
  rwa [List.set_eq_of_length_le (by rw [h.1]; exact hj)] at this
theorem own_cells {base e n g cap : Nat} {xs : List Value} : ∀ (vs : List Value) (o : Nat) (w : World), n * 2 ≤ o → w.ownsRow base e 2 (.slice (some ⟨g, 0, none⟩) n cap) n xs → (w.setCells g o vs).ownsRow base e 2 (.slice (some ⟨g, 0, none⟩) n cap) n xs
  | [], _, _, _, h => h
  | v :: vs, o, w, ho, h => own_cells vs (o + 1) _ (by omega) (own_far h ho v)
theorem below_cells {B g : Nat} (hg : B ≤ g) {w0 : World} : ∀ (vs : List Value) (o : Nat) (w : World), Below B w0 w → Below B w0 (w.setCells g o vs)
  | [], _, _, h => h
  | v :: vs, o, w, h => below_cells hg vs (o + 1) _ (h.setCell hg v)
theorem size_cells {g : Nat} : ∀ (vs : List Value) (o : Nat) (w : World), (w.setCells g o vs).heap.size = w.heap.size
  | [], _, _ => rfl
  | v :: vs, o, w => by
    show ((w.setCell ⟨g, o, none⟩ v).setCells g (o + 1) vs).heap.size = _
    rw [size_cells vs (o + 1)]; simp [World.setCell]
theorem clear_pts (w : World) (b o n c : Nat) (ty : TypeId) (hn : 0 < n) (hc : ∀ j, j < n * 2 → (w.cell? ⟨b, o + j, none⟩).isSome = true) (hf : ∀ j, j < n * 2 → w.frozen? ⟨b, o + j, none⟩ = false) :
    (Builtin.clear_ #[22] ty #[.slice (some ⟨b, o, none⟩) n c]).run Try.prog w = .ok (.tuple #[]) (w.setCells b o (Builtin.zeroCells #[.int .i64 0, .int .i64 0] n).toList) := by
  have hl : (Builtin.zeroCells #[.int .i64 0, .int .i64 0] n).toList.length = n * 2 := by rw [Array.length_toList, size_zeroCells]; rfl
  have hst := run_storeCells_cells (P := Try.prog) b o (Builtin.zeroCells #[.int .i64 0, .int .i64 0] n).toList 0 w (by rw [hl]; simpa using hc) (by rw [hl]; simpa using hf) (by
    intro v hv
    unfold Builtin.zeroCells at hv
    rw [Array.toList_map, List.mem_map] at hv
    obtain ⟨i, _, rfl⟩ := hv
    have : i % 2 = 0 ∨ i % 2 = 1 := by omega
    rcases this with e | e <;> simp [e, Value.oneCell'])
  simp only [Nat.add_zero] at hst
  obtain ⟨m, rfl⟩ : ∃ m, n = m + 1 := ⟨n - 1, by omega⟩
  have hz : (Value.agg #[.int .i64 0, .int .i64 0]).cells = #[.int .i64 0, .int .i64 0] := by rfl
  simp [Builtin.clear_, run_underlying Try.underlying22, Try.zeroValue32, hz, hst]
/-- Of neighbours that are equal the first one. -/
def ddF (l : List (Int × Int)) : List (Int × Int) := Lib.compact l
set_option maxHeartbeats 4000000 in
set_option maxRecDepth 100000 in
theorem compactP_calls (base g cap : Nat) (l : List (Int × Int)) (w : World) (h : w.ownsRow base 32 2 (.slice (some ⟨g, 0, none⟩) l.length cap) l.length (cells2 l)) (h0 : 0 < l.length) (hl : l.length ≤ 1000) :
    Calls Try.prog 79 #[.slice (some ⟨g, 0, none⟩) l.length cap] w fun e w' => e = .returned (.slice (some ⟨g, 0, none⟩) (ddF l).length cap) ∧ w'.ownsRow base 32 2 (.slice (some ⟨g, 0, none⟩) (ddF l).length cap) (ddF l).length (cells2 (ddF l)) ∧ w.heap.size ≤ w'.heap.size ∧ Below base w w' := by
  have hg := own_block_le2 h g rfl
  have hcap : l.length ≤ cap ∧ cap ≤ 9223372036854775807 := by
    obtain ⟨_, ⟨e, _⟩ | ⟨g', cap', cur, e, _, _, h1, h2, _⟩⟩ := h
    · cases e
    · cases e; exact ⟨h1, by unfold maxLen at h2; omega⟩
  have HALL : Hid ((∀ j, j < l.length → Lib.keeps l.toArray j = true) → ddF l = l) := fun k => Lib.compact_all l k
  have HDD : Hid (ddF l = Lib.compactUpTo l.toArray l.length) := rfl
  have HO := Lib.hid h
  clear h
  by_cases h2 : l.length < 2
  · have x0 : decide ((l.length : Int) < 2) = true := decide_eq_true (by omega)
    go_enter Try.func79, Try.ntmps79
    go_wp2_with fail
    go_ret
    have e := HALL.out (fun j hj => Lib.keeps_lt_one _ j (by omega))
    rw [e]
    exact ⟨rfl, HO.out, Nat.le_refl _, Below.refl _ _⟩
  · have x0 : decide ((l.length : Int) < 2) = false := decide_eq_false (by omega)
    go_enter Try.func79, Try.ntmps79
    go_wp2_with fail
    go_loopw [3] (fun s wr => ∃ k : Nat, 1 ≤ k ∧ k ≤ l.length ∧ s = .int .i64 k ∧ Hid (∀ j, j < k → Lib.keeps l.toArray j = true) ∧ Hid (wr.ownsRow base 32 2 (.slice (some ⟨g, 0, none⟩) l.length cap) l.length (cells2 l)) ∧ w.heap.size ≤ wr.heap.size ∧ Below base w wr) (fun s _ => l.length - (intOf s).toNat)
    case atStart => exact ⟨1, Nat.le_refl _, by omega, rfl, Lib.keeps_lt_one _, HO.out, Nat.le_refl _, Below.refl _ _⟩
    case round =>
      obtain ⟨k, hk1, hk, rfl, HK, HOW, hsz, hbw⟩ := hrel
      clear HO
      by_cases hlt : k < l.length
      · obtain ⟨i, hi⟩ : ∃ i, k = i + 1 := ⟨k - 1, by omega⟩
        have c0 := (HOW.out.cellAt (k * 2) (by omega)).trans (cells2_get1 _ k hlt)
        have c1 := (HOW.out.cellAt (k * 2 + 1) (by omega)).trans (cells2_get2 _ k hlt)
        have c2 := (HOW.out.cellAt (i * 2) (by omega)).trans (cells2_get1 _ i (by omega))
        have c3 := (HOW.out.cellAt (i * 2 + 1) (by omega)).trans (cells2_get2 _ i (by omega))
        have HA := Lib.hid (arr_get hlt)
        have HB := Lib.hid (arr_get (l := l) (i := i) (by omega))
        generalize gi l (0, 0) k = pa at *
        generalize gi l (0, 0) i = pb at *
        have hw1 : IntKind.i64.wrap ((k : Int) - 1) = (i : Int) := by rw [IntWalk.i64_in _ (by omega)]; omega
        have HI := Lib.hid hi
        have hin : i < l.length := by omega
        have hig : g < wr.heap.size := (HOW.out.lt g rfl).2
        clear hi
        have q0 := fun dr os => cell_regrown c0 dr os
        have q1 := fun dr os => cell_regrown c1 dr os
        have q2 := fun dr os => cell_regrown c2 dr os
        have q3 := fun dr os => cell_regrown c3 dr os
        cases hx : (pa == pb)
        · have HX : Hid (pa ≠ pb) := by unfold Hid; simpa using hx
          go_wp2_with fail
          refine region_q mixed (by kernel_rfl) ?_
          repeat (go_big_quiet_step (fail))
          refine wpQuiet_nil ?_
          intro wq hbq
          clear q0 q1 q2 q3 hw1
          go_wp2_with fail
          go_roundw
          case rel =>
            refine ⟨k + 1, by omega, by omega, by go_num, fun j hj => ?_, own_below HOW.out hbq, by have := hbq.size; omega, hbw.trans (hbq.mono (by omega))⟩
            rcases Nat.lt_succ_iff_lt_or_eq.1 hj with e | e
            · exact HK.out j e
            · subst e
              exact Lib.keeps_pos (by rw [HA.out, show j - 1 = i by have := HI.out; omega, HB.out]; exact HX.out)
          case measure => simp [intOf]; omega
        · have HX : Hid (pa = pb) := by unfold Hid; simpa using hx
          go_wp2_with fail
          refine region_q mixed (by kernel_rfl) ?_
          repeat (go_big_quiet_step (fail))
          refine wpQuiet_nil ?_
          intro wq hbq
          clear q0 q1 q2 q3 hw1
          have b0 : (0 : Int) ≤ (k : Int) := by omega
          have b1 : (k : Int) ≤ (l.length : Int) := by omega
          have b2 : (l.length : Int) ≤ (cap : Int) := by omega
          have b3 : (k : Int) ≤ (cap : Int) := by omega
          have hck : ¬ cap = k := by omega
          have HST : Hid (Lib.CompInv l.toArray (k + 1) k l.toArray) := Lib.CompInv.start HK.out (Lib.keeps_neg (by omega) (by rw [HA.out, show k - 1 = i by have := HI.out; omega, HB.out]; exact HX.out))
          have HOQ : Hid (wq.ownsRow base 32 2 (.slice (some ⟨g, 0, none⟩) l.length cap) l.length (cells2 l)) := own_below HOW.out hbq
          have hsq : w.heap.size ≤ wq.heap.size := by have := hbq.size; omega
          have hbv : Below base w wq := hbw.trans (hbq.mono (by omega))
          clear HOW hbw hbq hsz c0 c1 c2 c3 HX HA HB hx hig HI hin HK
          obtain ⟨n2, hn2⟩ : ∃ n2, l.length - k = n2 := ⟨_, rfl⟩
          have HN2 := Lib.hid hn2
          obtain ⟨cp2, hcp2⟩ : ∃ c, cap - k = c := ⟨_, rfl⟩
          go_wp2_with fail
          go_loopw [3, 5] (fun s3 s5 wr => ∃ (kk k2 : Nat) (r : List (Int × Int)), s3 = .int .i64 kk ∧ s5 = .int .i64 k2 ∧ 1 ≤ k2 ∧ k + k2 ≤ l.length ∧ r.length = l.length ∧ Hid (Lib.CompInv l.toArray (k + k2) kk r.toArray) ∧ Hid (wr.ownsRow base 32 2 (.slice (some ⟨g, 0, none⟩) l.length cap) l.length (cells2 r)) ∧ w.heap.size ≤ wr.heap.size ∧ Below base w wr) (fun _ s _ => l.length - (intOf s).toNat)
          case atStart => exact ⟨k, 1, l, rfl, rfl, Nat.le_refl _, by omega, rfl, HST.out, HOQ.out, hsq, hbv⟩
          case round =>
            clear HST HOQ hsq hbv
            obtain ⟨kk, k2, r, rfl, rfl, hk21, hk2, hrl, HC, HOR, hsz, hbw⟩ := hrel
            have hkk := HC.out.lt
            by_cases hlt2 : k + k2 < l.length
            · have hig : g < wr.heap.size := (HOR.out.lt g rfl).2
              obtain ⟨i, hi⟩ : ∃ i, k2 = i + 1 := ⟨k2 - 1, by omega⟩
              have c0 := (HOR.out.cellAt ((k + k2) * 2) (by omega)).trans (cells2_get1 _ (k + k2) (by omega))
              have c1 := (HOR.out.cellAt ((k + k2) * 2 + 1) (by omega)).trans (cells2_get2 _ (k + k2) (by omega))
              have c2 := (HOR.out.cellAt ((k + i) * 2) (by omega)).trans (cells2_get1 _ (k + i) (by omega))
              have c3 := (HOR.out.cellAt ((k + i) * 2 + 1) (by omega)).trans (cells2_get2 _ (k + i) (by omega))
              have c4 := (HOR.out.cellAt (kk * 2) (by omega)).trans (cells2_get1 _ kk (by omega))
              have c5 := (HOR.out.cellAt (kk * 2 + 1) (by omega)).trans (cells2_get2 _ kk (by omega))
              have f4 := HOR.out.frozenAt (kk * 2)
              have f5 := HOR.out.frozenAt (kk * 2 + 1)
              have ga : gi r (0, 0) (k + k2) = gi l (0, 0) (k + k2) := by rw [← arr_get (by omega), ← arr_get (by omega)]; exact HC.out.high _ (by omega)
              have gb : gi r (0, 0) (k + i) = gi l (0, 0) (k + i) := by rw [← arr_get (by omega), ← arr_get (by omega)]; exact HC.out.high _ (by omega)
              rw [ga, Nat.add_mul] at c0 c1
              rw [gb, Nat.add_mul] at c2 c3
              have HA := Lib.hid (arr_get (l := l) hlt2)
              have HB := Lib.hid (arr_get (l := l) (i := k + i) (by omega))
              generalize gi l (0, 0) (k + k2) = pa at *
              generalize gi l (0, 0) (k + i) = pb at *
              generalize gi r (0, 0) kk = po at *
              clear ga gb
              have hw1 : IntKind.i64.wrap ((k2 : Int) - 1) = (i : Int) := by rw [IntWalk.i64_in _ (by omega)]; omega
              have HI := Lib.hid hi
              have hin : i < n2 := by omega
              have hk2n : k2 < n2 := by omega
              have hkl : kk < l.length := by omega
              clear hi
              have q0 := fun dr os => cell_regrown c0 dr os
              have q1 := fun dr os => cell_regrown c1 dr os
              have q2 := fun dr os => cell_regrown c2 dr os
              have q3 := fun dr os => cell_regrown c3 dr os
              try rw [hn2]
              cases hx : (pa == pb)
              · have HX : Hid (pa ≠ pb) := by unfold Hid; simpa using hx
                go_wp2_with fail
                refine region_q mixed (by kernel_rfl) ?_
                repeat (go_big_quiet_step (fail))
                refine wpQuiet_nil ?_
                intro wq hbq
                clear q0 q1 q2 q3 hw1
                replace c0 := (hbq.cell (p := ⟨g, k * 2 + k2 * 2, none⟩) hig).trans c0
                replace c1 := (hbq.cell (p := ⟨g, k * 2 + k2 * 2 + 1, none⟩) hig).trans c1
                replace c4 := (hbq.cell (p := ⟨g, kk * 2, none⟩) hig).trans c4
                replace c5 := (hbq.cell (p := ⟨g, kk * 2 + 1, none⟩) hig).trans c5
                replace f4 := (hbq.frozen (p := ⟨g, kk * 2, none⟩) hig).trans f4
                replace f5 := (hbq.frozen (p := ⟨g, kk * 2 + 1, none⟩) hig).trans f5
                have HOQ := Lib.hid (own_below HOR.out hbq)
                have hbv : Below base w wq := hbw.trans (hbq.mono (by omega))
                have hsq : w.heap.size ≤ wq.heap.size := by have := hbq.size; omega
                clear hbw hbq c2 c3
                go_wp2_with fail
                go_roundw
                case rel =>
                  have s1 := (HOQ.out.stored (kk * 2) (.int .i64 pa.1)).1
                  have s2 := (s1.stored (kk * 2 + 1) (.int .i64 pa.2)).1
                  rw [← cells2_put] at s2
                  refine ⟨kk + 1, k2 + 1, r.set kk pa, by go_num, by go_num, by omega, by omega, by rw [List.length_set]; exact hrl, ?_, s2, by simpa using hsq, (hbv.setCell (by dsimp only; omega) _).setCell (by dsimp only; omega) _⟩
                  have hkp := HC.out.keep (by simpa using hlt2) (Lib.keeps_pos (by rw [HA.out, show k + k2 - 1 = k + i by have := HI.out; omega, HB.out]; exact HX.out))
                  rw [HA.out] at hkp
                  unfold Hid
                  rw [show (r.set kk pa).toArray = r.toArray.setIfInBounds kk pa by simp]
                  exact hkp
                case measure => simp [intOf]; omega
              · have HX : Hid (pa = pb) := by unfold Hid; simpa using hx
                go_wp2_with fail
                refine region_q mixed (by kernel_rfl) ?_
                repeat (go_big_quiet_step (fail))
                refine wpQuiet_nil ?_
                intro wq hbq
                clear q0 q1 q2 q3 hw1
                have HOQ := Lib.hid (own_below HOR.out hbq)
                have hbv : Below base w wq := hbw.trans (hbq.mono (by omega))
                have hsq : w.heap.size ≤ wq.heap.size := by have := hbq.size; omega
                clear hbw hbq c0 c1 c2 c3 c4 c5 f4 f5
                go_wp2_with fail
                go_roundw
                case rel => exact ⟨kk, k2 + 1, r, rfl, by go_num, by omega, by omega, hrl, HC.out.skip (Lib.keeps_neg (by omega) (by rw [HA.out, show k + k2 - 1 = k + i by have := HI.out; omega, HB.out]; exact HX.out)), HOQ.out, hsq, hbv⟩
                case measure => simp [intOf]; omega
            · have hend : k + k2 = l.length := by omega
              have hkl : kk < l.length := by omega
              have hk2n : k2 = n2 := by omega
              have b0' : (0 : Int) ≤ (kk : Int) := by omega
              have b1' : (kk : Int) ≤ (l.length : Int) := by omega
              have b3' : (kk : Int) ≤ (cap : Int) := by omega
              have hck' : ¬ cap = kk := by omega
              have hcl := fun ty => clear_pts wr g (kk * 2) (l.length - kk) (cap - kk) ty (by omega) (fun j hj => by rw [HOR.out.cellAt (kk * 2 + j) (by omega)]; rw [List.getElem?_eq_getElem (by rw [cells2_length, hrl]; omega)]; rfl) (fun j hj => HOR.out.frozenAt _)
              have HEND := Lib.hid hend
              have x1 : decide ((k2 : Int) < (n2 : Int)) = false := decide_eq_false (by omega)
              try rw [hn2]
              generalize hzz : (Builtin.zeroCells #[.int .i64 0, .int .i64 0] (l.length - kk)).toList = zs at *
              clear hzz
              go_wp2_with fail
              go_ret
              have hc := HC.out
              rw [HEND.out] at hc
              have hlen : (ddF l).length = kk := by rw [HDD.out]; exact hc.len
              have hrow : r.take kk = ddF l := by
                apply List.ext_getElem?
                intro j
                by_cases hj : j < kk
                · rw [List.getElem?_take_of_lt hj, HDD.out, hc.low j hj, arr_get (by omega), gi_lt (by omega)]
                  exact List.getElem?_eq_getElem (by omega)
                · rw [List.getElem?_eq_none (by rw [List.length_take]; omega), List.getElem?_eq_none (by omega)]
              have hcut := own_cut HOR.out (m := kk) (by omega)
              rw [hrow] at hcut
              rw [hlen]
              exact ⟨rfl, own_cells _ _ _ (Nat.le_refl _) hcut, by rw [size_cells]; exact hsz, below_cells hg _ _ _ hbw⟩
      · obtain rfl : k = l.length := by omega
        go_wp2_with fail
        go_ret
        rw [HALL.out HK.out]
        exact ⟨rfl, HOW.out, hsz, hbw⟩
theorem compactP_is {base g cap : Nat} {l s : List (Int × Int)} {w : World} (h : w.ownsRow base 32 2 (.slice (some ⟨g, 0, none⟩) l.length cap) l.length (cells2 l)) (h0 : 0 < l.length) (hl : l.length ≤ 1000) (hs : ddF l = s) :
    Calls Try.prog 79 #[.slice (some ⟨g, 0, none⟩) l.length cap] w fun e w' => e = .returned (.slice (some ⟨g, 0, none⟩) s.length cap) ∧ w'.ownsRow base 32 2 (.slice (some ⟨g, 0, none⟩) s.length cap) s.length (cells2 s) ∧ w.heap.size ≤ w'.heap.size ∧ Below base w w' := by
  subst hs; exact compactP_calls base g cap l w h h0 hl
end Go.Proofs.Ythiemglckmociaa
