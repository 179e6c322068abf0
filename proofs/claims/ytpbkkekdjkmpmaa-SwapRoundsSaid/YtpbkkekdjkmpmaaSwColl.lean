/- The rounds of package swap, collected. Conditions: the lists lie in memory as said. -/
import Derived.Test.YtpbkkekdjkmpmaaSwTop
namespace Go.Proofs.Ytpbkkekdjkmpmaa
open Go.RowKit Go.Shelf
attribute [local go_sem] Oper.semAt_some wide_fn wide_depth

def rndK (L : List (List Int)) (k : Nat) : List (List (List Int)) := (List.range k).map fun r => (cyN L r).map numsL
theorem rndK_succ (L : List (List Int)) (k : Nat) : rndK L (k + 1) = rndK L k ++ [(cyN L k).map numsL] := by simp [rndK, List.range_succ]
theorem rndK_length (L : List (List Int)) (k : Nat) : (rndK L k).length = k := by simp [rndK]
theorem nrN_le (L : List (List Int)) : nrN L ≤ L.length := numR_le
/-- The call gives rounds in memory. -/
def GivesR (P : Program) (f : FuncId) (args : Array Value) (w : World) (l : List (List (List Int))) : Prop :=
  Calls P f args w fun e w' => ∃ v, e = .returned v ∧ RoundsAt w' v l ∧ Below w.heap.size w w'
def GivesRE (P : Program) (f : FuncId) (args : Array Value) (w : World) (l : List (List (List Int))) (x : Int) : Prop :=
  Calls P f args w fun e w' => ∃ v, e = .returned (.tuple #[v, .int .i64 x]) ∧ RoundsAt w' v l ∧ Below w.heap.size w w'
theorem row_keeps {w w' : World} {base size n : Nat} {e : TypeId} {v : Value} {xs : List Value} (hg : w.grownBy w' v.ownBlock) (ho : w.ownsRow base e size v n xs) : KeepsOthers w w' := by
  refine ⟨hg.size, fun k o hk hc => (hg.block k (Array.getElem?_eq_some_iff.1 hk).1 fun e1 => ?_).trans hk⟩
  obtain ⟨_, ⟨rfl, _⟩ | ⟨g, cap, cur, rfl, _, hh, _⟩⟩ := ho
  · cases e1
  · have e2 := Option.some.inj e1
    subst e2
    rw [hk] at hh
    injection hh with hh
    rw [hh] at hc; cases hc

theorem box5 {w w4 : World} {b : Nat} {ob o : Obj} {row : Option Nat} (h : w.heap[b]? = some ob) (hg : (w.alloc o).grownBy w4 row) (hr : row ≠ some b) : w4.heap[b]? = some ob := by
  have hlt := (Array.getElem?_eq_some_iff.1 h).1
  rw [hg.block b (by simp; exact Nat.lt_succ_of_lt hlt) (fun e => hr e.symm)]
  exact (Below.heap_alloc _ _ _ hlt).trans h
theorem keep_box {w : World} {b m : Nat} {t t2 : TypeId} {c : Array Value} {fr : Nat × Nat} {u : Value} (h : w.heap[b]? = some (.cells c t2 fr)) (ht : t ≠ t2) : KeepT m t w (w.setCell ⟨b, 0, none⟩ u) := by
  refine ⟨by simp [World.setCell], fun k cs fr' _ hk => ?_⟩
  rw [Below.heap_setCell _ _ _ _ (fun e => ?_)]
  · exact hk
  · subst e
    rw [h] at hk
    injection hk with hk
    injection hk with _ hk
    exact ht hk.symm
set_option maxHeartbeats 4000000 in
set_option maxRecDepth 100000 in
theorem appendSeq_calls (b0 : Nat) (v : Value) (L : List (List Int)) (w : World) (hc : w.cell? ⟨b0, 0, none⟩ = some v) (h : TableAt w v L) (hv : vB L = true) :
    GivesR Try.prog 53 #[.slice none 0 0, .func (.func 54) #[] #[.pointer (some ⟨b0, 0, none⟩)]] w (rndK L (nrN L)) := by
  have HT := Lib.hid h
  have HV := Lib.hid hv
  have hb0 : b0 < w.heap.size := block_lt_of_cell hc
  have HCL := Lib.hid hc
  have h5 := (vB_len hv).2
  have hn5 := nrN_le L
  obtain ⟨i0, hi0, hz0, hi1, hi2⟩ := info_parts infoTab
  clear hv hc
  unfold GivesR
  refine (callsIn_wide (n := 9)).1 ?_
  refine callsIn_of_wp_marks Try.func53 rfl trivial ?_ rfl
  simp only [Try.ntmps53, List.size_toArray, List.length_cons, List.length_nil, Nat.reduceAdd, Nat.reduceSub, Array.replicate_succ, Array.replicate_zero, List.push_toArray, List.append_toArray, List.nil_append, List.cons_append]
  gi_wp2
  obtain ⟨W0, hW0⟩ : ∃ W0, w.alloc (.cells #[.slice none 0 0] 32) = W0 := ⟨_, rfl⟩
  rw [hW0]
  have hB0 : Below w.heap.size w W0 := by rw [← hW0]; (repeat' (first | exact Below.refl _ _ | assumption | refine below_new ?_ _ | refine below_draw ?_ | refine below_tail (by assumption) ?_ | refine below_set ?_ (by first | omega | (simp <;> omega)) _))
  have hsz : W0.heap.size = w.heap.size + 1 := by rw [← hW0]; simp [go_sem]
  have e1 : W0.heap[w.heap.size]? = some (.cells #[.slice none 0 0] 32 (0, 0)) := by
    rw [← hW0]; exact alloc_new _ _ rfl
  clear hW0
  have pv : ∀ {W W' : World}, W0.heap.size ≤ W.heap.size → Priv W0.heap.size 4 W W' → Below (w.heap.size + 1) W W' := fun h hp => hp.below h |>.mono (by omega)
  refine wide_rangeFuncV (gf := 54) (lb := #[.pointer (some ⟨b0, 0, none⟩)]) (D := 2) rfl (enters_of Try.func54 (by kernel_rfl) rfl) (rounds_iter b0 v L HV.out) (fun B k W args h => by obtain ⟨v, rfl, _⟩ := h; rfl)
    (fun k W => Below w.heap.size w W ∧ k ≤ nrN L ∧ W0.heap.size ≤ W.heap.size ∧ ∃ sv, W.heap[w.heap.size]? = some (.cells #[sv] 32 (0, 0)) ∧ Hid (OwnRnd (W0.heap.size + 4) W sv (rndK L k)))
    (fun _ _ _ => False)
    (fun k W ⟨hB, hk, hs, sv, f1, f2⟩ => ⟨(hB.cell (p := ⟨b0, 0, none⟩) hb0).trans HCL.out, HT.out.below hB⟩)
    (fun k W W' _ ⟨hB, hk, hs, sv, f1, f2⟩ hb => ⟨hB.trans ((pv hs hb).mono (by omega)), hk, Nat.le_trans hs hb.size, sv, ((pv hs hb).block _ (by omega)).trans f1, f2.out.keep (KeepT.of_priv hb (by omega)) (KeepT.of_priv hb (by omega)) (KeepT.of_priv hb (by omega))⟩)
    (fun _ _ _ _ _ h _ => h)
    ?start
    (fun k a' W => ∃ v, a' = { tmps := #[.slice none 0 0, .func (.func 54) #[] #[.pointer (some ⟨b0, 0, none⟩)], .pointer (some ⟨w.heap.size, 0, none⟩), undef, .slice none 0 0, v, .func (.func 54) #[] #[.pointer (some ⟨b0, 0, none⟩)], v, undef, undef, undef, undef, undef], defers := [] } ∧ Hid (TableT (W0.heap.size + 2 + 2) W v ((cyN L k).map numsL)))
    (fun k a' W W' _ ⟨v, ha, hT⟩ hp => ⟨v, ha, hT.out.keep (KeepT.of_priv hp (by omega)) (KeepT.of_priv hp (by omega))⟩) ?assign ?body ?done ?stop
  case start => exact ⟨hB0, Nat.zero_le _, Nat.le_refl _, _, e1, OwnRnd.nil _ _⟩
  case stop => exact fun _ _ _ _ _ h _ => h.elim
  case assign =>
    rintro l' k W args K hsW hI hm ⟨v, rfl, hT⟩ hK
    gi_wp2
    exact hK _ hI ⟨v, rfl, hT⟩
  case body =>
    rintro l' k a' W hl hr hsW ⟨hB, hk, hs, sv, f1, f2⟩ ⟨v, rfl, hT⟩ hkn
    obtain ⟨vals, hvals, hvi⟩ := f2.out
    rw [rndK_length] at hvals hvi
    have HOV := Lib.hid hvals
    have HVI := Lib.hid hvi
    have HF1 := Lib.hid f1
    obtain ⟨ta, tc, rfl⟩ := own_slice hvals
    obtain ⟨va, vc, rfl, hvl, hvm, -⟩ := id hT.out
    rw [List.length_map] at hvl hT ⊢
    have hcb : W.cell? ⟨w.heap.size, 0, none⟩ = some (.slice ta k tc) := (cell_of_block f1 0).trans rfl
    have hlb : w.heap.size < W.heap.size := by omega
    have HSW := Lib.hid hsW
    clear hvals hvi f1 f2 hsW
    gi_wp2_with (gi_at_builtin; refine wpListIn_append_own _ rfl _ _ 32 rfl (W0.heap.size + 4) 22 i0 (.slice none 0 0) 1 24 Try.underlying32 hi0 hz0 hi1 hi2 rfl (by decide) _ _ _ rfl (HOV.out.alloc _) ⟨W.heap.size, 0, none⟩ 1 1 [.slice va (cyN L k).length vc] rfl rfl (app_src1 _ _ _) (one_slice _ _ _) (by unfold maxLen; omega) (by omega) (by have := HSW.out; simp; omega) ?_; intro v' w4 hown4 hgrow _; obtain ⟨va', vc', rfl⟩ := own_slice hown4; have HX4 : Hid (w4.heap[w.heap.size]? = some (.cells #[.slice ta k tc] 32 (0, 0))) := box5 HF1.out hgrow (ne_old HOV.out (by omega)); have hcb4 : w4.cell? ⟨w.heap.size, 0, none⟩ = some (.slice ta k tc) := (cell_of_block HX4.out 0).trans rfl; have hfb4 : w4.frozen? ⟨w.heap.size, 0, none⟩ = false := frozen_of_block HX4.out 0)
    have hKO : KeepsOthers W w4 := (keeps_of_below (by (repeat' (first | exact Below.refl _ _ | assumption | refine below_new ?_ _ | refine below_draw ?_ | refine below_tail (by assumption) ?_ | refine below_set ?_ (by first | omega | (simp <;> omega)) _)) : Below W.heap.size W (W.alloc (.cells #[.slice va (cyN L k).length vc] 22)))).trans (row_keeps hgrow (HOV.out.alloc _))
    have hszw := HSW.out
    refine ⟨hKO.trans (KeepsOthers.setCell _ _ _), fun j h1 h2 => ?_, ?_, by omega, ?_, _, (block_set HX4.out 0 _).trans (by simp; rfl), ?_⟩
    · rw [Below.heap_setCell _ _ _ _ (by show j ≠ w.heap.size; omega), hgrow.block j (by simp; omega) (fun e => by have := (HOV.out.lt j e.symm).1; omega)]
      exact Below.heap_alloc _ _ _ (by omega)
    · exact below_set (below_app hB (Nat.le_refl _) hgrow (fun j hj => by have := (HOV.out.lt j hj).1; omega)) (Nat.le_refl _) _
    · have := hgrow.size; simp at this ⊢; omega
    · unfold Hid
      rw [rndK_succ]
      have ho : OwnRnd (W0.heap.size + 4) w4 (.slice va' (k + 1) vc') (rndK L k ++ [(cyN L k).map numsL]) := OwnRnd.app (by rw [rndK_length]; exact HOV.out.alloc _) (fun j hj => by
        rw [rndK_length] at hj
        obtain ⟨u, hu1, hu2⟩ := HVI.out j hj
        exact ⟨u, hu1, hu2.keep (KeepT.of_below (by (repeat' (first | exact Below.refl _ _ | assumption | refine below_new ?_ _ | refine below_draw ?_ | refine below_tail (by assumption) ?_ | refine below_set ?_ (by first | omega | (simp <;> omega)) _)))) (KeepT.of_below (by (repeat' (first | exact Below.refl _ _ | assumption | refine below_new ?_ _ | refine below_draw ?_ | refine below_tail (by assumption) ?_ | refine below_set ?_ (by first | omega | (simp <;> omega)) _))))⟩) (hT.out.keep (KeepT.of_below (by (repeat' (first | exact Below.refl _ _ | assumption | refine below_new ?_ _ | refine below_draw ?_ | refine below_tail (by assumption) ?_ | refine below_set ?_ (by first | omega | (simp <;> omega)) _)))) (KeepT.of_below (by (repeat' (first | exact Below.refl _ _ | assumption | refine below_new ?_ _ | refine below_draw ?_ | refine below_tail (by assumption) ?_ | refine below_set ?_ (by first | omega | (simp <;> omega)) _))))) hown4 (by rw [rndK_length]) hgrow
      exact ho.keep (keep_box HX4.out (by decide)) (keep_box HX4.out (by decide)) (keep_box HX4.out (by decide))
  case done =>
    rintro D W hD hD2 hsW ⟨hB, hk, hs, sv, f1, f2⟩ hK
    have HR0 := f2.out.rounds
    obtain ⟨ta, tc, rfl, -⟩ := id HR0
    have hcb : W.cell? ⟨w.heap.size, 0, none⟩ = some (.slice ta (rndK L (nrN L)).length tc) := (cell_of_block f1 0).trans rfl
    have HR := Lib.hid HR0
    clear HR0
    gi_wp2
    refine ⟨by simp, .inl ⟨_, _, rfl, run_takeDeferred hK, ?_⟩⟩
    have hP := below_obj (B := w.heap.size + 1) (D := D) (W := W) (.deferred none) (by omega) (by omega)
    refine ⟨.slice ta (rndK L (nrN L)).length tc, by simp [results, Try.f53, go_sem], _, rfl, ?_, hB.trans (hP.mono (by omega))⟩
    have hk1 : ∀ t, KeepT (W0.heap.size + 4) t W (W.putObj D (.deferred none)) := fun t => KeepT.of_priv (B := W0.heap.size) (D := 4) (Priv.put W D _ (by omega) (by omega)) (by omega)
    exact (f2.out.keep (hk1 _) (hk1 _) (hk1 _)).rounds
set_option maxHeartbeats 1000000 in
theorem collect_calls (b0 : Nat) (v : Value) (L : List (List Int)) (w : World) (hc : w.cell? ⟨b0, 0, none⟩ = some v) (h : TableAt w v L) (hv : vB L = true) :
    GivesR Try.prog 36 #[.func (.func 54) #[] #[.pointer (some ⟨b0, 0, none⟩)]] w (rndK L (nrN L)) := by
  have H := Lib.hid (appendSeq_calls b0 v L w hc h hv)
  clear hc h hv
  unfold GivesR
  go_enter Try.func36, Try.ntmps36
  go_wp2_with (go_at_call 53; refine H.out.mono ?_; rintro e w1 ⟨v1, rfl, hr1, hb1⟩; have HR := Lib.hid hr1; clear hr1)
  refine bodyPost_ret (v := v1) (by simp [results, Try.f36, go_sem]) rfl ?_
  exact ⟨_, rfl, HR.out, by (repeat' (first | exact Below.refl _ _ | assumption | refine below_new ?_ _ | refine below_draw ?_ | refine below_tail (by assumption) ?_ | refine below_set ?_ (by first | omega | (simp <;> omega)) _))⟩
def roundsR (L : List (List Int)) : List (List (List Int)) := if vE L = 0 then rndK L (nrN L) else []
theorem rounds0 (w : World) : RoundsAt w (.slice none 0 0) [] := ⟨none, 0, rfl, by simp, by decide, fun i hi => absurd hi (by simp)⟩
set_option maxHeartbeats 1000000 in
theorem Rounds_calls (v : Value) (L : List (List Int)) (w : World) (h : TableAt w v L) :
    GivesRE Try.prog 14 #[v] w (roundsR L) (vE L) := by
  have HT := Lib.hid h
  obtain ⟨sa, cap, rfl, hlc, hcm, -⟩ := h
  unfold GivesRE
  obtain ⟨e, he⟩ : ∃ e, vE L = e := ⟨_, rfl⟩
  have HE := Lib.hid he
  by_cases h0 : e = 0
  · subst h0
    have H1 : Hid (roundsR L = rndK L (nrN L)) := if_pos he
    have HV := Lib.hid (vE_0 he)
    clear he
    go_enter Try.func14, Try.ntmps14
    go_wp2_with (first | (go_at_call 12; refine (validate_is HT.out HE.out).use ?_; intro w1 hb1 hz1 hc1 hf1; clear hc1 hf1) | (go_at_call 37; refine (rounds_calls _ _ _ _).mono ?_; rintro e2 w2 ⟨rfl, rfl⟩) | (go_at_call 36; refine (collect_calls w1.heap.size (.slice sa L.length cap) L _ (by simp) (HT.out.below (by (repeat' (first | exact Below.refl _ _ | assumption | refine below_new ?_ _ | refine below_draw ?_ | refine below_tail (by assumption) ?_ | refine below_set ?_ (by first | omega | (simp <;> omega)) _)))) HV.out).mono ?_; rintro e3 w3 ⟨v3, rfl, hr3, hb3⟩; have HR := Lib.hid hr3; clear hr3))
    refine bodyPost_ret (v := .tuple #[v3, .int .i64 0]) (by simp [results, Try.f14, go_sem]) rfl ?_
    exact ⟨_, by rw [HE.out], by rw [H1.out]; exact HR.out, by (repeat' (first | exact Below.refl _ _ | assumption | refine below_new ?_ _ | refine below_draw ?_ | refine below_tail (by assumption) ?_ | refine below_set ?_ (by first | omega | (simp <;> omega)) _))⟩
  · have h1 : (e == 0) = false := by simpa using h0
    have h2 : (e != 0) = true := by simpa using h0
    have H1 : Hid (roundsR L = []) := if_neg (by rw [he]; exact h0)
    clear he h0
    go_enter Try.func14, Try.ntmps14
    go_wp2_with (go_at_call 12; refine (validate_is HT.out HE.out).use ?_; intro w1 hb1 hz1 hc1 hf1; clear hc1 hf1)
    refine bodyPost_ret (v := .tuple #[.slice none 0 0, .int .i64 e]) (by simp [results, Try.f14, go_sem]) rfl ?_
    exact ⟨_, by rw [HE.out], by rw [H1.out]; exact rounds0 _, by (repeat' (first | exact Below.refl _ _ | assumption | refine below_new ?_ _ | refine below_draw ?_ | refine below_tail (by assumption) ?_ | refine below_set ?_ (by first | omega | (simp <;> omega)) _))⟩
end Go.Proofs.Ytpbkkekdjkmpmaa
