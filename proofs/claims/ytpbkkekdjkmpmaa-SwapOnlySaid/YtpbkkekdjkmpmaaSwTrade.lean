/- The deal of the rounds, as package swap makes it. Conditions: the lists lie in memory as said. -/
import Derived.Test.YtpbkkekdjkmpmaaSwRoundsI
namespace Go.Proofs.Ytpbkkekdjkmpmaa
open Go.RowKit Go.Shelf
attribute [local go_sem] Oper.semAt_some wide_fn wide_depth

/-- What each owner gets, when k rounds are over. -/
def dealK (L : List (List Int)) (k : Nat) (j : Nat) : Nat := if rdN L j < k then ownN L j else 0
/-- The deal of the rounds. -/
def tradeL (L : List (List Int)) : List Int := (List.range L.length).map fun j => (ownN L j : Int)
theorem round_goes {L : List (List Int)} (hv : vB L = true) {k j : Nat} (hk : k < nrN L) (hj : j < L.length) : (cyN L k).flatten.contains j = decide (rdN L j = k) := by
  have := goes_iff (points_of hv) hj ((nrN_iff hv).1 hk)
  rw [Bool.eq_iff_iff, decide_eq_true_iff]
  refine Iff.trans ?_ this
  unfold inC
  rw [List.contains_iff_mem, List.mem_flatten, List.any_eq_true]
  simp only [List.contains_iff_mem]
  rfl
theorem round_cyc {L : List (List Int)} (hv : vB L = true) {k : Nat} (hk : k < nrN L) {c : List Nat} (hc : c ∈ cyN L k) : 0 < c.length ∧ (∀ x ∈ c, x < L.length) ∧ ∀ y (h : y < c.length), c[(y + 1) % c.length]? = some (ptN L (lfN L k) (c[y])) := by
  obtain ⟨h1, h2⟩ := round_ok (points_of hv) ((nrN_iff hv).1 hk)
  exact ⟨cyc_pos h1 h2 hc, fun x hx => cyc_lt h1 h2 hc hx, fun y h => cyc_next h1 h2 hc h⟩
theorem keeps_priv {B D : Nat} {W W' : World} (h : Priv B D W W') (hc : ∀ k, B ≤ k → k < B + D → ∀ o, W.heap[k]? = some o → o.isCells = true) : KeepsOthers W W' :=
  ⟨h.size, fun k o hk ho => (h.block k (Array.getElem?_eq_some_iff.1 hk).1 fun hb => by rw [hc k hb.1 hb.2 o hk] at ho; cases ho).trans hk⟩
theorem priv_stand {B D B' D' : Nat} {W W' : World} (h : Priv B D W W') (h1 : B + D ≤ B') (h2 : B' + D' ≤ W.heap.size) : Stand B' D' W W' :=
  fun k hk1 hk2 => h.block k (by omega) (by omega)

/-- The call gives a list in memory, made new from block m on. -/
def GivesI (P : Program) (f : FuncId) (args : Array Value) (w : World) (l : List Int) : Prop :=
  Calls P f args w fun e w' => ∃ v, e = .returned v ∧ IntsAt w' v l ∧ Below w.heap.size w w'

set_option maxHeartbeats 4000000 in
set_option maxRecDepth 100000 in
theorem trade_calls (v : Value) (L : List (List Int)) (w : World) (h : TableAt w v L) (hv : vB L = true) :
    GivesI Try.prog 39 #[v] w (tradeL L) := by
  have HT := Lib.hid h
  have HV := Lib.hid hv
  obtain ⟨sa, cap, rfl, hlc, hcm, _⟩ := h
  have h15 := vB_len hv
  have h5 : L.length ≤ 5 := h15.2
  have hmi := fun w => mk_ints w L.length h5
  clear hv
  unfold GivesI
  refine (callsIn_wide (n := 9)).1 ?_
  refine callsIn_of_wp_marks Try.func39 rfl trivial ?_ rfl
  simp only [Try.ntmps39, List.size_toArray, List.length_cons, List.length_nil, Nat.reduceAdd, Nat.reduceSub, Array.replicate_succ, Array.replicate_zero, List.push_toArray, List.append_toArray, List.nil_append, List.cons_append]
  gi_wp2_with (gi_at_call 37; refine (callsIn_wide.2 (rounds_calls _ _ _ _)).mono ?_; rintro e w' ⟨rfl, rfl⟩)
  obtain ⟨W0, hW0⟩ : ∃ W0, (((w.alloc (.cells ((List.range L.length).map fun _ => Value.int .i64 0).toArray 3)).alloc (.cells #[.slice (some ⟨w.heap.size, 0, none⟩) L.length L.length] 35)).alloc (.cells #[.slice sa L.length cap] 22)) = W0 := ⟨_, rfl⟩
  rw [hW0]
  have hB0 : Below w.heap.size w W0 := by rw [← hW0]; (repeat' (first | exact Below.refl _ _ | assumption | refine below_new ?_ _ | refine below_draw ?_ | refine below_tail (by assumption) ?_ | refine below_set ?_ (by first | omega | (simp <;> omega)) _))
  have hsz : W0.heap.size = w.heap.size + 3 := by rw [← hW0]; simp [go_sem]
  have e0 : blk W0 w.heap.size 3 (fun j => .int .i64 (dealK L 0 j : Nat)) L.length := by
    rw [← hW0]; exact (((blk.new w 3 (fun _ => .int .i64 0) L.length rfl).congr (fun j _ => by simp [dealK])).alloc _).alloc _
  have e1 : W0.heap[w.heap.size + 1]? = some (.cells #[.slice (some ⟨w.heap.size, 0, none⟩) L.length L.length] 35 (0, 0)) := by
    rw [← hW0, Below.heap_alloc _ _ _ (by simp)]; exact alloc_new _ _ (by simp)
  have e2 : W0.cell? ⟨w.heap.size + 2, 0, none⟩ = some (.slice sa L.length cap) := by
    rw [← hW0]; simp [go_sem]
  clear hW0
  have pv : ∀ {W W' : World}, W0.heap.size ≤ W.heap.size → Priv W0.heap.size 4 W W' → Below (w.heap.size + 3) W W' := fun h hp => hp.below h |>.mono (by omega)
  refine wide_rangeFuncV (gf := 54) (lb := #[.pointer (some ⟨w.heap.size + 2, 0, none⟩)]) (D := 2) rfl (enters_of Try.func54 (by kernel_rfl) rfl) (rounds_iter (w.heap.size + 2) _ L HV.out) (fun B k W args h => by obtain ⟨v, rfl, _⟩ := h; rfl)
    (fun k W => Below w.heap.size w W ∧ k ≤ nrN L ∧ W0.heap.size ≤ W.heap.size ∧ blk W w.heap.size 3 (fun j => .int .i64 (dealK L k j : Nat)) L.length ∧ W.heap[w.heap.size + 1]? = some (.cells #[.slice (some ⟨w.heap.size, 0, none⟩) L.length L.length] 35 (0, 0)) ∧ W.cell? ⟨w.heap.size + 2, 0, none⟩ = some (.slice sa L.length cap))
    (fun _ _ _ => False)
    (fun k W ⟨hB, hk, hs, f0, f1, f2⟩ => ⟨f2, HT.out.below hB⟩)
    (fun k W W' _ ⟨hB, hk, hs, f0, f1, f2⟩ hb => ⟨hB.trans ((pv hs hb).mono (by omega)), hk, Nat.le_trans hs hb.size, f0.same ((pv hs hb).block _ (by omega)), ((pv hs hb).block _ (by omega)).trans f1, ((pv hs hb).cell (p := ⟨w.heap.size + 2, 0, none⟩) (by show w.heap.size + 2 < _; omega)).trans f2⟩)
    (fun _ _ _ _ _ h _ => h)
    ?start
    (fun k a' W => ∃ v, a' = { tmps := #[.slice sa L.length cap, undef, .slice none 0 0, .pointer (some ⟨w.heap.size + 1, 0, none⟩), v, undef, undef, undef, undef, .slice sa L.length cap, .int .i64 L.length, .slice (some ⟨w.heap.size, 0, none⟩) L.length L.length, .slice sa L.length cap, .func (.func 54) #[] #[.pointer (some ⟨w.heap.size + 2, 0, none⟩)], v, undef, undef, undef, undef, undef, undef, undef, undef, undef, undef, undef, undef, undef, undef, undef, undef, undef, undef, undef, undef, undef, undef, undef, undef, undef, undef, undef], defers := [] } ∧ TableT (W0.heap.size + 2 + 2) W v ((cyN L k).map numsL))
    (fun k a' W W' _ ⟨v, ha, hT⟩ hp => ⟨v, ha, hT.keep (KeepT.of_priv hp (by omega)) (KeepT.of_priv hp (by omega))⟩) ?assign ?body ?done ?stop
  case start => exact ⟨hB0, Nat.zero_le _, Nat.le_refl _, e0, e1, e2⟩
  case stop => exact fun _ _ _ _ _ h _ => h.elim
  case assign =>
    rintro l' k W args K hsW hI hm ⟨v, rfl, hT⟩ hK
    gi_wp2
    exact hK _ hI ⟨v, rfl, hT⟩
  case body =>
    rintro l' k a' W hl hr hsW ⟨hB, hk, hs, f0, f1, f2⟩ ⟨v, rfl, hT⟩ hkn
    have hB5 : W.heap.size > w.heap.size + 3 := by omega
    have HTW := Lib.hid hT
    obtain ⟨va, vc, rfl, hvl, hvm, -⟩ := hT
    rw [List.length_map] at hvl HTW
    rw [List.length_map]
    obtain ⟨cs, hcs⟩ : ∃ x, cyN L k = x := ⟨_, rfl⟩
    have HCS := Lib.hid hcs
    have HCY : Hid (∀ c ∈ cs, 0 < c.length ∧ (∀ x ∈ c, x < L.length) ∧ ∀ y (h : y < c.length), c[(y + 1) % c.length]? = some (ptN L (lfN L k) (c[y]))) := by
      show ∀ c ∈ cs, _
      rw [← hcs]
      exact fun c hc => round_cyc HV.out hkn hc
    rw [hcs] at hvl HTW
    rw [hcs]
    obtain ⟨f, hf⟩ : ∃ f, ptN L (lfN L k) = f := ⟨_, rfl⟩
    have HF := Lib.hid hf
    rw [hf] at HCY
    have hcb0 : W.cell? ⟨w.heap.size + 1, 0, none⟩ = some (.slice (some ⟨w.heap.size, 0, none⟩) L.length L.length) := by rw [cell_of_block f1 0]; rfl
    have F0 := Lib.hid f0
    clear hcs hf f0
    gi_wp2
    gi_loopw [17] (fun p wl => ∃ q : Nat, q ≤ cs.length ∧ p = .int .i64 q ∧ Hid (Priv w.heap.size 1 W wl) ∧ Hid (blk wl w.heap.size 3 (fun j => .int .i64 (if (cs.take q).flatten.contains j then (f j : Int) else (dealK L k j : Nat))) L.length)) (fun p _ => cs.length - (intOf p).toNat)
    case atStart => exact ⟨0, Nat.zero_le _, rfl, Priv.refl _ _ _, F0.out.congr (fun j _ => by simp)⟩
    case round =>
      obtain ⟨q, hq, rfl, hpl, hsl⟩ := hrel
      obtain ⟨wl, hwl⟩ : ∃ x, x = wr := ⟨_, rfl⟩
      subst hwl
      by_cases hlq : q < cs.length
      · obtain ⟨c, hc⟩ : ∃ c, cs[q] = c := ⟨_, rfl⟩
        have HTl := Lib.hid (HTW.out.keep (KeepT.of_priv hpl.out (by omega)) (KeepT.of_priv hpl.out (by omega)))
        obtain ⟨a9, c9, e9, -, -, -, hrow⟩ := id HTl.out
        simp only [Value.slice.injEq] at e9
        obtain ⟨rfl, -, rfl⟩ := e9
        obtain ⟨b, o, u, rfl, hB, hcell, hu⟩ := hrow q (by rw [List.length_map]; exact hlq)
        have hgq : gi (cs.map numsL) [] q = numsL c := by rw [gi_lt (by rw [List.length_map]; exact hlq), List.getElem_map, hc]
        rw [hgq] at hu
        have HU := Lib.hid hu
        obtain ⟨⟨ua, uc, rfl, hul, hum, -⟩, -⟩ := hu
        have HCM := Lib.hid (HCY.out c (by rw [← hc]; exact List.getElem_mem _))
        have htake : Hid (cs.take (q + 1) = cs.take q ++ [c]) := by show _ = _; rw [List.take_succ_eq_append_getElem hlq, hc]
        rw [numsL_length] at hul
        rw [numsL_length] at hcell HU
        clear hrow hgq hc
        gi_wp2
        gi_loopw [23] (fun p wx => ∃ y : Nat, y ≤ c.length ∧ p = .int .i64 y ∧ Hid (Priv w.heap.size 1 wl wx) ∧ Hid (blk wx w.heap.size 3 (fun j => .int .i64 (if ((cs.take q).flatten ++ c.take y).contains j then (f j : Int) else (dealK L k j : Nat))) L.length)) (fun p _ => c.length - (intOf p).toNat)
        case atStart => exact ⟨0, Nat.zero_le _, rfl, Priv.refl _ _ _, hsl.out.congr (fun j _ => by simp)⟩
        case round =>
          obtain ⟨y, hy, rfl, hpx, hsx⟩ := hrel
          by_cases hly : y < c.length
          · obtain ⟨hc0, hcl, hcn⟩ := HCM.out
            obtain ⟨x, hx⟩ : ∃ x, c[y] = x := ⟨_, rfl⟩
            have hxl : x < L.length := hcl x (by rw [← hx]; exact List.getElem_mem _)
            have hnx := hcn y hly
            rw [hx] at hnx
            obtain ⟨m, hm⟩ : ∃ m, (y + 1) % c.length = m := ⟨_, rfl⟩
            have hmc : m < c.length := by rw [← hm]; exact Nat.mod_lt _ hc0
            have hm1 : ((y : Int) + 1) % (c.length : Int) = (m : Int) := by rw [← hm, Int.natCast_emod]; simp
            have hm2 : ((y : Int) + 1).tmod (c.length : Int) = (m : Int) := by rw [Int.tmod_eq_emod_of_nonneg (by omega), hm1]
            have hne : c ≠ [] := fun e => by rw [e] at hc0; exact absurd hc0 (by decide)
            have hy1 : IntKind.i64.wrap ((y : Int) + 1) = (y : Int) + 1 := IntWalk.i64_in _ (by omega)
            rw [hm, List.getElem?_eq_getElem hmc] at hnx
            have hnx' : c[m] = f x := Option.some.inj hnx
            have HUx := HU.out.keep (KeepT.of_priv hpx.out (by omega))
            obtain ⟨b3, o3, rfl, hB3, hc3⟩ := HUx.1.cellAt (m := y) (by rw [numsL_length]; exact hly)
            rw [numsL_get hly, hx] at hc3
            obtain ⟨b4, o4, e4, hB4, hc4⟩ := HUx.1.cellAt (m := m) (by rw [numsL_length]; exact hmc)
            cases e4
            rw [numsL_get hmc, hnx'] at hc4
            have hcB : wr.cell? ⟨w.heap.size + 1, 0, none⟩ = some (.slice (some ⟨w.heap.size, 0, none⟩) L.length L.length) := by
              rw [← hcb0]
              exact World.cell?_of_block (a := ⟨w.heap.size + 1, 0, none⟩) ((hpl.out.trans hpx.out).block (w.heap.size + 1) (by have := hpl.out.size; omega) (by omega))
            have hcs := hsx.out.cell hxl
            have hfs := hsx.out.frozen x
            have hyt : Hid (c.take (y + 1) = c.take y ++ [x]) := by show _ = _; rw [List.take_succ_eq_append_getElem hly, hx]
            have HSX := hsx
            clear hsx hx HUx hnx hnx' hcn hcl hm
            gi_wp2
            refine wpIn_region_quiet_tail (asksNone_round _) 10 mixed (by kernel_rfl) (by kernel_rfl) ?_
            simp only [List.take_succ_cons, List.take_zero, List.drop_succ_cons, List.drop_zero]
            repeat (go_big_quiet_step (fail))
            refine wpQuiet_nil ?_
            gi_wp2
            go_roundw
            case rel =>
              refine ⟨y + 1, by omega, by go_num, hpx.out.trans ((Priv.of_below (below_draw (Below.refl _ _))).trans (Priv.set _ _ _ (Nat.le_refl _) (by simp))), (blk.same (w' := wr.drew) HSX.out rfl).set (fun j hj => ?_)⟩
              rw [hyt.out]
              by_cases e : j = x
              · subst e; simp
              · rw [if_neg e]; congr 2
                simp [e]
            case measure => simp [intOf]; omega
          · obtain rfl : y = c.length := by omega
            gi_wp2
            go_roundw
            case rel =>
              refine ⟨q + 1, by omega, by go_num, hpl.out.trans hpx.out, hsx.out.congr (fun j hj => ?_)⟩
              rw [htake.out, List.take_length]
              simp
            case measure => simp [intOf]; omega
      · obtain rfl : q = cs.length := by omega
        have hKO : KeepsOthers W wl := keeps_priv hpl.out (fun j h1 h2 o ho => by
          obtain rfl : j = w.heap.size := by omega
          rw [show W.heap[w.heap.size]? = _ from F0.out] at ho
          cases ho; rfl)
        have hST : Stand (W0.heap.size + 2) 2 W wl := priv_stand hpl.out (by omega) (by omega)
        gi_wp2
        refine ⟨hKO, hST, hB.trans (hpl.out.below (by omega)), hkn, Nat.le_trans hs hpl.out.size, hsl.out.congr (fun j hj => ?_), (hpl.out.block (w.heap.size + 1) (by omega) (by omega)).trans f1, (World.cell?_of_block (a := ⟨w.heap.size + 2, 0, none⟩) (hpl.out.block (w.heap.size + 2) (by omega) (by omega))).trans f2⟩
        rw [List.take_length, ← HCS.out, round_goes HV.out hkn hj]
        unfold dealK
        by_cases e : rdN L j = k
        · rw [decide_eq_true e, if_pos rfl, if_pos (by omega), ← HF.out]
          unfold ownN ownR
          rw [show rdR (ptN L) L.length j = k from e]; rfl
        · rw [decide_eq_false e, if_neg (by decide)]
          by_cases e2 : rdN L j < k
          · rw [if_pos e2, if_pos (by omega)]
          · rw [if_neg e2, if_neg (by omega)]
  case done =>
    rintro D W hD hD2 hsW ⟨hB, hk, hs, f0, f1, f2⟩ hK
    have hcb : W.cell? ⟨w.heap.size + 1, 0, none⟩ = some (.slice (some ⟨w.heap.size, 0, none⟩) L.length L.length) := by rw [cell_of_block f1 0]; rfl
    gi_wp2
    refine ⟨by simp, .inl ⟨_, _, rfl, run_takeDeferred hK, ?_⟩⟩
    have hP := below_obj (B := w.heap.size + 3) (D := D) (W := W) (.deferred none) (by omega) (by omega)
    refine ⟨.slice (some ⟨w.heap.size, 0, none⟩) L.length L.length, by simp [results, Try.f39, go_sem], _, rfl, ?_, hB.trans (hP.mono (by omega))⟩
    have f0' := f0.same (w' := W.putObj D (.deferred none)) (hP.block _ (by omega))
    have hh := f0'.ints h5
    unfold tradeL
    rw [List.map_congr_left (g := fun j => ((dealK L (nrN L) j : Nat) : Int)) (fun j hj => by
      unfold dealK
      rw [if_pos (show rdN L j < nrN L from (rdR_spec (points_of HV.out) (List.mem_range.1 hj)).2.2)])]
    exact hh
end Go.Proofs.Ytpbkkekdjkmpmaa
