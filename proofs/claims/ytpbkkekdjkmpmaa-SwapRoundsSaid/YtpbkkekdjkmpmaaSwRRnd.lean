/- The rounds, as the document has them. Conditions: the lists lie in memory as said. -/
import Derived.Test.YtpbkkekdjkmpmaaSwCyc
namespace Go.Proofs.Ytpbkkekdjkmpmaa
open Go.RowKit

def ringsK (f : Nat → Nat) (n : Nat) (lf : Nat → Bool) (k : Nat) : List (List Nat) := ((List.range k).filter (ringB f n lf)).map fun i => orb f i (wayN f n i)
theorem ringsK_no {f : Nat → Nat} {n : Nat} {lf : Nat → Bool} {k : Nat} (h : ringB f n lf k = false) : ringsK f n lf (k + 1) = ringsK f n lf k := by
  unfold ringsK
  rw [List.range_succ, List.filter_append, List.filter_cons_of_neg (by simp [h])]
  simp
theorem ringsK_yes {f : Nat → Nat} {n : Nat} {lf : Nat → Bool} {k : Nat} (h : ringB f n lf k = true) : ringsK f n lf (k + 1) = ringsK f n lf k ++ [orb f k (wayN f n k)] := by
  unfold ringsK
  rw [List.range_succ, List.filter_append, List.filter_cons_of_pos (by simp [h]), List.map_append]
  simp
theorem ringsK_len {f : Nat → Nat} {n : Nat} {lf : Nat → Bool} {k : Nat} : (ringsK f n lf k).length ≤ k := by
  unfold ringsK
  rw [List.length_map]
  have := List.length_filter_le (ringB f n lf) (List.range k)
  simpa using this
theorem ringsK_none {f : Nat → Nat} {n : Nat} {lf : Nat → Bool} (h : anyL n lf = false) : ringsK f n lf n = [] := by
  unfold ringsK
  rw [List.map_eq_nil_iff, List.filter_eq_nil_iff]
  intro i hi
  have : lf i = false := by
    cases hl : lf i
    · rfl
    · rw [anyL_iff.2 ⟨i, List.mem_range.1 hi, hl⟩] at h; cases h
  unfold ringB
  rw [this]; simp

/-- The call gives rounds in memory that it has made. -/
def GivesO (P : Program) (f : FuncId) (args : Array Value) (w : World) (l : List (List (List Int))) : Prop :=
  Calls P f args w fun e w' => ∃ v, e = .returned v ∧ OwnRnd (w.heap.size + 1) w' v l ∧ Below w.heap.size w w'
set_option maxRecDepth 100000 in
set_option maxHeartbeats 8000000 in
theorem rrounds_calls (v : Value) (L : List (List Int)) (w : World) (h : TableAt w v L) (hv : vB L = true) :
    GivesO Try.prog 38 #[v] w (rndK L (nrN L)) := by
  have HT := Lib.hid h
  have HV := Lib.hid hv
  obtain ⟨h1L, h5⟩ := vB_len hv
  obtain ⟨sa, cap, rfl, hlc, hcm, -⟩ := h
  have hmb := fun w => mk_bools w L.length h5
  obtain ⟨i8, hi8, hz8, hi81, hi82⟩ := info_parts infoInts
  obtain ⟨i9, hi9, hz9, hi91, hi92⟩ := info_parts infoTab
  have hn5 : nrN L ≤ 5 := Nat.le_trans (nrN_le L) h5
  clear hv
  unfold GivesO
  go_enter Try.func38, Try.ntmps38
  go_wp2
  go_loopw [4] (fun p wr => ∃ k : Nat, k ≤ L.length ∧ p = .int .i64 k ∧ Hid (Below w.heap.size w wr) ∧ Hid (blk wr w.heap.size 4 (fun j => .bool (decide (j < k))) L.length)) (fun p _ => L.length - (intOf p).toNat)
  case atStart => exact ⟨0, Nat.zero_le _, rfl, (by (repeat' (first | exact Below.refl _ _ | assumption | refine below_new ?_ _ | refine below_draw ?_ | refine below_tail (by assumption) ?_ | refine below_set ?_ (by first | omega | (simp <;> omega)) _)) : Below w.heap.size w _), (blk.new w 4 (fun _ => .bool false) L.length rfl).congr (fun j _ => by simp)⟩
  case round =>
    obtain ⟨k, hk, rfl, hb, hst⟩ := hrel
    by_cases hlt : k < L.length
    · have hcs := hst.out.cell hlt
      have hfs := hst.out.frozen k
      go_wp2
      go_roundw
      case rel =>
        refine ⟨k + 1, by omega, by go_num, below_set hb.out (Nat.le_refl _) _, hst.out.set (fun j hj => ?_)⟩
        by_cases e : j = k
        · subst e; simp
        · rw [if_neg e]; congr 1; rw [decide_eq_decide]; omega
      case measure => simp [intOf]; omega
    · obtain rfl : k = L.length := by omega
      have hst0 : Hid (blk wr w.heap.size 4 (fun j => .bool (lfN L 0 j)) L.length) := hst.out.congr (fun j hj => by rw [decide_eq_true hj]; rfl)
      have HB0 := hb
      clear hst hlt hk hb
      go_wp2
      go_loopw [5] (fun v wm => ∃ r : Nat, r ≤ nrN L ∧ Hid (Below w.heap.size w wm) ∧ Hid (blk wm w.heap.size 4 (fun j => .bool (lfN L r j)) L.length) ∧ Hid (OwnRnd (w.heap.size + 1) wm v (rndK L r))) (fun _ wm => cntL L.length (boolAt wm w.heap.size))
      case atStart => exact ⟨0, Nat.zero_le _, HB0, hst0, OwnRnd.nil _ _⟩
      case round =>
        obtain ⟨r, hr, hbm, hst, hor⟩ := hrel
        obtain ⟨wm, hwm⟩ : ∃ x, x = wr := ⟨_, rfl⟩
        subst hwm
        clear hst0 HB0
        obtain ⟨lf, hlf⟩ : ∃ f, lfN L r = f := ⟨_, rfl⟩
        obtain ⟨f, hf⟩ : ∃ f, ptN L lf = f := ⟨_, rfl⟩
        have HLF := Lib.hid hlf
        have HF := Lib.hid hf
        have HFF : Hid (∀ i, i < L.length → lf i = true → (∀ j, j < L.length → ptN L lf j < L.length) ∧ ∀ j, j < L.length → lf j = true → lf (ptN L lf j) = true) := by
          show ∀ i, _ → _ → _
          intro i hi hl
          have ha : anyL L.length lf = true := anyL_iff.2 ⟨i, hi, hl⟩
          exact ⟨fun j hj => (points_of HV.out).lt _ j hj ha, fun j hj _ => (points_of HV.out).left _ j hj ha⟩
        have HBO : Hid (BoolsAt wm (.slice (some ⟨w.heap.size, 0, none⟩) L.length L.length) ((List.range L.length).map lf)) := by
          show BoolsAt _ _ _
          rw [← hlf]; exact hst.out.bools h5
        clear hlf hf
        go_wp2_with (go_at_call 59; refine (points_calls _ L lf w.heap.size _ (HT.out.below hbm.out) HV.out HBO.out).mono ?_; rintro e1 w1 ⟨v6, rfl, hi6, hb1⟩; have HI6 := Lib.hid hi6; obtain ⟨⟨a6, c6, rfl, -, -, -⟩, -⟩ := hi6)
        rw [toL_length] at HI6
        rw [toL_length]
        have hst1 := Lib.hid (hst.out.below hb1)
        go_loopw [7, 8] (fun v p wq => ∃ i : Nat, i ≤ L.length ∧ p = .int .i64 i ∧ Hid (Below w1.heap.size w1 wq) ∧ Hid (OwnTab w1.heap.size wq v ((ringsK f L.length lf i).map numsL))) (fun _ p _ => L.length - (intOf p).toNat)
        case atStart => exact ⟨0, Nat.zero_le _, rfl, Below.refl _ _, OwnTab.nil _ _⟩
        case round =>
          obtain ⟨i, hi, rfl, hbq, hot⟩ := hrel
          obtain ⟨v7, hv7⟩ : ∃ x, x = u7 := ⟨_, rfl⟩
          subst hv7
          obtain ⟨wq, hwq⟩ : ∃ x, x = wr := ⟨_, rfl⟩
          subst hwq
          by_cases hli : i < L.length
          · have hrl := ringsK_len (f := f) (n := L.length) (lf := lf) (k := i)
            cases hrb : ringB f L.length lf i
            · have HR : Hid (ringL (ptN L lf) L.length lf i = []) := by show _ = _; rw [HF.out]; unfold ringL; rw [hrb]; rfl
              have HK := Lib.hid (ringsK_no hrb)
              clear hrb
              go_wp2_with (go_at_call 60; refine (cycle_calls _ L lf i _ (HI6.out.1.below hbq.out) hli h5 (HFF.out i hli)).mono ?_; rintro e2 w2 ⟨v9, rfl, hi9', hb2⟩; rw [HR.out] at hi9'; obtain ⟨⟨ca, cc, rfl, -, -, -⟩, -⟩ := hi9')
              go_roundw
              case rel => exact ⟨i + 1, by omega, by go_num, below_tail hb2 hbq.out, by unfold Hid; rw [HK.out]; exact hot.out.keep (KeepT.of_below hb2) (KeepT.of_below hb2)⟩
              case measure => simp [intOf]; omega
            · have HR : Hid (ringL (ptN L lf) L.length lf i = orb f i (wayN f L.length i)) := by show _ = _; rw [HF.out]; unfold ringL; rw [hrb]; rfl
              have HK := Lib.hid (ringsK_yes hrb)
              have hpos : 0 < (orb f i (wayN f L.length i)).length := by
                have hl : lf i = true := by
                  unfold ringB at hrb; rw [Bool.and_eq_true, Bool.and_eq_true] at hrb; exact hrb.1.1
                have h1 := (HFF.out i hli hl).1
                rw [HF.out] at h1
                rw [orb_len]; exact (wayN_spec h1 hli).pos
              clear hrb
              go_wp2_with (first | (go_at_call 60; refine (cycle_calls _ L lf i _ (HI6.out.1.below hbq.out) hli h5 (HFF.out i hli)).mono ?_; rintro e2 w2 ⟨v9, rfl, hi9', hb2⟩; rw [HR.out] at hi9'; have HI9 := Lib.hid hi9'; obtain ⟨⟨ca, cc, rfl, -, -, -⟩, -⟩ := hi9'; rw [numsL_length] at HI9; rw [numsL_length]; have hot2 := hot.out.keep (KeepT.of_below hb2) (KeepT.of_below hb2); obtain ⟨vals, hvals, hvi⟩ := hot2; rw [List.length_map] at hvals; have HOV := Lib.hid hvals; have HVI := Lib.hid hvi; clear hvals hvi) | (at_builtin; refine wpList_append_own _ rfl _ _ 22 rfl w1.heap.size 35 i8 (.slice none 0 0) 1 24 Try.underlying22 hi8 hz8 hi81 hi82 rfl (by decide) _ _ _ rfl (HOV.out.alloc _) ⟨w2.heap.size, 0, none⟩ 1 1 [.slice ca (orb f i (wayN f L.length i)).length cc] rfl rfl (app_src1 _ _ _) (one_slice _ _ _) (by unfold maxLen; omega) (by omega) (by have := hb2.size; have := hbq.out.size; simp; omega) ?_; intro v8' w8 hown8 hgrow8 _))
              go_roundw
              case rel =>
                refine ⟨i + 1, by omega, by go_num, below_app (below_tail hb2 hbq.out) (Nat.le_refl _) hgrow8 (fun j hj => (HOV.out.lt j hj).1), ?_⟩
                unfold Hid
                rw [HK.out, List.map_append]
                exact OwnTab.app (by rw [List.length_map]; exact HOV.out.alloc _) (fun j hj => by
                  obtain ⟨u, hu1, hu2⟩ := HVI.out j hj
                  exact ⟨u, hu1, hu2.keep (KeepT.of_below (by (repeat' (first | exact Below.refl _ _ | assumption | refine below_new ?_ _ | refine below_draw ?_ | refine below_tail (by assumption) ?_ | refine below_set ?_ (by first | omega | (simp <;> omega)) _))))⟩) ((HI9.out.mono (hbq.out.size)).keep (KeepT.of_below (by (repeat' (first | exact Below.refl _ _ | assumption | refine below_new ?_ _ | refine below_draw ?_ | refine below_tail (by assumption) ?_ | refine below_set ?_ (by first | omega | (simp <;> omega)) _))))) hown8 (by rw [List.length_map]) hgrow8
              case measure => simp [intOf]; omega
          · obtain rfl : i = L.length := by omega
            have hrl := ringsK_len (f := f) (n := L.length) (lf := lf) (k := L.length)
            obtain ⟨cs, hcs⟩ : ∃ x, ringsK f L.length lf L.length = x := ⟨_, rfl⟩
            have HTT0 := hot.out.table
            rw [hcs] at HTT0 hrl
            obtain ⟨va, vc, rfl, hvl, hvm, -⟩ := id HTT0
            rw [List.length_map] at hvl HTT0
            rw [List.length_map]
            have HSTq := Lib.hid (hst1.out.below hbq.out)
            have hszq : w.heap.size < wq.heap.size := HSTq.out.lt
            have HTT : Hid (TableT (w.heap.size + 1) wq (.slice va cs.length vc) (cs.map numsL)) := HTT0.mono (by have := hst1.out.lt; omega)
            have hbw : Below wm.heap.size wm wq := hb1.trans (hbq.out.mono hb1.size)
            have HORq := Lib.hid (hor.out.keep (KeepT.of_below hbw) (KeepT.of_below hbw) (KeepT.of_below hbw))
            have HBWq := Lib.hid (below_tail hbw hbm.out)
            clear HTT0 hot
            cases hany : anyL L.length lf
            · have hcs0 : cs = [] := by rw [← hcs]; exact ringsK_none hany
              have hend : r = nrN L := by
                apply Classical.byContradiction
                intro hne
                have := (nrN_iff HV.out (r := r)).1 (by omega)
                rw [HLF.out, hany] at this; cases this
              subst hcs0
              have HRND := HORq.out.rounds
              obtain ⟨ra, rc, rfl, -⟩ := id HRND
              have HEND := Lib.hid hend
              clear HRND hend hany hcs
              go_wp2
              refine bodyPost_ret (v := .slice ra (rndK L r).length rc) (by simp [results, Try.f38, go_sem]) rfl ?_
              exact ⟨_, rfl, by rw [← HEND.out]; exact HORq.out, HBWq.out⟩
            · have hlt : r < nrN L := (nrN_iff HV.out).2 (by rw [HLF.out]; exact hany)
              have hok := HFF.out
              obtain ⟨i1, hi1, hl1⟩ := anyL_iff.1 hany
              obtain ⟨hk1, hk2⟩ := hok i1 hi1 hl1
              rw [HF.out] at hk1 hk2
              have hcyc : cyc f L.length lf = cs := by rw [← hcs]; unfold cyc; exact cycK_eq hk1 hk2 _ (Nat.le_refl _)
              have HCS : Hid (cyN L r = cs) := by
                show cyN L r = cs
                rw [cyN_eq, HLF.out, HF.out]; exact hcyc
              have HMEM : Hid (∀ c ∈ cs, ∀ x ∈ c, x < L.length) := by
                show ∀ c ∈ cs, _
                rw [← hcyc]
                exact fun c hc x hx => cyc_lt hk1 hk2 hc hx
              have hcl : 0 < cs.length := by
                obtain ⟨i2, hi2, hc2⟩ := has_ring hk1 hk2 hany
                rw [hcyc] at hc2
                unfold inC at hc2
                cases cs with
                | nil => cases hc2
                | cons a t => simp
              have hne : cs ≠ [] := fun e => by rw [e] at hcl; exact absurd hcl (by decide)
              have HCNT : Hid (cntL L.length (lfN L (r + 1)) < cntL L.length (lfN L r)) := by
                show _ < _
                rw [lfN_succ, HCS.out, HLF.out, ← hcyc]
                exact cntL_next hk1 hk2 hany
              have HSTM := hst
              clear hok hk1 hk2 hcyc hany hcs hi1 hl1 hst hst1 hbw
              rw [HLF.out] at HSTM HCNT
              go_wp2
              go_loopw [10] (fun p wl => ∃ q : Nat, q ≤ cs.length ∧ p = .int .i64 q ∧ Hid (Priv w.heap.size 1 wq wl) ∧ Hid (blk wl w.heap.size 4 (fun j => .bool (lf j && !((cs.take q).flatten.contains j))) L.length)) (fun p _ => cs.length - (intOf p).toNat)
              case atStart => exact ⟨0, Nat.zero_le _, rfl, Priv.refl _ _ _, HSTq.out.congr (fun j _ => by rw [HLF.out]; simp)⟩
              case round =>
                obtain ⟨q, hq, rfl, hpl, hsl⟩ := hrel
                obtain ⟨wl, hwl⟩ : ∃ x, x = wr := ⟨_, rfl⟩
                subst hwl
                by_cases hlq : q < cs.length
                · obtain ⟨c, hc⟩ : ∃ c, cs[q] = c := ⟨_, rfl⟩
                  have HCM : Hid (∀ x ∈ c, x < L.length) := HMEM.out c (by rw [← hc]; exact List.getElem_mem _)
                  have htake : Hid (cs.take (q + 1) = cs.take q ++ [c]) := by show _ = _; rw [List.take_succ_eq_append_getElem hlq, hc]
                  have HGQ : Hid (gi (cs.map numsL) [] q = numsL c) := by show _ = _; rw [gi_lt (by rw [List.length_map]; exact hlq), List.getElem_map, hc]
                  clear hc
                  go_wp2
                  go_loopw [11] (fun p wx => ∃ y : Nat, y ≤ c.length ∧ p = .int .i64 y ∧ Hid (Priv w.heap.size 1 wl wx) ∧ Hid (blk wx w.heap.size 4 (fun j => .bool (lf j && !(((cs.take q).flatten ++ c.take y).contains j))) L.length)) (fun p _ => c.length - (intOf p).toNat)
                  case atStart => exact ⟨0, Nat.zero_le _, rfl, Priv.refl _ _ _, hsl.out.congr (fun j _ => by simp)⟩
                  case round =>
                    obtain ⟨y, hy, rfl, hpx, hsx⟩ := hrel
                    have hpt := hpl.out.trans hpx.out
                    have HTl := Lib.hid (HTT.out.keep (KeepT.of_priv hpt (Nat.le_refl _)) (KeepT.of_priv hpt (Nat.le_refl _)))
                    obtain ⟨a9, c9, e9, -, -, -, hrow⟩ := id HTl.out
                    simp only [Value.slice.injEq] at e9
                    obtain ⟨rfl, -, rfl⟩ := e9
                    obtain ⟨b, o, u, rfl, hB, hcell, hu⟩ := hrow q (by rw [List.length_map]; exact hlq)
                    rw [HGQ.out] at hu
                    have HU := Lib.hid hu
                    obtain ⟨⟨ua, uc, rfl, hul, hum, -⟩, -⟩ := hu
                    rw [numsL_length] at hul hcell HU
                    clear hrow
                    by_cases hly : y < c.length
                    · obtain ⟨x, hx⟩ : ∃ x, c[y] = x := ⟨_, rfl⟩
                      have hxl : x < L.length := HCM.out x (by rw [← hx]; exact List.getElem_mem _)
                      obtain ⟨b3, o3, rfl, hB3, hc3⟩ := HU.out.1.cellAt (m := y) (by rw [numsL_length]; exact hly)
                      rw [numsL_get hly, hx] at hc3
                      have hcs := hsx.out.cell hxl
                      have hfs := hsx.out.frozen x
                      have hyt : Hid (c.take (y + 1) = c.take y ++ [x]) := by show _ = _; rw [List.take_succ_eq_append_getElem hly, hx]
                      have HSX := hsx
                      clear hsx hx
                      go_wp2
                      go_roundw
                      case rel =>
                        refine ⟨y + 1, by omega, by go_num, hpx.out.trans (Priv.set _ _ _ (Nat.le_refl _) (by simp)), HSX.out.set (fun j hj => ?_)⟩
                        rw [hyt.out]
                        by_cases e : j = x
                        · subst e; simp
                        · rw [if_neg e]; congr 2
                          rw [Bool.eq_iff_iff]
                          simp [e]
                      case measure => simp [intOf]; omega
                    · obtain rfl : y = c.length := by omega
                      go_wp2
                      go_roundw
                      case rel =>
                        refine ⟨q + 1, by omega, by go_num, hpt, hsx.out.congr (fun j hj => ?_)⟩
                        rw [htake.out, List.take_length]
                        simp
                      case measure => simp [intOf]; omega
                · obtain rfl : q = cs.length := by omega
                  have HS3 : Hid (blk wl w.heap.size 4 (fun j => .bool (lfN L (r + 1) j)) L.length) := by
                    refine hsl.out.congr (fun j hj => ?_)
                    rw [List.take_length, lfN_succ, HCS.out, HLF.out]
                    unfold nextL inC
                    congr 3
                    rw [Bool.eq_iff_iff, List.contains_iff_mem, List.mem_flatten, List.any_eq_true]
                    simp only [List.contains_iff_mem]
                  have HTl : Hid (TableT (w.heap.size + 1) wl (.slice va cs.length vc) (cs.map numsL)) := HTT.out.keep (KeepT.of_priv hpl.out (Nat.le_refl _)) (KeepT.of_priv hpl.out (Nat.le_refl _))
                  have HORl := HORq.out.keep (KeepT.of_priv hpl.out (Nat.le_refl _)) (KeepT.of_priv hpl.out (Nat.le_refl _)) (KeepT.of_priv hpl.out (Nat.le_refl _))
                  obtain ⟨vals, hvals, hvi⟩ := HORl
                  rw [rndK_length] at hvals hvi
                  have HOR := Lib.hid hvals
                  have HVI := Lib.hid hvi
                  have HSZL : Hid (w.heap.size + 1 ≤ wl.heap.size) := HS3.out.lt
                  have HBL : Hid (Below w.heap.size w wl) := HBWq.out.trans (hpl.out.below (by omega))
                  clear hvals hvi hsl
                  go_wp2_with (at_builtin; refine wpList_append_own _ rfl _ _ 32 rfl (w.heap.size + 1) 22 i9 (.slice none 0 0) 1 24 Try.underlying32 hi9 hz9 hi91 hi92 rfl (by decide) _ _ _ rfl (HOR.out.alloc _) ⟨wl.heap.size, 0, none⟩ 1 1 [.slice va cs.length vc] rfl rfl (app_src1 _ _ _) (one_slice _ _ _) (by unfold maxLen; omega) (by omega) (by have := HSZL.out; simp; omega) ?_; intro v5' w9 hown9 hgrow9 _)
                  go_roundw
                  case rel =>
                    refine ⟨r + 1, hlt, below_app HBL.out (Nat.le_refl _) hgrow9 (fun j hj => by have := (HOR.out.lt j hj).1; omega), ?_, ?_⟩
                    · refine HS3.out.same ?_
                      rw [hgrow9.block w.heap.size (by have := HSZL.out; simp; omega) (fun e => by have := (HOR.out.lt _ e.symm).1; omega)]
                      exact Below.heap_alloc _ _ _ HS3.out.lt
                    · unfold Hid
                      rw [rndK_succ, HCS.out]
                      exact OwnRnd.app (by rw [rndK_length]; exact HOR.out.alloc _) (fun j hj => by
                        rw [rndK_length] at hj
                        obtain ⟨u, hu1, hu2⟩ := HVI.out j hj
                        exact ⟨u, hu1, hu2.keep (KeepT.of_below (by (repeat' (first | exact Below.refl _ _ | assumption | refine below_new ?_ _ | refine below_draw ?_ | refine below_tail (by assumption) ?_ | refine below_set ?_ (by first | omega | (simp <;> omega)) _)))) (KeepT.of_below (by (repeat' (first | exact Below.refl _ _ | assumption | refine below_new ?_ _ | refine below_draw ?_ | refine below_tail (by assumption) ?_ | refine below_set ?_ (by first | omega | (simp <;> omega)) _))))⟩) (HTl.out.keep (KeepT.of_below (by (repeat' (first | exact Below.refl _ _ | assumption | refine below_new ?_ _ | refine below_draw ?_ | refine below_tail (by assumption) ?_ | refine below_set ?_ (by first | omega | (simp <;> omega)) _)))) (KeepT.of_below (by (repeat' (first | exact Below.refl _ _ | assumption | refine below_new ?_ _ | refine below_draw ?_ | refine below_tail (by assumption) ?_ | refine below_set ?_ (by first | omega | (simp <;> omega)) _))))) hown9 (by rw [rndK_length]) hgrow9
                  case measure =>
                    have hb9 : blk w9 w.heap.size 4 (fun j => .bool (lfN L (r + 1) j)) L.length := by
                      refine HS3.out.same ?_
                      rw [hgrow9.block w.heap.size (by have := HSZL.out; simp; omega) (fun e => by have := (HOR.out.lt _ e.symm).1; omega)]
                      exact Below.heap_alloc _ _ _ HS3.out.lt
                    rw [cnt_blk hb9, cnt_blk HSTM.out]; exact HCNT.out
set_option maxHeartbeats 1000000 in
theorem rRounds_calls (v : Value) (L : List (List Int)) (w : World) (h : TableAt w v L) :
    GivesRE Try.prog 15 #[v] w (roundsR L) (vE L) := by
  have HT := Lib.hid h
  obtain ⟨sa, cap, rfl, hlc, hcm, -⟩ := h
  unfold GivesRE
  obtain ⟨e, he⟩ : ∃ e, vE L = e := ⟨_, rfl⟩
  have HE := Lib.hid he
  by_cases h0 : e = 0
  · subst h0
    have H1 : Hid (roundsR L = rndK L (nrN L)) := if_pos he
    have HV := Lib.hid (vE_0 he)
    clear he
    go_enter Try.func15, Try.ntmps15
    go_wp2_with (first | (go_at_call 13; refine (rvalidate_is HT.out HE.out).use ?_; intro w1 hb1 hz1 hc1 hf1; clear hc1 hf1) | (go_at_call 38; refine (rrounds_calls _ L _ (HT.out.below (by (repeat' (first | exact Below.refl _ _ | assumption | refine below_new ?_ _ | refine below_draw ?_ | refine below_tail (by assumption) ?_ | refine below_set ?_ (by first | omega | (simp <;> omega)) _)))) HV.out).mono ?_; rintro e3 w3 ⟨v3, rfl, hr3, hb3⟩; have HR := Lib.hid hr3.rounds; clear hr3))
    refine bodyPost_ret (v := .tuple #[v3, .int .i64 0]) (by simp [results, Try.f15, go_sem]) rfl ?_
    exact ⟨_, by rw [HE.out], by rw [H1.out]; exact HR.out, by (repeat' (first | exact Below.refl _ _ | assumption | refine below_new ?_ _ | refine below_draw ?_ | refine below_tail (by assumption) ?_ | refine below_set ?_ (by first | omega | (simp <;> omega)) _))⟩
  · have h1 : (e == 0) = false := by simpa using h0
    have h2 : (e != 0) = true := by simpa using h0
    have H1 : Hid (roundsR L = []) := if_neg (by rw [he]; exact h0)
    clear he h0
    go_enter Try.func15, Try.ntmps15
    go_wp2_with (go_at_call 13; refine (rvalidate_is HT.out HE.out).use ?_; intro w1 hb1 hz1 hc1 hf1; clear hc1 hf1)
    refine bodyPost_ret (v := .tuple #[.slice none 0 0, .int .i64 e]) (by simp [results, Try.f15, go_sem]) rfl ?_
    exact ⟨_, by rw [HE.out], by rw [H1.out]; exact rounds0 _, by (repeat' (first | exact Below.refl _ _ | assumption | refine below_new ?_ _ | refine below_draw ?_ | refine below_tail (by assumption) ?_ | refine below_set ?_ (by first | omega | (simp <;> omega)) _))⟩
end Go.Proofs.Ytpbkkekdjkmpmaa
