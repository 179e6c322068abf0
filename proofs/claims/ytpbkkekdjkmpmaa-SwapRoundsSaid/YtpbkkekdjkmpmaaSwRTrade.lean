/- The deal of the rounds and the tops, as the document has them; equal rows of rows. Conditions: the lists lie in memory as said. -/
import Derived.Test.YtpbkkekdjkmpmaaSwRRnd
namespace Go.Proofs.Ytpbkkekdjkmpmaa
open Go.RowKit

theorem OwnRnd.rowT {m : Nat} {w : World} {a : Option Addr} {n cap : Nat} {L : List (List (List Int))} (h : OwnRnd m w (.slice a n cap) L) {k : Nat} (hk : k < L.length) :
    ∃ b o u, a = some ⟨b, o, none⟩ ∧ b < w.heap.size ∧ w.cell? ⟨b, o + k, none⟩ = some u ∧ TableT m w u (gi L [] k) := by
  obtain ⟨vals, h1, h2⟩ := h
  rcases id h1 with ⟨hl, ⟨e, h0⟩ | ⟨g, cap', cur, e, hb, hg, hn, hm, hs, ht⟩⟩
  · omega
  · simp only [Value.slice.injEq] at e
    obtain ⟨rfl, _, rfl⟩ := e
    obtain ⟨u, hu, hiu⟩ := h2 k hk
    have hnl : n = L.length := by
      have := h1.2
      rcases this with ⟨e, _⟩ | ⟨_, _, _, e, _⟩
      · cases e
      · simp only [Value.slice.injEq] at e
        exact e.2.1
    subst hnl
    exact ⟨g, 0, u, rfl, (Array.getElem?_eq_some_iff.1 hg).1, by rw [Nat.zero_add, h1.cellAt k (by omega)]; exact hu, hiu⟩
theorem TableT.rowT {m : Nat} {w : World} {a : Option Addr} {n cap : Nat} {L : List (List Int)} (h : TableT m w (.slice a n cap) L) {k : Nat} (hk : k < L.length) :
    ∃ b o u, a = some ⟨b, o, none⟩ ∧ b < w.heap.size ∧ w.cell? ⟨b, o + k, none⟩ = some u ∧ IntsT m w u (gi L [] k) := by
  obtain ⟨a', cap', e, _, _, _, h3⟩ := h
  cases e
  exact h3 k hk
theorem TableT.form {m : Nat} {w : World} {v : Value} {L : List (List Int)} (h : TableT m w v L) : ∃ a cap, v = .slice a L.length cap ∧ L.length ≤ cap ∧ cap ≤ 9223372036854775807 := by
  obtain ⟨a, cap, e, h1, h2, _⟩ := h
  exact ⟨a, cap, e, h1, h2⟩
theorem IntsT.form {m : Nat} {w : World} {v : Value} {l : List Int} (h : IntsT m w v l) : ∃ a cap, v = .slice a l.length cap ∧ l.length ≤ cap ∧ cap ≤ 9223372036854775807 := by
  obtain ⟨⟨a, cap, e, h1, h2, _⟩, _⟩ := h
  exact ⟨a, cap, e, h1, h2⟩
set_option maxRecDepth 100000 in
set_option maxHeartbeats 8000000 in
theorem rtrade_calls (v : Value) (L : List (List Int)) (w : World) (h : TableAt w v L) (hv : vB L = true) :
    GivesI Try.prog 40 #[v] w (tradeL L) := by
  have HT := Lib.hid h
  have HV := Lib.hid hv
  obtain ⟨h1L, h5⟩ := vB_len hv
  obtain ⟨sa, cap, rfl, hlc, hcm, -⟩ := h
  have hmi := fun w => mk_ints w L.length h5
  have hn5 : nrN L ≤ 5 := Nat.le_trans (nrN_le L) h5
  clear hv
  unfold GivesI
  go_enter Try.func40, Try.ntmps40
  go_wp2_with (go_at_call 38; refine (rrounds_calls _ L _ (HT.out.below (by (repeat' (first | exact Below.refl _ _ | assumption | refine below_new ?_ _ | refine below_draw ?_ | refine below_tail (by assumption) ?_ | refine below_set ?_ (by first | omega | (simp <;> omega)) _)))) HV.out).mono ?_; rintro e1 w1 ⟨v1, rfl, hr1, hb1⟩; have hr2 := hr1.rounds; obtain ⟨ra, rc, rfl, -⟩ := hr2; have HR := Lib.hid hr1)
  simp only [World.size_alloc] at HR
  rw [rndK_length] at HR ⊢
  have HB1 : Hid (Below w.heap.size w w1) := by show Below _ _ _; (repeat' (first | exact Below.refl _ _ | assumption | refine below_new ?_ _ | refine below_draw ?_ | refine below_tail (by assumption) ?_ | refine below_set ?_ (by first | omega | (simp <;> omega)) _))
  have HO1 : Hid (blk w1 w.heap.size 3 (fun j => .int .i64 (dealK L 0 j : Nat)) L.length) :=
    ((blk.new w 3 (fun _ => .int .i64 0) L.length rfl).congr (fun j _ => by simp [dealK])).below hb1
  clear hb1
  go_loopw [5] (fun p wr => ∃ k : Nat, k ≤ nrN L ∧ p = .int .i64 k ∧ Hid (Priv w.heap.size 1 w1 wr) ∧ Hid (blk wr w.heap.size 3 (fun j => .int .i64 (dealK L k j : Nat)) L.length)) (fun p _ => nrN L - (intOf p).toNat)
  case atStart => exact ⟨0, Nat.zero_le _, rfl, Priv.refl _ _ _, HO1⟩
  case round =>
    obtain ⟨k, hk, rfl, hpk, hok⟩ := hrel
    obtain ⟨wk, hwk⟩ : ∃ x, x = wr := ⟨_, rfl⟩
    subst hwk
    by_cases hkn : k < nrN L
    · obtain ⟨cs, hcs⟩ : ∃ x, cyN L k = x := ⟨_, rfl⟩
      have HCS := Lib.hid hcs
      have HCY : Hid (∀ c ∈ cs, 0 < c.length ∧ (∀ x ∈ c, x < L.length) ∧ ∀ y (h : y < c.length), c[(y + 1) % c.length]? = some (ptN L (lfN L k) (c[y]))) := by
        show ∀ c ∈ cs, _
        rw [← hcs]
        exact fun c hc => round_cyc HV.out hkn hc
      obtain ⟨f, hf⟩ : ∃ f, ptN L (lfN L k) = f := ⟨_, rfl⟩
      have HF := Lib.hid hf
      rw [hf] at HCY
      have HG : Hid (gi (rndK L (nrN L)) [] k = cs.map numsL) := by show _ = _; simp [rndK, gi, hkn, hcs]
      clear hcs hf
      go_wp2
      go_loopw [6] (fun p wl => ∃ q : Nat, q ≤ cs.length ∧ p = .int .i64 q ∧ Hid (Priv w.heap.size 1 wk wl) ∧ Hid (blk wl w.heap.size 3 (fun j => .int .i64 (if (cs.take q).flatten.contains j then (f j : Int) else (dealK L k j : Nat))) L.length)) (fun p _ => cs.length - (intOf p).toNat)
      case atStart => exact ⟨0, Nat.zero_le _, rfl, Priv.refl _ _ _, hok.out.congr (fun j _ => by simp)⟩
      case round =>
        obtain ⟨q, hq, rfl, hpl, hsl⟩ := hrel
        obtain ⟨wl, hwl⟩ : ∃ x, x = wr := ⟨_, rfl⟩
        subst hwl
        have hpt := hpk.out.trans hpl.out
        obtain ⟨b, o, u, rfl, hB, hcell, hu⟩ := (HR.out.keep (KeepT.of_priv hpt (by omega)) (KeepT.of_priv hpt (by omega)) (KeepT.of_priv hpt (by omega))).rowT (k := k) (by rw [rndK_length]; exact hkn)
        rw [HG.out] at hu
        have HU := Lib.hid hu
        obtain ⟨ua, uc, rfl, hul, hum⟩ := hu.form
        clear hu
        rw [List.length_map] at hul hcell HU
        by_cases hlq : q < cs.length
        · obtain ⟨c, hc⟩ : ∃ c, cs[q] = c := ⟨_, rfl⟩
          have HCM := Lib.hid (HCY.out c (by rw [← hc]; exact List.getElem_mem _))
          have htake : Hid (cs.take (q + 1) = cs.take q ++ [c]) := by show _ = _; rw [List.take_succ_eq_append_getElem hlq, hc]
          have hgq : gi (cs.map numsL) [] q = numsL c := by rw [gi_lt (by rw [List.length_map]; exact hlq), List.getElem_map, hc]
          obtain ⟨b2, o2, u2, rfl, hB2, hcell2, hu2⟩ := HU.out.rowT (k := q) (by rw [List.length_map]; exact hlq)
          rw [hgq] at hu2
          have HU2 := Lib.hid hu2
          obtain ⟨ua2, uc2, rfl, hul2, hum2⟩ := hu2.form
          clear hu2
          rw [numsL_length] at hul2 hcell2 HU2
          clear hgq hc
          go_wp2
          go_loopw [8] (fun p wx => ∃ y : Nat, y ≤ c.length ∧ p = .int .i64 y ∧ Hid (Priv w.heap.size 1 wl wx) ∧ Hid (blk wx w.heap.size 3 (fun j => .int .i64 (if ((cs.take q).flatten ++ c.take y).contains j then (f j : Int) else (dealK L k j : Nat))) L.length)) (fun p _ => c.length - (intOf p).toNat)
          case atStart => exact ⟨0, Nat.zero_le _, rfl, Priv.refl _ _ _, hsl.out.congr (fun j _ => by simp)⟩
          case round =>
            obtain ⟨y, hy, rfl, hpx, hsx⟩ := hrel
            by_cases hly : y < c.length
            · obtain ⟨hc0, hcl, hcn⟩ := HCM.out
              obtain ⟨x, hx⟩ : ∃ x, c[y] = x := ⟨_, rfl⟩
              have hxl : x < L.length := hcl x (by rw [← hx]; exact List.getElem_mem _)
              have hnx := hcn y hly
              rw [hx] at hnx
              obtain ⟨m, hm⟩ : ∃ m, (y + 1) % c.length = m := ⟨_, rfl⟩
              have hmc : m < c.length := by rw [← hm]; exact Nat.mod_lt _ hc0
              have hm1 : ((y : Int) + 1) % (c.length : Int) = (m : Int) := by rw [← hm, Int.natCast_emod]; simp
              have hm2 : ((y : Int) + 1).tmod (c.length : Int) = (m : Int) := by rw [Int.tmod_eq_emod_of_nonneg (by omega), hm1]
              have hne : c ≠ [] := fun e => by rw [e] at hc0; exact absurd hc0 (by decide)
              have hy1 : IntKind.i64.wrap ((y : Int) + 1) = (y : Int) + 1 := IntWalk.i64_in _ (by omega)
              rw [hm, List.getElem?_eq_getElem hmc] at hnx
              have hnx' : c[m] = f x := Option.some.inj hnx
              have HUx := HU2.out.keep (KeepT.of_priv hpx.out (by omega))
              obtain ⟨b3, o3, rfl, hB3, hc3⟩ := HUx.1.cellAt (m := y) (by rw [numsL_length]; exact hly)
              rw [numsL_get hly, hx] at hc3
              obtain ⟨b4, o4, e4, hB4, hc4⟩ := HUx.1.cellAt (m := m) (by rw [numsL_length]; exact hmc)
              cases e4
              rw [numsL_get hmc, hnx'] at hc4
              have hcs := hsx.out.cell hxl
              have hfs := hsx.out.frozen x
              have hyt : Hid (c.take (y + 1) = c.take y ++ [x]) := by show _ = _; rw [List.take_succ_eq_append_getElem hly, hx]
              have HSX := hsx
              clear hsx hx HUx hnx hnx' hcn hcl hm
              go_wp2
              refine wp_region_quiet_tail 13 mixed (by kernel_rfl) ?_
              simp only [List.take_succ_cons, List.take_zero, List.drop_succ_cons, List.drop_zero]
              repeat (go_big_quiet_step (fail))
              refine wpQuiet_nil ?_
              go_wp2
              go_roundw
              case rel =>
                refine ⟨y + 1, by omega, by go_num, hpx.out.trans ((Priv.of_below (below_draw (Below.refl _ _))).trans (Priv.set _ _ _ (Nat.le_refl _) (by simp))), (blk.same (w' := wr.drew) HSX.out rfl).set (fun j hj => ?_)⟩
                rw [hyt.out]
                by_cases e : j = x
                · subst e; simp
                · rw [if_neg e]; congr 2
                  simp [e]
              case measure => simp [intOf]; omega
            · obtain rfl : y = c.length := by omega
              go_wp2
              go_roundw
              case rel =>
                refine ⟨q + 1, by omega, by go_num, hpl.out.trans hpx.out, hsx.out.congr (fun j hj => ?_)⟩
                rw [htake.out, List.take_length]
                simp
              case measure => simp [intOf]; omega
        · obtain rfl : q = cs.length := by omega
          go_wp2
          go_roundw
          case rel =>
            refine ⟨k + 1, by omega, by go_num, hpt, hsl.out.congr (fun j hj => ?_)⟩
            rw [List.take_length, ← HCS.out, round_goes HV.out hkn hj]
            unfold dealK
            by_cases e : rdN L j = k
            · rw [decide_eq_true e, if_pos rfl, if_pos (by omega), ← HF.out]
              unfold ownN ownR
              rw [show rdR (ptN L) L.length j = k from e]; rfl
            · rw [decide_eq_false e, if_neg (by decide)]
              by_cases e2 : rdN L j < k
              · rw [if_pos e2, if_pos (by omega)]
              · rw [if_neg e2, if_neg (by omega)]
          case measure => simp [intOf]; omega
    · obtain rfl : k = nrN L := by omega
      go_wp2
      refine bodyPost_ret (v := .slice (some ⟨w.heap.size, 0, none⟩) L.length L.length) (by simp [results, Try.f40, go_sem]) rfl ?_
      refine ⟨_, rfl, ?_, HB1.out.trans (hpk.out.below (by have := HO1.out.lt; omega))⟩
      have hh := hok.out.ints h5
      unfold tradeL
      rw [List.map_congr_left (g := fun j => ((dealK L (nrN L) j : Nat) : Int)) (fun j hj => by
        unfold dealK
        rw [if_pos (show rdN L j < nrN L from (rdR_spec (points_of HV.out) (List.mem_range.1 hj)).2.2)])]
      exact hh
end Go.Proofs.Ytpbkkekdjkmpmaa
