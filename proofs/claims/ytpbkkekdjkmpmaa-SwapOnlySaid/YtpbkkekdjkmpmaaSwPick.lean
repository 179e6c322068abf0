/- Trade and Pick of package swap. Conditions: the lists lie in memory as said. -/
import Derived.Test.YtpbkkekdjkmpmaaSwTrade
import Derived.Deep.RegionHeld3
import Derived.Deep.RegionLaw
namespace Go.Proofs.Ytpbkkekdjkmpmaa
open Go.RowKit

/-- The call gives a list in memory and an error. -/
def GivesIE (P : Program) (f : FuncId) (args : Array Value) (w : World) (l : List Int) (e : Int) : Prop :=
  Calls P f args w fun x w' => ∃ v, x = .returned (.tuple #[v, .int .i64 e]) ∧ IntsAt w' v l ∧ Below w.heap.size w w'
def tradeR (L : List (List Int)) : List Int := if vE L = 0 then tradeL L else []
set_option maxHeartbeats 1000000 in
theorem Trade_calls (v : Value) (L : List (List Int)) (w : World) (h : TableAt w v L) :
    GivesIE Try.prog 16 #[v] w (tradeR L) (vE L) := by
  have HT := Lib.hid h
  obtain ⟨sa, cap, rfl, hlc, hcm, -⟩ := h
  unfold GivesIE
  obtain ⟨e, he⟩ : ∃ e, vE L = e := ⟨_, rfl⟩
  have HE := Lib.hid he
  by_cases h0 : e = 0
  · subst h0
    have H1 : Hid (tradeR L = tradeL L) := if_pos he
    clear he
    go_enter Try.func16, Try.ntmps16
    go_wp2_with (first | (go_at_call 12; refine (validate_is HT.out HE.out).use ?_; intro w1 hb1 hz1 hc1 hf1; clear hc1 hf1) | (go_at_call 39; refine (trade_calls _ L _ (HT.out.below (by (repeat' (first | exact Below.refl _ _ | assumption | refine below_new ?_ _ | refine below_draw ?_ | refine below_tail (by assumption) ?_ | refine below_set ?_ (by first | omega | (simp <;> omega)) _)))) (vE_0 HE.out)).mono ?_; rintro e2 w2 ⟨v2, rfl, hi2, hb2⟩; have HI := Lib.hid hi2; clear hi2))
    refine bodyPost_ret (v := .tuple #[v2, .int .i64 0]) (by simp [results, Try.f16, go_sem]) rfl ?_
    exact ⟨_, by rw [HE.out], by rw [H1.out]; exact HI.out, by (repeat' (first | exact Below.refl _ _ | assumption | refine below_new ?_ _ | refine below_draw ?_ | refine below_tail (by assumption) ?_ | refine below_set ?_ (by first | omega | (simp <;> omega)) _))⟩
  · have h1 : (e == 0) = false := by simpa using h0
    have h2 : (e != 0) = true := by simpa using h0
    have H1 : Hid (tradeR L = []) := if_neg (by rw [he]; exact h0)
    clear he h0
    go_enter Try.func16, Try.ntmps16
    go_wp2_with (go_at_call 12; refine (validate_is HT.out HE.out).use ?_; intro w1 hb1 hz1 hc1 hf1; clear hc1 hf1)
    refine bodyPost_ret (v := .tuple #[.slice none 0 0, .int .i64 e]) (by simp [results, Try.f16, go_sem]) rfl ?_
    exact ⟨_, by rw [HE.out], by rw [H1.out]; exact ints0 _ _ _ (by decide), by (repeat' (first | exact Below.refl _ _ | assumption | refine below_new ?_ _ | refine below_draw ?_ | refine below_tail (by assumption) ?_ | refine below_set ?_ (by first | omega | (simp <;> omega)) _))⟩

/-- The error of lists and of a deal or an order. -/
def oE (L : List (List Int)) (l : List Int) : Int := if vE L = 0 then (if ordB l L.length then 0 else 1) else vE L
theorem isOrder_to {v : Value} {l : List Int} {n : Nat} {t : Bool} {w : World} (h : IntsAt w v l) (hn : n ≤ 5) (ht : ordB l n = t) :
    Same Try.prog 34 #[v, .int .i64 n] w (.bool t) := ht ▸ isOrder_is v l n w h hn
set_option maxHeartbeats 1000000 in
theorem ordered_calls (v u : Value) (L : List (List Int)) (l : List Int) (w : World) (h : TableAt w v L) (hu : IntsAt w u l) :
    Gives Try.prog 42 #[v, u] w (.int .i64 (oE L l)) := by
  have HT := Lib.hid h
  have HU := Lib.hid hu
  obtain ⟨sa, cap, rfl, hlc, hcm, -⟩ := h
  obtain ⟨ua, uc, rfl, -⟩ := hu
  unfold Gives
  obtain ⟨e, he⟩ : ∃ e, vE L = e := ⟨_, rfl⟩
  have HE := Lib.hid he
  by_cases h0 : e = 0
  · subst h0
    have h5 := (vB_len (vE_0 HE.out)).2
    cases hb : ordB l L.length
    · have HB := Lib.hid hb
      have H1 : Hid (oE L l = 1) := by show oE L l = 1; unfold oE; rw [if_pos he, hb]; rfl
      clear he hb
      go_enter Try.func42, Try.ntmps42
      go_wp2_with (first | (go_at_call 12; refine (validate_is HT.out HE.out).use ?_; intro w1 hb1 hz1 hc1 hf1; clear hc1 hf1) | (go_at_call 34; refine (isOrder_to (HU.out.below (by (repeat' (first | exact Below.refl _ _ | assumption | refine below_new ?_ _ | refine below_draw ?_ | refine below_tail (by assumption) ?_ | refine below_set ?_ (by first | omega | (simp <;> omega)) _)))) h5 HB.out).use ?_))
      go_ret
      exact ⟨ret_int H1.out.symm, by (repeat' (first | exact Below.refl _ _ | assumption | refine below_new ?_ _ | refine below_draw ?_ | refine below_tail (by assumption) ?_ | refine below_set ?_ (by first | omega | (simp <;> omega)) _))⟩
    · have HB := Lib.hid hb
      have H1 : Hid (oE L l = 0) := by show oE L l = 0; unfold oE; rw [if_pos he, hb]; rfl
      clear he hb
      go_enter Try.func42, Try.ntmps42
      go_wp2_with (first | (go_at_call 12; refine (validate_is HT.out HE.out).use ?_; intro w1 hb1 hz1 hc1 hf1; clear hc1 hf1) | (go_at_call 34; refine (isOrder_to (HU.out.below (by (repeat' (first | exact Below.refl _ _ | assumption | refine below_new ?_ _ | refine below_draw ?_ | refine below_tail (by assumption) ?_ | refine below_set ?_ (by first | omega | (simp <;> omega)) _)))) h5 HB.out).use ?_))
      go_ret
      exact ⟨ret_int H1.out.symm, by (repeat' (first | exact Below.refl _ _ | assumption | refine below_new ?_ _ | refine below_draw ?_ | refine below_tail (by assumption) ?_ | refine below_set ?_ (by first | omega | (simp <;> omega)) _))⟩
  · have h1 : (e == 0) = false := by simpa using h0
    have h2 : (e != 0) = true := by simpa using h0
    have H1 : Hid (oE L l = e) := by show oE L l = e; unfold oE; rw [if_neg (by rw [he]; exact h0), he]
    clear he h0
    go_enter Try.func42, Try.ntmps42
    go_wp2_with (go_at_call 12; refine (validate_is HT.out HE.out).use ?_; intro w1 hb1 hz1 hc1 hf1; clear hc1 hf1)
    go_ret
    exact ⟨ret_int H1.out.symm, by (repeat' (first | exact Below.refl _ _ | assumption | refine below_new ?_ _ | refine below_draw ?_ | refine below_tail (by assumption) ?_ | refine below_set ?_ (by first | omega | (simp <;> omega)) _))⟩
theorem ordered_is {v u : Value} {L : List (List Int)} {l : List Int} {e : Int} {w : World} (h : TableAt w v L) (hu : IntsAt w u l) (he : oE L l = e) :
    Gives Try.prog 42 #[v, u] w (.int .i64 e) := he ▸ ordered_calls v u L l w h hu

/-- What has been taken after k picks. -/
def takenK (L : List (List Int)) (ord : Nat → Nat) : Nat → List Nat
  | 0 => []
  | k + 1 => takenK L ord k ++ [ptN L (fun p => !(takenK L ord k).contains p) (ord k)]
def pickF (L : List (List Int)) (ord : Nat → Nat) (k : Nat) : Nat := ptN L (fun p => !(takenK L ord k).contains p) (ord k)
theorem takenK_len (L : List (List Int)) (ord : Nat → Nat) : ∀ k, (takenK L ord k).length = k
  | 0 => rfl
  | k + 1 => by unfold takenK; rw [List.length_append, takenK_len L ord k]; rfl
theorem left_some {L : List (List Int)} {ord : Nat → Nat} {k : Nat} (hk : k < L.length) : anyL L.length (fun p => !(takenK L ord k).contains p) = true := by
  rw [anyL_iff]
  apply Classical.byContradiction
  intro hc
  have h1 : List.range L.length ⊆ takenK L ord k := by
    intro x hx
    apply Classical.byContradiction
    intro hx2
    exact hc ⟨x, List.mem_range.1 hx, by simpa using hx2⟩
  have := List.nodup_range.length_le_of_subset h1
  rw [List.length_range, takenK_len] at this
  omega
/-- The deal after k picks. -/
def outK (L : List (List Int)) (ord : Nat → Nat) : Nat → Nat → Nat
  | 0, _ => 0
  | k + 1, j => if j = ord k then pickF L ord k else outK L ord k j
theorem outK_succ (L : List (List Int)) (ord : Nat → Nat) (k j : Nat) : outK L ord (k + 1) j = if j = ord k then pickF L ord k else outK L ord k j := rfl
def ordN (l : List Int) (k : Nat) : Nat := (gi l 0 k).toNat
def pickL (L : List (List Int)) (l : List Int) : List Int := (List.range L.length).map fun j => (outK L (ordN l) L.length j : Int)

theorem p1_enters : ∀ args w, (callFunc 66 args).run Try.prog w = .ok (.enter 66 args) w := fun args w => enters_of Try.func66 (by kernel_rfl) rfl args w
set_option maxHeartbeats 400000 in
theorem p1_is (p : Int) (B : Nat) (tv : Value) (l : List Int) (w : World) (h : IntsAt w tv l) (hB : w.cell? ⟨B, 0, none⟩ = some tv) :
    Same Try.prog 66 #[.int .i64 p, .pointer (some ⟨B, 0, none⟩)] w (.bool (!hasB l p)) := by
  have HL := Lib.hid h
  obtain ⟨ua, uc, rfl, -⟩ := h
  unfold Same
  go_enter Try.func66, Try.ntmps66
  go_wp2_with (go_at_call 52; refine (contains_ints _ l _ _ HL.out).use ?_)
  go_ret
  exact ⟨rfl, rfl⟩

theorem box4 {w w4 : World} {b : Nat} {ob o : Obj} {row : Option Nat} (h : w.heap[b]? = some ob) (hg : ((w.alloc o).drew).grownBy w4 row) (hr : row ≠ some b) : w4.heap[b]? = some ob := by
  have hlt := (Array.getElem?_eq_some_iff.1 h).1
  rw [hg.block b (by show b < (w.alloc o).heap.size; simp; exact Nat.lt_succ_of_lt hlt) (fun e => hr e.symm)]
  exact (Below.heap_alloc _ _ _ hlt).trans h
set_option maxRecDepth 100000 in
set_option maxHeartbeats 4000000 in
theorem pick_calls (v u : Value) (L : List (List Int)) (l : List Int) (w : World) (h : TableAt w v L) (hv : vB L = true) (hu : IntsAt w u l) (hl : ordB l L.length = true) :
    GivesI Try.prog 49 #[v, u] w (pickL L l) := by
  have HT := Lib.hid h
  have HU := Lib.hid hu
  have HV := Lib.hid hv
  have hlen : l.length = L.length := (ordB_iff.1 hl).1
  have HORD : Hid (∀ k, k < L.length → gi l 0 k = (ordN l k : Int) ∧ ordN l k < L.length) := by
    show ∀ k, _ → _
    intro k hk
    have h1 : allIn l L.length 0 = true := by
      unfold ordB at hl; rw [Bool.and_eq_true] at hl; exact hl.2
    rw [ord_good hlen] at h1
    unfold goodB at h1
    rw [decide_eq_true_iff] at h1
    have := (h1 k hk (Nat.zero_le _)).1
    unfold ordN
    omega
  obtain ⟨sa, cap, rfl, hlc, hcm, -⟩ := h
  obtain ⟨ua, uc, rfl, hulc, hum, -⟩ := hu
  have h15 := vB_len hv
  have h5 : L.length ≤ 5 := h15.2
  have hmi := fun w => mk_ints w L.length h5
  obtain ⟨i0, hi0, hz0, hi1, hi2⟩ := info_parts infoInt
  rw [hlen] at hulc HU ⊢
  have HLEN := Lib.hid hlen
  clear hv hl hlen h15
  unfold GivesI
  go_enter Try.func49, Try.ntmps49
  go_wp2
  go_loopw [14] (fun i wr => ∃ k : Nat, k ≤ L.length ∧ i = .int .i64 k ∧ Hid (Below w.heap.size w wr) ∧ Hid (blk wr w.heap.size 3 (fun j => .int .i64 (outK L (ordN l) k j : Nat)) L.length) ∧ ∃ tv, Hid (wr.heap[w.heap.size + 1]? = some (.cells #[tv] 35 (0, 0))) ∧ Hid (wr.ownsRow (w.heap.size + 2) 3 1 tv k (cells1 (numsL (takenK L (ordN l) k))))) (fun i _ => L.length - (intOf i).toNat)
  case atStart =>
    refine ⟨0, Nat.zero_le _, rfl, (by (repeat' (first | exact Below.refl _ _ | assumption | refine below_new ?_ _ | refine below_draw ?_ | refine below_tail (by assumption) ?_ | refine below_set ?_ (by first | omega | (simp <;> omega)) _)) : Below w.heap.size w _), ?_, .slice none 0 0, ?_, World.ownsRow_nil _ _ _ _⟩
    · exact ((blk.new w 3 (fun _ => .int .i64 0) L.length rfl).alloc _).congr (fun j _ => by simp [outK])
    · exact alloc_new _ _ (by simp)
  case round =>
    obtain ⟨k, hk, rfl, hb, hbk, tv, hbx, how⟩ := hrel
    by_cases hlt : k < L.length
    · obtain ⟨q, hq⟩ : ∃ q, ordN l k = q := ⟨_, rfl⟩
      have HQ := Lib.hid hq
      have HBX : Hid (w.heap.size + 2 ≤ wr.heap.size) := (Array.getElem?_eq_some_iff.1 hbx.out).1
      obtain ⟨hgk, hqn⟩ := HORD.out k hlt
      rw [hq] at hgk hqn
      obtain ⟨b1, o1, rfl, hB1, hcu⟩ := (HU.out.below hb.out).cellAt (m := k) (by rw [HLEN.out]; exact hlt)
      rw [hgk] at hcu
      obtain ⟨b, o, ru, rfl, hB, hcell, hru⟩ := (HT.out.below hb.out).row hqn
      have HRU := Lib.hid hru
      obtain ⟨ra, rc, rfl, -⟩ := hru
      obtain ⟨m, hm1, hm2, hm3, hm4, -, -⟩ := pt_spec (lf := fun p => !(takenK L (ordN l) k).contains p) HV.out hqn (left_some hlt)
      obtain ⟨p, hp⟩ : ∃ p, ptN L (fun p => !(takenK L (ordN l) k).contains p) q = p := ⟨_, rfl⟩
      rw [hp] at hm3 hm4
      have HP : Hid (pickF L (ordN l) k = p) := by show pickF L (ordN l) k = p; unfold pickF; rw [hq]; exact hp
      obtain ⟨b2, o2, rfl, hB2, hcell2⟩ := HRU.out.cellAt hm2
      rw [hm3] at hcell2
      have hcbx : wr.cell? ⟨w.heap.size + 1, 0, none⟩ = some tv := by rw [cell_of_block hbx.out 0]; rfl
      have hfbx : wr.frozen? ⟨w.heap.size + 1, 0, none⟩ = false := frozen_of_block hbx.out 0
      have hszx : w.heap.size + 1 < wr.heap.size := (Array.getElem?_eq_some_iff.1 hbx.out).1
      have hcq := hbk.out.cell hqn
      have hfq := hbk.out.frozen q
      have HTV : Hid (IntsAt wr tv (numsL (takenK L (ordN l) k))) := own_ints (by rw [numsL_length, takenK_len]; exact how.out)
      have HIF : Hid (Same Try.prog 56 #[.slice (some ⟨b2, o2, none⟩) (gi L [] q).length rc, .func (.func 66) #[] #[.pointer (some ⟨w.heap.size + 1, 0, none⟩)]] wr.drew (.int .i64 m)) := by
        have hh := indexFunc_ints _ (gi L [] q) 66 #[.pointer (some ⟨w.heap.size + 1, 0, none⟩)] (fun x => !(takenK L (ordN l) k).contains x.toNat) wr.drew (HRU.out.below (below_draw (Below.refl _ _))) p1_enters (fun i hi => by
          have hnum := (vB_num HV.out hqn (k := i) (by rw [← (vB_ord HV.out hqn).1]; exact hi)).1
          obtain ⟨x, hx⟩ := Int.eq_ofNat_of_zero_le hnum.1
          rw [hx]
          simp only [Int.toNat_natCast]
          rw [← numsL_has]
          exact p1_is x (w.heap.size + 1) tv _ wr.drew (HTV.out.below (below_draw (Below.refl _ _))) hcbx)
        rw [hm1] at hh
        exact hh
      obtain ⟨ta, tc, rfl⟩ := own_slice how.out
      clear hm1 hm3 hq hgk hp
      go_wp2
      refine wp_region_quiet_tail 14 mixed (by kernel_rfl) ?_
      simp only [List.take_succ_cons, List.take_zero, List.drop_succ_cons, List.drop_zero]
      repeat (go_big_quiet_step (fail))
      go_big_quiet_want
      go_big_quiet_op
      apply Exists.intro
      refine ⟨HIF.out.mono fun _ _ ⟨he, hw⟩ => ⟨he, hw.symm⟩, ?_⟩
      go_big_quiet_on
      repeat (go_big_quiet_step (fail))
      refine wpQuiet_nil ?_
      go_wp2
      obtain ⟨wS, hwS⟩ : ∃ x, (wr.setCell ⟨w.heap.size, q, none⟩ (.int .i64 p)).drew = x := ⟨_, rfl⟩
      rw [hwS]
      have HBS : Hid (Below w.heap.size w wS) := by show Below _ _ _; rw [← hwS]; exact below_draw (below_set hb.out (Nat.le_refl _) _)
      have HKS : Hid (blk wS w.heap.size 3 (fun j => .int .i64 (outK L (ordN l) (k + 1) j : Nat)) L.length) := by
        show blk _ _ _ _ _
        rw [← hwS]
        refine blk.same (w := wr.setCell ⟨w.heap.size, q, none⟩ (.int .i64 p)) (hbk.out.set (fun j hj => ?_)) rfl
        rw [outK_succ, HQ.out, HP.out]
        by_cases e : j = q
        · rw [if_pos e, if_pos e]
        · rw [if_neg e, if_neg e]
      have HXS : Hid (wS.heap[w.heap.size + 1]? = some (.cells #[.slice ta k tc] 35 (0, 0))) := by
        show _ = _
        rw [← hwS]; show (wr.setCell ⟨w.heap.size, q, none⟩ (.int .i64 p)).heap[_]? = _; exact (Below.heap_setCell _ _ _ _ (by simp)).trans hbx.out
      have HOS : Hid (wS.ownsRow (w.heap.size + 2) 3 1 (.slice ta k tc) k (cells1 (numsL (takenK L (ordN l) k)))) := by
        show World.ownsRow _ _ _ _ _ _ _
        rw [← hwS]
        exact World.ownsRow.drew (own_set1 how.out (ne_old how.out (by omega)))
      have HSZ : Hid (wS.heap.size = wr.heap.size) := by show _ = _; rw [← hwS]; show (wr.setCell ⟨w.heap.size, q, none⟩ (.int .i64 p)).heap.size = _; simp
      have hcbS : wS.cell? ⟨w.heap.size + 1, 0, none⟩ = some (.slice ta k tc) := by rw [cell_of_block HXS.out 0]; rfl
      have hcqS : wS.cell? ⟨w.heap.size, q, none⟩ = some (.int .i64 p) := by
        have := HKS.out.cell hqn
        rw [this]
        rw [outK_succ, HQ.out, HP.out, if_pos rfl]
      have HTK : Hid (takenK L (ordN l) (k + 1) = takenK L (ordN l) k ++ [p]) := by
        show takenK L (ordN l) (k + 1) = _
        rw [← HP.out]; rfl
      clear hwS hcbx hfbx hcq hfq hszx HIF HTV hcell2 hcell hcu
      have hobx : (Value.slice ta k tc).ownBlock ≠ some (w.heap.size + 1) := ne_old HOS.out (by omega)
      have hobq : (Value.slice ta k tc).ownBlock ≠ some w.heap.size := ne_old HOS.out (by omega)
      have hwsz : w.heap.size + 1 < wS.heap.size := (Array.getElem?_eq_some_iff.1 HXS.out).1
      go_region_law
        ((refine step_append_any (by rfl) _ _ _ (by rfl) (w.heap.size + 2) 3 i0 _ 1 8 Try.underlying35 hi0 hz0 hi1 hi2 rfl (by decide) _ _ _ (by rfl) (World.ownsRow.drew (HOS.out.alloc _)) _ 1 [.int .i64 p] (by rfl) ⟨rfl, one_int _, .inr ⟨⟨wS.heap.size, 0, none⟩, 1, rfl, fun j x hj => app_src1 wS _ _ j x hj⟩⟩ (by unfold maxLen; omega) (by omega) (by have := HBX.out; simp [HSZ.out]; omega) ?_; intro v' w4 hown4 hgrow hat; obtain ⟨va', vc', rfl⟩ := own_slice hown4; have HX4 : Hid (w4.heap[w.heap.size + 1]? = some (.cells #[.slice ta k tc] 35 (0, 0))) := box4 HXS.out hgrow hobx; have hcb4 : w4.cell? ⟨w.heap.size + 1, 0, none⟩ = some (.slice ta k tc) := (cell_of_block HX4.out 0).trans rfl; have hfb4 : w4.frozen? ⟨w.heap.size + 1, 0, none⟩ = false := frozen_of_block HX4.out 0; have hcq4 : w4.cell? ⟨w.heap.size, q, none⟩ = some (.int .i64 p) := (World.cell?_of_block (a := ⟨w.heap.size, q, none⟩) ((box4 HKS.out hgrow hobq).trans (show wS.heap[w.heap.size]? = _ from HKS.out).symm)).trans hcqS))
      all_goals
        go_wp2
        go_roundw
        case rel =>
          have hB4 : Below w.heap.size w w4 := (below_draw (below_new HBS.out (.cells #[.int .i64 p] 3))).grown hgrow (by have := HBX.out; show _ ≤ (wS.alloc _).heap.size; simp [HSZ.out]; omega) (fun j hj => by have := (HOS.out.lt j hj).1; omega)
          refine ⟨k + 1, by omega, by go_num, below_set hB4 (by simp) _, ?_, .slice va' (k + 1) vc', ?_, ?_⟩
          · exact (HKS.out.same (w' := w4) (by
              rw [hgrow.block w.heap.size (by show _ < (wS.alloc _).heap.size; simp; have := HKS.out.lt; omega) (fun e => ne_old HOS.out (by omega) e.symm)]
              exact Below.heap_alloc _ _ _ HKS.out.lt)).set_other (by simp) _
          · exact (block_set HX4.out 0 _).trans (by simp)
          · unfold Hid
            rw [HTK.out]
            unfold numsL at hown4 ⊢
            rw [List.map_append, cells1_append]
            exact own_set1 hown4 (ne_old hown4 (by omega))
        case measure => simp [intOf]; omega
    · obtain rfl : k = L.length := by omega
      go_wp2
      refine bodyPost_ret (v := .slice (some ⟨w.heap.size, 0, none⟩) L.length L.length) (by simp [results, Try.f49, go_sem]) rfl ?_
      exact ⟨_, rfl, hbk.out.ints h5, hb.out⟩
end Go.Proofs.Ytpbkkekdjkmpmaa
