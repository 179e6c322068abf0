/- What is left of claims (Deduct), and what is paid (Pay). Conditions: the lists lie in memory as said. -/
import Derived.Test.YthooacpfmjpdmaaGreatDoorOVal
namespace Go.Proofs.YthooacpfmjpdmaaGreatDoor
open Go.RowKit

def dedF (l : List Int) (p : Int) : List Int := l.map fun c => c - c * p / 100
theorem dedF_len (l : List Int) (p : Int) : (dedF l p).length = l.length := by simp [dedF]
theorem dedF_get {l : List Int} {p : Int} {i : Nat} (h : i < l.length) : gi (dedF l p) 0 i = gi l 0 i - gi l 0 i * p / 100 := by simp [dedF, gi, h]
theorem ded_bounds {c p : Int} (h1 : 0 ≤ c) (h2 : c ≤ 1000) (h3 : 0 ≤ p) (h4 : p ≤ 100) : 0 ≤ c * p ∧ c * p ≤ 100000 ∧ 0 ≤ c * p / 100 ∧ c * p / 100 ≤ c := by
  have a1 : 0 ≤ c * p := Int.mul_nonneg h1 h3
  have a2 : c * p ≤ c * 100 := Int.mul_le_mul_of_nonneg_left h4 h1
  omega
theorem dedF_claims {l : List Int} {p : Int} (h : claimsB l = true) (h3 : 0 ≤ p) (h4 : p ≤ 100) : claimsB (dedF l p) = true := by
  rw [claimsB_iff] at h ⊢
  rw [dedF_len]
  refine ⟨h.1, fun x hx => ?_⟩
  obtain ⟨c, hc, rfl⟩ := List.mem_map.1 hx
  have := h.2 c hc
  have := ded_bounds this.1 this.2 h3 h4
  omega
theorem claims_few {l : List Int} (h : claimsB l = true) : Few l := by
  rw [claimsB_iff] at h
  exact ⟨by omega, fun x hx => by have := h.2 x hx; omega⟩
/-- The row of a list as it is deducted, up to k. -/
def dedG (l : List Int) (p : Int) (k j : Nat) : Value := .int .i64 (if j < k then gi (dedF l p) 0 j else gi l 0 j)
theorem range_cells (l : List Int) : (List.range l.length).map (fun j => Value.int .i64 (gi l 0 j)) = cells1 l := by
  apply List.ext_getElem
  · simp [cells1]
  · intro i h1 h2
    have hi : i < l.length := by simpa using h1
    simp [cells1, gi, hi]
theorem range_gi {m : List Int} {n : Nat} (h : m.length = n) : (List.range n).map (fun j => gi m 0 j) = m := by
  subst h
  apply List.ext_getElem
  · simp
  · intro i h1 h2
    simp [gi, h2]
theorem splice_all {L cs : List Value} (h : L.length = cs.length) : splice L 0 cs = cs := by
  unfold splice
  rw [List.take_zero, List.nil_append, Nat.zero_add, ← h, List.drop_length, List.append_nil]
theorem dedG_step {l : List Int} {p : Int} {k : Nat} (h : k < l.length) : ∀ j, j < l.length → (if j = k then Value.int .i64 (gi l 0 k - gi l 0 k * p / 100) else dedG l p k j) = dedG l p (k + 1) j := by
  intro j hj
  by_cases e : j = k
  · subst e
    rw [if_pos rfl]
    unfold dedG
    rw [if_pos (by omega), dedF_get hj]
  · rw [if_neg e]
    unfold dedG
    by_cases e2 : j < k
    · rw [if_pos e2, if_pos (by omega)]
    · rw [if_neg e2, if_neg (by omega)]
set_option maxHeartbeats 2000000 in
set_option maxRecDepth 100000 in
/-- Of claims and a part. -/
theorem Deduct_calls (v : Value) (l : List Int) (p : Int) (w : World) (h : IntsAt w v l) (hb : claimsB l = true) (h3 : 0 ≤ p) (h4 : p ≤ 100) :
    Calls Tryz.prog 83 #[v, .int .i64 p] w fun e w' => ∃ v', e = .returned (.tuple #[v', .int .i64 (sumI l - sumI (dedF l p)), .int .i64 0]) ∧ IntsT w.heap.size w' v' (dedF l p) ∧ Below w.heap.size w w' := by
  have HI := Lib.hid h
  have HCB := Lib.hid hb
  have HFL := Lib.hid (claims_few hb)
  have HFD := Lib.hid (claims_few (dedF_claims hb h3 h4))
  have HCL := Lib.hid (claimsB_iff.1 hb).2
  obtain ⟨s1, hs1⟩ : ∃ s, sumI l = s := ⟨_, rfl⟩
  obtain ⟨s2, hs2⟩ : ∃ s, sumI (dedF l p) = s := ⟨_, rfl⟩
  have HS1 := Lib.hid hs1
  have HS2 := Lib.hid hs2
  have b1 := few_sum HFL.out l.length
  have b2 := few_sum HFD.out (dedF l p).length
  rw [List.take_length] at b1 b2
  rw [hs1] at b1
  rw [hs2] at b2
  rw [hs1, hs2]
  clear hs1 hs2
  have h8 : l.length ≤ 8 := (claimsB_iff.1 hb).1.2
  have h81 : 1 ≤ l.length := (claimsB_iff.1 hb).1.1
  obtain ⟨a, cap, rfl, hlc, hcm, -⟩ := h
  obtain ⟨sb, so, rfl, hsrc⟩ := ints_source HI.out h81
  have HSRC : Hid (∀ w1, Below w.heap.size w w1 → ∀ j u, (cells1 l)[j]? = some u → w1.cell? ((⟨sb, so, none⟩ : Addr).add j) = some u) := fun w1 hb j u hu => (hb.cell (p := (⟨sb, so, none⟩ : Addr).add j) (block_lt_of_cell (hsrc j u hu))).trans (hsrc j u hu)
  clear hsrc
  have hmi := fun w => mk_ints w l.length h8
  have k1 : decide (p < 0) = false := decide_eq_false (by omega)
  have k2 : decide (100 < p) = false := decide_eq_false (by omega)
  have k1' : ¬ p < 0 := by omega
  have k2' : ¬ 100 < p := by omega
  clear hb
  go_enter Tryz.func83, Tryz.ntmps83
  go_wp2_with (first
    | (go_at_call 99; refine (isClaims_is HI.out HCB.out).use ?_; intro w1 hb1 hz1 hc1 hf1; clear hc1 hf1)
    | ((with_reducible show wpList _ _ _ (⟨some 26, _, _, _, _, _⟩ :: _) _ _); go_loud (refine wpList_copy_splice rfl (.tmp 24) (.tmp 25) 22 22 rfl 3 Tryz.underlying22 (by kernel_rfl) (some ⟨w1.heap.size, 0, none⟩) (some ⟨sb, so, none⟩) l.length l.length l.length cap rfl rfl w1.heap.size 0 ((List.range l.length).map fun _ => Value.int .i64 0) 3 (blk.new w1 3 (fun _ => .int .i64 0) l.length rfl) (cells1 l) (by simp [cells1]) (fun _ => ⟨rfl, ⟨sb, so, none⟩, rfl, fun j u hu => HSRC.out _ (below_new hb1 _) j u hu⟩) (by simp [cells1]) (cells1_one l) w.heap.size w (below_new hb1 _) hb1.size ?_); intro w2 hg2 hb2))
  have HK : Hid (blk w2 w1.heap.size 3 (dedG l p 0) l.length) := by
    show w2.heap[_]? = _
    rw [hg2.out, splice_all (by simp [cells1]), ← range_cells]
    simp [dedG]
  obtain ⟨B, hB⟩ : ∃ B, w1.heap.size = B := ⟨_, rfl⟩
  have hwB : w.heap.size ≤ B := by rw [← hB]; exact hb1.size
  rw [hB] at HK ⊢
  clear hg2 hB
  go_loopw [29] (fun i wr => ∃ k : Nat, k ≤ l.length ∧ i = .int .i64 k ∧ Hid (Below w.heap.size w wr) ∧ Hid (blk wr B 3 (dedG l p k) l.length)) (fun i _ => l.length - (intOf i).toNat)
  case atStart => exact ⟨0, Nat.zero_le _, rfl, hb2, HK⟩
  case round =>
    obtain ⟨k, hk, rfl, hb, hbk⟩ := hrel
    by_cases hlt : k < l.length
    · obtain ⟨b', o', e', hB', hcell⟩ := (HI.out.below hb.out).cellAt hlt
      cases e'
      have hc2 := hbk.out.cell hlt
      have hf2 := hbk.out.frozen k
      have hlb := hbk.out.lt
      have hx := HCL.out (gi l 0 k) (by rw [gi_lt hlt]; exact List.getElem_mem _)
      have hbd := ded_bounds hx.1 hx.2 h3 h4
      have HS := Lib.hid (dedG_step (p := p) hlt)
      rw [show dedG l p k k = .int .i64 (gi l 0 k) by simp [dedG]] at hc2
      obtain ⟨x, hxe⟩ : ∃ x, gi l 0 k = x := ⟨_, rfl⟩
      rw [hxe] at HS hc2 hcell hbd hx
      have hw1 : IntKind.i64.wrap (x * p) = x * p := IntWalk.i64_in _ (by omega)
      have hw2 : (x * p).tdiv 100 = x * p / 100 := Int.tdiv_eq_ediv_of_nonneg hbd.1
      have hw3 : IntKind.i64.wrap (x * p / 100) = x * p / 100 := IntWalk.i64_in _ (by omega)
      have hw4 : IntKind.i64.wrap (x - x * p / 100) = x - x * p / 100 := IntWalk.i64_in _ (by omega)
      have hw6 : IntKind.i64.wrap ((k : Int) + 1) = (k : Int) + 1 := IntWalk.i64_in _ (by omega)
      clear hxe hx
      go_wp2
      go_roundw
      case rel => exact ⟨k + 1, by omega, by go_num, below_set hb.out hwB _, hbk.out.set HS.out⟩
      case measure => simp [intOf]; omega
    · obtain rfl : k = l.length := by omega
      have HR : Hid (IntsAt wr (.slice (some ⟨B, 0, none⟩) l.length l.length) (dedF l p)) := by
        show IntsAt _ _ _
        have := (hbk.out.congr (g' := fun j => .int .i64 (gi (dedF l p) 0 j)) (fun j hj => by unfold dedG; rw [if_pos hj])).ints h8
        rwa [range_gi (dedF_len l p)] at this
      have HBB : Hid (∃ cs, wr.heap[B]? = some (.cells cs 3 (0, 0))) := ⟨_, hbk.out⟩
      have hw1 : IntKind.i64.wrap (s1 - s2) = s1 - s2 := IntWalk.i64_in _ (by omega)
      go_wp2_with (first
        | (go_at_call 110; (with_reducible refine (ctotal_is (HI.out.below hb.out) HFL.out HS1.out).use ?_))
        | (go_at_call 110; (with_reducible refine (ctotal_is HR.out HFD.out HS2.out).use ?_)))
      refine bodyPost_ret (v := .tuple #[.slice (some ⟨B, 0, none⟩) l.length l.length, .int .i64 (s1 - s2), .int .i64 0]) (by simp [results, Tryz.f83, go_sem]) rfl ?_
      exact ⟨_, rfl, ⟨HR.out, fun b hbb => by cases hbb; exact ⟨hwB, HBB.out⟩⟩, hb.out⟩

def payF (c l : List Int) (p : Int) : List Int := (List.range c.length).map fun i => (gi c 0 i - gi l 0 i) * p
theorem payF_len (c l : List Int) (p : Int) : (payF c l p).length = c.length := by simp [payF]
/-- The payments up to k. -/
def payK (c l : List Int) (p : Int) (k : Nat) : List Int := (List.range k).map fun i => (gi c 0 i - gi l 0 i) * p
theorem payK_succ (c l : List Int) (p : Int) (k : Nat) : payK c l p (k + 1) = payK c l p k ++ [(gi c 0 k - gi l 0 k) * p] := by simp [payK, List.range_succ]
theorem pay_bounds {x y p : Int} (h1 : 0 ≤ x) (h2 : x ≤ 1000) (h3 : 0 ≤ y) (h4 : y ≤ 10000) (h5 : 0 ≤ p) (h6 : p ≤ 1000) : -10000000 ≤ (x - y) * p ∧ (x - y) * p ≤ 1000000 := by
  have a1 : (x - y) * p ≤ 1000 * p := Int.mul_le_mul_of_nonneg_right (by omega) h5
  have a2 : -10000 * p ≤ (x - y) * p := Int.mul_le_mul_of_nonneg_right (by omega) h5
  omega
theorem payF_few {c l : List Int} {p : Int} (hc : claimsB c = true) (hl : ∀ i, i < c.length → 0 ≤ gi l 0 i ∧ gi l 0 i ≤ 10000) (h5 : 0 ≤ p) (h6 : p ≤ 1000) : Few (payF c l p) := by
  rw [claimsB_iff] at hc
  refine ⟨by rw [payF_len]; omega, fun x hx => ?_⟩
  obtain ⟨i, hi, rfl⟩ := List.mem_map.1 hx
  have hi' := List.mem_range.1 hi
  have h1 := hc.2 (gi c 0 i) (by rw [gi_lt hi']; exact List.getElem_mem _)
  have h2 := hl i hi'
  have := pay_bounds h1.1 h1.2 h2.1 h2.2 h5 h6
  omega
set_option maxHeartbeats 2000000 in
set_option maxRecDepth 100000 in
theorem Pay_ok (v u : Value) (c l : List Int) (p : Int) (w : World) (h : IntsAt w v c) (hu : IntsAt w u l) (hb : claimsB c = true) (hlen : l.length = c.length) (hl : ∀ x ∈ l, 0 ≤ x ∧ x ≤ 10000) (h3 : 0 ≤ p) (h4 : p ≤ 1000) :
    Calls Tryz.prog 68 #[v, u, .int .i64 p] w fun e w' => ∃ v', e = .returned (.tuple #[v', .int .i64 0]) ∧ IntsT w.heap.size w' v' (payF c l p) ∧ Below w.heap.size w w' := by
  have HI := Lib.hid h
  have HU := Lib.hid hu
  have HCB := Lib.hid hb
  have HCL := Lib.hid (claimsB_iff.1 hb).2
  have HLL := Lib.hid hl
  have HLN := Lib.hid hlen
  have h8 : c.length ≤ 8 := (claimsB_iff.1 hb).1.2
  have hany : (l.any fun x => !(withinB x 0 10000)) = false := by
    rw [List.any_eq_false]
    intro x hx
    have := withinB_iff.2 (hl x hx)
    simp [this]
  have HP := Lib.hid (fun w1 (hb1 : Below w.heap.size w w1) => containsFunc_ints u l 101 #[] (fun x => !(withinB x 0 10000)) w1 (hu.below hb1) (fun _ _ => by kernel_rfl) (fun x w' _ => pay1_calls x w'))
  rw [hany] at HP
  obtain ⟨a, cap, rfl, hlc, hcm, -⟩ := h
  obtain ⟨ua, uc, rfl, huc, hum, -⟩ := hu
  obtain ⟨i0, hi0, hz0, hi1, hi2⟩ := info_parts infoInt
  have k0 : ((l.length : Int) != (c.length : Int)) = false := by simp; omega
  have k1 : decide (p < 0) = false := decide_eq_false (by omega)
  have k2 : decide (1000 < p) = false := decide_eq_false (by omega)
  have k1' : ¬ p < 0 := by omega
  have k2' : ¬ 1000 < p := by omega
  clear hb hl hlen hany
  go_enter Tryz.func68, Tryz.ntmps68
  go_wp2_with (first
    | (go_at_call 99; refine (isClaims_is HI.out HCB.out).use ?_; intro w1 hb1 hz1 hc1 hf1; clear hc1 hf1)
    | (go_at_call 100; refine (HP.out _ (by (repeat' (first | exact Below.refl _ _ | assumption | refine below_new ?_ _ | refine below_draw ?_ | refine below_tail (by assumption) ?_ | refine below_set ?_ (by first | omega | (simp <;> omega)) _)))).use ?_; intro w2 hb2 hz2 hc2 hf2; clear hc2 hf2))
  have HB2 : Hid (Below w.heap.size w w2) := by show Below _ _ _; (repeat' (first | exact Below.refl _ _ | assumption | refine below_new ?_ _ | refine below_draw ?_ | refine below_tail (by assumption) ?_ | refine below_set ?_ (by first | omega | (simp <;> omega)) _))
  go_loopw [8, 35] (fun v i wr => ∃ k : Nat, k ≤ c.length ∧ i = .int .i64 k ∧ Hid (Below w.heap.size w wr) ∧ Hid (wr.ownsRow w.heap.size 3 1 v k (cells1 (payK c l p k)))) (fun v i _ => c.length - (intOf i).toNat)
  case atStart => exact ⟨0, Nat.zero_le _, rfl, HB2, World.ownsRow_nil _ _ _ _⟩
  case round =>
    obtain ⟨k, hk, rfl, hb, how⟩ := hrel
    by_cases hlt : k < c.length
    · have hlt2 : k < l.length := by rw [HLN.out]; exact hlt
      obtain ⟨b1, o1, rfl, hB1, hcell1⟩ := (HI.out.below hb.out).cellAt hlt
      obtain ⟨b2, o2, rfl, hB2, hcell2⟩ := (HU.out.below hb.out).cellAt hlt2
      have hx := HCL.out (gi c 0 k) (by rw [gi_lt hlt]; exact List.getElem_mem _)
      have hy := HLL.out (gi l 0 k) (by rw [gi_lt hlt2]; exact List.getElem_mem _)
      have HS := Lib.hid (payK_succ c l p k)
      obtain ⟨x, hxe⟩ : ∃ x, gi c 0 k = x := ⟨_, rfl⟩
      obtain ⟨y, hye⟩ : ∃ y, gi l 0 k = y := ⟨_, rfl⟩
      rw [hxe] at HS hcell1 hx
      rw [hye] at HS hcell2 hy
      have hbd := pay_bounds hx.1 hx.2 hy.1 hy.2 h3 h4
      have hw1 : IntKind.i64.wrap (x - y) = x - y := IntWalk.i64_in _ (by omega)
      obtain ⟨z, hz⟩ : ∃ z, (x - y) * p = z := ⟨_, rfl⟩
      rw [hz] at HS hbd
      have hw2 : IntKind.i64.wrap z = z := IntWalk.i64_in _ (by omega)
      have hw6 : IntKind.i64.wrap ((k : Int) + 1) = (k : Int) + 1 := IntWalk.i64_in _ (by omega)
      have hw3 : IntKind.i64.wrap ((x - y) * p) = z := by rw [hz]; exact hw2
      clear hxe hye hx hy hz hw2
      go_wp2_with (at_builtin; refine wpList_append_own _ rfl _ _ 22 rfl w.heap.size 3 i0 (.int .i64 0) 1 8 Tryz.underlying22 hi0 hz0 hi1 hi2 rfl (by decide) _ _ _ rfl (how.out.alloc _) ⟨wr.heap.size, 0, none⟩ 1 1 [.int .i64 z] rfl rfl (app_src1 _ _ _) (one_int _) (by unfold maxLen; omega) (by omega) (by have := hb.out.size; simp; omega) ?_; intro v' w4 hown4 hgrow _)
      go_roundw
      case rel => exact ⟨k + 1, by omega, by go_num, below_app hb.out (Nat.le_refl _) hgrow (fun j hj => (how.out.lt j hj).1), by unfold Hid; rw [HS.out, cells1_append]; exact hown4⟩
      case measure => simp [intOf]; omega
    · obtain rfl : k = c.length := by omega
      obtain ⟨va, vc, rfl⟩ := own_slice how.out
      have HIT : Hid (IntsT w.heap.size wr (.slice va c.length vc) (payF c l p)) := own_intsT (by rw [payF_len]; exact how.out) (Nat.le_refl _)
      go_wp2
      refine bodyPost_ret (v := .tuple #[.slice va c.length vc, .int .i64 0]) (by simp [results, Tryz.f68, go_sem]) rfl ?_
      exact ⟨_, rfl, HIT.out, hb.out⟩
set_option maxHeartbeats 1000000 in
theorem Pay_bad (v u : Value) (c l : List Int) (p : Int) (w : World) (h : IntsAt w v c) (hu : IntsAt w u l) (hb : claimsB c = true) (hlen : l.length = c.length) (hl : ∀ x ∈ l, 0 ≤ x ∧ x ≤ 10000) (h3 : p < 0 ∨ 1000 < p) :
    Gives Tryz.prog 68 #[v, u, .int .i64 p] w (.tuple #[.slice none 0 0, .int .i64 1]) := by
  have HI := Lib.hid h
  have HCB := Lib.hid hb
  have hany : (l.any fun x => !(withinB x 0 10000)) = false := by
    rw [List.any_eq_false]
    intro x hx
    have := withinB_iff.2 (hl x hx)
    simp [this]
  have HP := Lib.hid (fun w1 (hb1 : Below w.heap.size w w1) => containsFunc_ints u l 101 #[] (fun x => !(withinB x 0 10000)) w1 (hu.below hb1) (fun _ _ => by kernel_rfl) (fun x w' _ => pay1_calls x w'))
  rw [hany] at HP
  obtain ⟨a, cap, rfl, hlc, hcm, -⟩ := h
  obtain ⟨ua, uc, rfl, huc, hum, -⟩ := hu
  have k0 : ((l.length : Int) != (c.length : Int)) = false := by simp; omega
  clear hb hl hlen hany
  unfold Gives
  by_cases h1 : p < 0
  · have k1 : decide (p < 0) = true := decide_eq_true h1
    clear h3
    go_enter Tryz.func68, Tryz.ntmps68
    go_wp2_with (first
      | (go_at_call 99; refine (isClaims_is HI.out HCB.out).use ?_; intro w1 hb1 hz1 hc1 hf1; clear hc1 hf1)
      | (go_at_call 100; refine (HP.out _ (by (repeat' (first | exact Below.refl _ _ | assumption | refine below_new ?_ _ | refine below_draw ?_ | refine below_tail (by assumption) ?_ | refine below_set ?_ (by first | omega | (simp <;> omega)) _)))).use ?_; intro w2 hb2 hz2 hc2 hf2; clear hc2 hf2))
    refine bodyPost_ret (v := .tuple #[.slice none 0 0, .int .i64 1]) (by simp [results, Tryz.f68, go_sem]) rfl ?_
    exact ⟨rfl, by (repeat' (first | exact Below.refl _ _ | assumption | refine below_new ?_ _ | refine below_draw ?_ | refine below_tail (by assumption) ?_ | refine below_set ?_ (by first | omega | (simp <;> omega)) _))⟩
  · have h2 : 1000 < p := by omega
    have k1 : decide (p < 0) = false := decide_eq_false h1
    have k2 : decide (1000 < p) = true := decide_eq_true h2
    clear h3
    go_enter Tryz.func68, Tryz.ntmps68
    go_wp2_with (first
      | (go_at_call 99; refine (isClaims_is HI.out HCB.out).use ?_; intro w1 hb1 hz1 hc1 hf1; clear hc1 hf1)
      | (go_at_call 100; refine (HP.out _ (by (repeat' (first | exact Below.refl _ _ | assumption | refine below_new ?_ _ | refine below_draw ?_ | refine below_tail (by assumption) ?_ | refine below_set ?_ (by first | omega | (simp <;> omega)) _)))).use ?_; intro w2 hb2 hz2 hc2 hf2; clear hc2 hf2))
    refine bodyPost_ret (v := .tuple #[.slice none 0 0, .int .i64 1]) (by simp [results, Tryz.f68, go_sem]) rfl ?_
    exact ⟨rfl, by (repeat' (first | exact Below.refl _ _ | assumption | refine below_new ?_ _ | refine below_draw ?_ | refine below_tail (by assumption) ?_ | refine below_set ?_ (by first | omega | (simp <;> omega)) _))⟩
end Go.Proofs.YthooacpfmjpdmaaGreatDoor
