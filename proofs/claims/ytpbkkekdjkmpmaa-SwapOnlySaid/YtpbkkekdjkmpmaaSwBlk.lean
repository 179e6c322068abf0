/- Groups that block a deal: block and IsStable of package swap. Conditions: the lists and the deal are right. -/
import Derived.Test.YtpbkkekdjkmpmaaSwMore
namespace Go.Proofs.Ytpbkkekdjkmpmaa
open Go.RowKit

theorem bit_is : ∀ b : Nat, b < 32 → ∀ i : Nat, i < 5 → (bits BinOp.and IntKind.i64 ((b : Int) / 2 ^ i) 1 == 1) = b.testBit i := by decide +kernel
theorem shl_is : ∀ n : Nat, n ≤ 5 → wrap64 (2 ^ n) = ((2 ^ n : Nat) : Int) := by decide +kernel
theorem has_is (b i : Nat) (w : World) (hb : b < 32) (hi : i < 5) : Same Try.prog 62 #[.int .i64 b, .int .i64 i] w (.bool (b.testBit i)) := by
  have hbit := bit_is b hb i hi
  unfold Same
  go_enter Try.func62, Try.ntmps62
  go_wp2
  go_ret
  exact ⟨rfl, rfl⟩
theorem has_enters : ∀ args w, (callFunc 62 args).run Try.prog w = .ok (.enter 62 args) w := fun args w => enters_of Try.func62 (by kernel_rfl) rfl args w

/-- The group of a number's bits. -/
def grpN (n b : Nat) : List Nat := (List.range n).filter fun i => b.testBit i
theorem grp_lt {n b g : Nat} (h : g ∈ grpN n b) : g < n := List.mem_range.1 (List.mem_filter.1 h).1
theorem grp_len (n b : Nat) : (grpN n b).length ≤ n := by
  have := List.length_filter_le (fun i => b.testBit i) (List.range n)
  rwa [List.length_range] at this
/-- Does the group of a number block the deal? -/
def blkB (L : List (List Int)) (D : List Int) (b : Nat) : Bool := anyFrom (ordF (grpN L.length b).length (grpN L.length b)) (fun r => gainF L D (grpN L.length b) (numsL r)) 0
def blkFrom (L : List (List Int)) (D : List Int) (k : Nat) : Bool := decide (∃ b, b < 2 ^ L.length ∧ k ≤ b ∧ blkB L D b = true)
theorem blkFrom_no {L : List (List Int)} {D : List Int} {k : Nat} (h : blkB L D k = false) : blkFrom L D k = blkFrom L D (k + 1) := by
  unfold blkFrom
  rw [decide_eq_decide]
  refine ⟨fun ⟨i, h1, h2, h3⟩ => ⟨i, h1, ?_, h3⟩, fun ⟨i, h1, h2, h3⟩ => ⟨i, h1, by omega, h3⟩⟩
  have : i ≠ k := fun e => by subst e; rw [h3] at h; cases h
  omega
theorem blkFrom_yes {L : List (List Int)} {D : List Int} {k : Nat} (hk : k < 2 ^ L.length) (h : blkB L D k = true) : blkFrom L D k = true := by
  unfold blkFrom
  rw [decide_eq_true_iff]
  exact ⟨k, hk, Nat.le_refl _, h⟩
theorem blkFrom_end {L : List (List Int)} {D : List Int} : blkFrom L D (2 ^ L.length) = false := by
  unfold blkFrom
  rw [decide_eq_false_iff_not]
  rintro ⟨i, h1, h2, _⟩; omega
set_option maxHeartbeats 4000000 in
theorem block_calls (v u : Value) (L : List (List Int)) (D : List Int) (w : World) (h : TableAt w v L) (hu : IntsAt w u D) (he : oE L D = 0) :
    Calls Try.prog 43 #[v, u] w fun e w' => ∃ x y, e = .returned (.tuple #[x, y, .bool (blkFrom L D 1)]) ∧ Below w.heap.size w w' := by
  have HT := Lib.hid h
  have HU := Lib.hid hu
  have HDL := Lib.hid (oE_len he)
  have h5 := (vB_len (oE_0 he).1).2
  obtain ⟨sa, cap, rfl, hlc, hcm, -⟩ := h
  obtain ⟨ua, uc, rfl, huc, hum, -⟩ := hu
  clear he
  have h32 : 2 ^ L.length ≤ 32 := Nat.le_trans (Nat.pow_le_pow_right (by decide) h5) (by decide)
  have hsh := shl_is L.length h5
  obtain ⟨N, hN⟩ : ∃ N, 2 ^ L.length = N := ⟨_, rfl⟩
  rw [hN] at h32
  rw [hN] at hsh
  have HN := Lib.hid hN
  clear hN
  have h1N : Hid (1 ≤ N) := by show 1 ≤ N; rw [← HN.out]; exact Nat.one_le_two_pow
  go_enter Try.func43, Try.ntmps43
  go_wp2
  go_loopw [7] (fun p wr => ∃ b : Nat, 1 ≤ b ∧ b ≤ N ∧ p = .int .i64 b ∧ Hid (blkFrom L D 1 = blkFrom L D b) ∧ Hid (Below w.heap.size w wr)) (fun p _ => N - (intOf p).toNat)
  case atStart => exact ⟨1, Nat.le_refl _, h1N.out, rfl, rfl, Below.refl _ _⟩
  case round =>
    obtain ⟨b, hb1, hbN, rfl, hr, hb⟩ := hrel
    obtain ⟨w3, hw3⟩ : ∃ x, x = wr := ⟨_, rfl⟩
    subst hw3
    by_cases hlt : b < N
    · obtain ⟨G, hG⟩ : ∃ g, grpN L.length b = g := ⟨_, rfl⟩
      obtain ⟨R, hR⟩ : ∃ r, ordF G.length G = r := ⟨_, rfl⟩
      have HGL : Hid (G.length ≤ 5) := by show _ ≤ _; rw [← hG]; exact Nat.le_trans (grp_len _ _) h5
      have HGI : Hid (∀ q, q < G.length → gi G 0 q < L.length) := by
        show ∀ q, _ → _
        intro q hq
        rw [gi_lt hq]
        exact grp_lt (by rw [hG]; exact List.getElem_mem _)
      have HLR : Hid (∀ i, i < R.length → (gi R [] i).length = G.length) := by show ∀ i, _ → _; rw [← hR]; exact fun i hi => ordF_get rfl hi
      have HIM : Hid (blkB L D b = anyFrom R (fun r => gainF L D G (numsL r)) 0) := by show _ = _; unfold blkB; rw [hG, hR]
      have HR := Lib.hid hR
      have HM : Hid (GivesT' Try.prog 61 #[.int .i64 (L.length : Nat), .func (.func 62) #[.int .i64 b] #[]] w3 (numsL G)) := by
        rw [← hG]
        exact membersB_calls L.length 62 #[.int .i64 b] (fun i => b.testBit i) w3 h5 has_enters (fun i w' hi _ => (has_is b i w' (by omega) (by omega)).gives)
      clear hR hG
      go_wp2_with (first
        | (go_at_call 61; refine HM.out.mono ?_; rintro e w1 ⟨v1, rfl, hi1, hb1⟩; have HI := Lib.hid hi1.1; obtain ⟨⟨va, vc, rfl, -⟩, -⟩ := hi1; rw [numsL_length] at HI; rw [numsL_length])
        | (go_at_call 45; refine (orders_calls G.length G _ _ rfl HGL.out HI.out).mono ?_; rintro e w2 ⟨v2, rfl, ht2, hb2⟩; rw [HR.out] at ht2; have HTR := Lib.hid ht2.table; obtain ⟨ra, rc, rfl, hrc, hrm⟩ := ht2.form'; rw [List.length_map] at HTR hrc; rw [List.length_map]; clear ht2))
      have HBW : Hid (Below w.heap.size w w2) := by show Below _ _ _; exact below_tail (by (repeat' (first | exact Below.refl _ _ | assumption | refine below_new ?_ _ | refine below_draw ?_ | refine below_tail (by assumption) ?_ | refine below_set ?_ (by first | omega | (simp <;> omega)) _)) : Below w3.heap.size w3 w2) hb.out
      have HI2 : Hid (IntsAt w2 (.slice va G.length vc) (numsL G)) := HI.out.below hb2
      clear HI
      go_loopw [26] (fun i wr => ∃ k : Nat, k ≤ R.length ∧ i = .int .i64 k ∧ Hid (blkB L D b = anyFrom R (fun r => gainF L D G (numsL r)) k) ∧ Hid (Below w2.heap.size w2 wr)) (fun i _ => R.length - (intOf i).toNat)
      case atStart => exact ⟨0, Nat.zero_le _, rfl, HIM, Below.refl _ _⟩
      case round =>
        obtain ⟨k, hk, rfl, hr2, hbk⟩ := hrel
        by_cases hlk : k < R.length
        · obtain ⟨b7, o, x, rfl, hB, hcell, hx⟩ := (HTR.out.below hbk.out).row (m := k) (by rw [List.length_map]; exact hlk)
          have hgx : gi (R.map numsL) [] k = numsL (gi R [] k) := by rw [gi_lt (by rw [List.length_map]; exact hlk), List.getElem_map, gi_lt hlk]
          rw [hgx] at hx
          have hlen := HLR.out k hlk
          have HX := Lib.hid hx
          obtain ⟨xa, xc, rfl, -⟩ := hx
          have HG0 : Hid (∀ t, gainF L D G (numsL (gi R [] k)) = t → Gives Try.prog 63 #[.slice sa L.length cap, .slice ua D.length uc, .slice va G.length vc, .slice xa (numsL (gi R [] k)).length xc] wr (.bool t)) := fun t ht =>
            gains_is (HT.out.below (HBW.out.trans (hbk.out.mono HBW.out.size))) (HU.out.below (HBW.out.trans (hbk.out.mono HBW.out.size))) (HI2.out.below hbk.out) HX.out HGI.out HDL.out (by rw [numsL_length]; exact hlen) ht
          clear hgx hlen
          cases hq : gainF L D G (numsL (gi R [] k))
          · have H1 := Lib.hid (anyFrom_no (R := R) (q := fun r => gainF L D G (numsL r)) hq)
            have HG := Lib.hid (HG0.out _ hq)
            clear hq
            go_wp2_with (go_at_call 63; refine HG.out.use ?_; intro w3 hb3 hz3 hc3 hf3; clear hc3 hf3)
            go_roundw
            case rel => exact ⟨k + 1, by omega, by go_num, by unfold Hid; rw [hr2.out, H1.out], below_tail hb3 hbk.out⟩
            case measure => simp [intOf]; omega
          · have H1 := Lib.hid (anyFrom_yes (q := fun r => gainF L D G (numsL r)) hlk hq)
            have HG := Lib.hid (HG0.out _ hq)
            clear hq
            go_wp2_with (go_at_call 63; refine HG.out.use ?_; intro w3 hb3 hz3 hc3 hf3; clear hc3 hf3)
            refine bodyPost_ret (v := .tuple #[.slice va G.length vc, .slice xa (numsL (gi R [] k)).length xc, .bool true]) (by simp [results, Try.f43, go_sem]) rfl ?_
            exact ⟨_, _, by rw [hr.out, blkFrom_yes (by rw [HN.out]; exact hlt) (by rw [hr2.out, H1.out])], HBW.out.trans ((below_tail hb3 hbk.out).mono HBW.out.size)⟩
        · obtain rfl : k = R.length := by omega
          have H1 := Lib.hid (anyFrom_end (R := R) (q := fun r => gainF L D G (numsL r)))
          go_wp2
          go_roundw
          case rel => exact ⟨b + 1, by omega, by omega, by go_num, by unfold Hid; rw [hr.out, blkFrom_no (by rw [hr2.out, H1.out])], HBW.out.trans (hbk.out.mono HBW.out.size)⟩
          case measure => simp [intOf]; omega
    · obtain rfl : b = N := by omega
      have H1 : Hid (blkFrom L D b = false) := by show _ = _; have := blkFrom_end (L := L) (D := D); rwa [HN.out] at this
      go_wp2
      refine bodyPost_ret (v := .tuple #[.slice none 0 0, .slice none 0 0, .bool false]) (by simp [results, Try.f43, go_sem]) rfl ?_
      exact ⟨_, _, by rw [hr.out, H1.out], hb.out⟩
set_option maxHeartbeats 1000000 in
theorem IsStable_calls (v u : Value) (L : List (List Int)) (D : List Int) (w : World) (h : TableAt w v L) (hu : IntsAt w u D) (he : oE L D = 0) :
    Gives Try.prog 23 #[v, u] w (.tuple #[.bool (!blkFrom L D 1), .int .i64 0]) := by
  have HT := Lib.hid h
  have HU := Lib.hid hu
  have HE := Lib.hid he
  obtain ⟨sa, cap, rfl, hlc, hcm, -⟩ := h
  obtain ⟨ua, uc, rfl, huc, hum, -⟩ := hu
  clear he
  obtain ⟨t, ht⟩ : ∃ t, blkFrom L D 1 = t := ⟨_, rfl⟩
  have HB := Lib.hid ht
  rw [ht]
  clear ht
  unfold Gives
  go_enter Try.func23, Try.ntmps23
  go_wp2_with (first | (go_at_call 42; refine (ordered_is HT.out HU.out HE.out).use ?_; intro w1 hb1 hz1 hc1 hf1; clear hc1 hf1) | (go_at_call 43; refine (block_calls _ _ L D _ (HT.out.below (by (repeat' (first | exact Below.refl _ _ | assumption | refine below_new ?_ _ | refine below_draw ?_ | refine below_tail (by assumption) ?_ | refine below_set ?_ (by first | omega | (simp <;> omega)) _)))) (HU.out.below (by (repeat' (first | exact Below.refl _ _ | assumption | refine below_new ?_ _ | refine below_draw ?_ | refine below_tail (by assumption) ?_ | refine below_set ?_ (by first | omega | (simp <;> omega)) _)))) HE.out).mono ?_; rintro e w2 ⟨x2, y2, rfl, hb2⟩; rw [HB.out]))
  refine bodyPost_ret (v := .tuple #[.bool (!t), .int .i64 0]) (by simp [results, Try.f23, go_sem]) rfl ?_
  exact ⟨rfl, by (repeat' (first | exact Below.refl _ _ | assumption | refine below_new ?_ _ | refine below_draw ?_ | refine below_tail (by assumption) ?_ | refine below_set ?_ (by first | omega | (simp <;> omega)) _))⟩
set_option maxHeartbeats 1000000 in
theorem IsStable_err (v u : Value) (L : List (List Int)) (D : List Int) (e : Int) (w : World) (h : TableAt w v L) (hu : IntsAt w u D) (he : oE L D = e) (hne : e ≠ 0) :
    Gives Try.prog 23 #[v, u] w (.tuple #[.bool false, .int .i64 e]) := by
  have HT := Lib.hid h
  have HU := Lib.hid hu
  have HE := Lib.hid he
  obtain ⟨sa, cap, rfl, hlc, hcm, -⟩ := h
  obtain ⟨ua, uc, rfl, huc, hum, -⟩ := hu
  have h1 : (e == 0) = false := by simpa using hne
  have h2 : (e != 0) = true := by simpa using hne
  clear he hne
  unfold Gives
  go_enter Try.func23, Try.ntmps23
  go_wp2_with (first | (go_at_call 42; refine (ordered_is HT.out HU.out HE.out).use ?_; intro w1 hb1 hz1 hc1 hf1; clear hc1 hf1))
  refine bodyPost_ret (v := .tuple #[.bool false, .int .i64 e]) (by simp [results, Try.f23, go_sem]) rfl ?_
  exact ⟨rfl, by (repeat' (first | exact Below.refl _ _ | assumption | refine below_new ?_ _ | refine below_draw ?_ | refine below_tail (by assumption) ?_ | refine below_set ?_ (by first | omega | (simp <;> omega)) _))⟩
end Go.Proofs.Ytpbkkekdjkmpmaa
