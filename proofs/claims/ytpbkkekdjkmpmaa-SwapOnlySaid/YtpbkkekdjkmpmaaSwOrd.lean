/- All orders of some numbers. Conditions: the numbers lie in memory as said; there are at most five. -/
import Derived.Test.YtpbkkekdjkmpmaaSwGain
import Derived.Deep.RegionHeld3
namespace Go.Proofs.Ytpbkkekdjkmpmaa
open Go.RowKit

def ordF : Nat → List Nat → List (List Nat)
  | 0, _ => [[]]
  | k + 1, l => (List.range (k + 1)).flatMap fun i => (ordF k (l.take i ++ l.drop (i + 1))).map fun r => gi l 0 i :: r
theorem ordF_len (l : List Nat) (k : Nat) (hk : k ≤ 6) : (ordF k l).length ≤ 6 ^ k := by
  induction k generalizing l with
  | zero => simp [ordF]
  | succ k ih =>
    have key : ∀ n, ((List.range n).flatMap fun i => (ordF k (l.take i ++ l.drop (i + 1))).map fun r => gi l 0 i :: r).length ≤ n * 6 ^ k := by
      intro n
      induction n with
      | zero => simp
      | succ n ihn =>
        rw [List.range_succ, List.flatMap_append, List.length_append]
        have := ih (l.take n ++ l.drop (n + 1)) (by omega)
        simp only [List.flatMap_cons, List.flatMap_nil, List.append_nil, List.length_map]
        rw [Nat.succ_mul]
        omega
    have h1 := key (k + 1)
    have h2 : (k + 1) * 6 ^ k ≤ 6 * 6 ^ k := Nat.mul_le_mul_right _ hk
    unfold ordF
    rw [Nat.pow_succ]
    omega
theorem cut_len {l : List Nat} {k i : Nat} (hl : l.length = k + 1) (hi : i < k + 1) : (l.take i ++ l.drop (i + 1)).length = k := by
  rw [List.length_append, List.length_take, List.length_drop]; omega
theorem cut_perm {l : List Nat} {i : Nat} (hi : i < l.length) : (gi l 0 i :: (l.take i ++ l.drop (i + 1))).Perm l := by
  have e : l = l.take i ++ gi l 0 i :: l.drop (i + 1) := by
    conv => lhs; rw [← List.take_append_drop i l]
    rw [List.drop_eq_getElem_cons hi, gi_lt hi]
  conv => rhs; rw [e]
  exact List.perm_middle.symm
theorem ordF_perm {k : Nat} : ∀ {l r : List Nat}, l.length = k → (r ∈ ordF k l ↔ r.Perm l) := by
  induction k with
  | zero =>
    intro l r hl
    have := List.eq_nil_of_length_eq_zero hl
    subst this
    simp [ordF]
  | succ k ih =>
    intro l r hl
    unfold ordF
    rw [List.mem_flatMap]
    constructor
    · rintro ⟨i, hi, hr⟩
      have hi' := List.mem_range.1 hi
      obtain ⟨t, ht, rfl⟩ := List.mem_map.1 hr
      exact ((ih (cut_len hl hi')).1 ht |>.cons _).trans (cut_perm (by omega))
    · intro hp
      cases r with
      | nil => have := hp.length_eq; rw [hl] at this; cases this
      | cons a t =>
        have ha : a ∈ l := hp.subset (List.mem_cons_self ..)
        obtain ⟨i, hi, e⟩ := List.mem_iff_getElem.1 ha
        refine ⟨i, List.mem_range.2 (by omega), List.mem_map.2 ⟨t, ?_, by rw [gi_lt hi, e]⟩⟩
        rw [ih (cut_len hl (by omega))]
        have h1 := hp.trans (cut_perm hi).symm
        rw [gi_lt hi, e] at h1
        exact h1.cons_inv
/-- What has been made before the i-th number is taken first. -/
def ordI (l : List Nat) (k i : Nat) : List (List Nat) := (List.range i).flatMap fun i => (ordF k (l.take i ++ l.drop (i + 1))).map fun r => gi l 0 i :: r
theorem ordI_succ (l : List Nat) (k i : Nat) : ordI l k (i + 1) = ordI l k i ++ (ordF k (l.take i ++ l.drop (i + 1))).map (fun r => gi l 0 i :: r) := by
  unfold ordI
  rw [List.range_succ, List.flatMap_append]
  simp
theorem ordI_len (l : List Nat) {k i : Nat} (hk : k ≤ 5) (hi : i ≤ 6) : (ordI l k i).length ≤ 50000 := by
  have key : ∀ n, (ordI l k n).length ≤ n * 6 ^ k := by
    intro n
    induction n with
    | zero => simp [ordI]
    | succ n ihn =>
      rw [ordI_succ, List.length_append, List.length_map, Nat.succ_mul]
      have := ordF_len (l.take n ++ l.drop (n + 1)) k (by omega)
      omega
  have h1 := key i
  have h2 : 6 ^ k ≤ 6 ^ 5 := Nat.pow_le_pow_right (by decide) hk
  have h3 : i * 6 ^ k ≤ 6 * 6 ^ 5 := Nat.mul_le_mul hi h2
  have : 6 * 6 ^ 5 = 46656 := by decide
  omega
theorem TableT.apart {m base n : Nat} {w w' : World} {v v3 : Value} {L : List (List Int)} {xs : List Value} (h : TableT m w v L) (ho : w.ownsRow base 35 1 v3 n xs) (hg : w.grownBy w' v3.ownBlock) (hap : apt v v3) : TableT m w' v L := by
  obtain ⟨a, cap, rfl, h1, h2, h4, h3⟩ := h
  have hk : KeepT m 3 w w' := KeepT.of_grown hg ho (by decide)
  refine ⟨a, cap, rfl, h1, h2, fun b hb => ?_, fun i hi => ?_⟩
  · obtain ⟨hm, cs, fr, hh⟩ := h4 b hb
    exact ⟨hm, cs, fr, (hg.block b (Array.getElem?_eq_some_iff.1 hh).1 (fun e => hap b hb e.symm)).trans hh⟩
  · obtain ⟨b, o, u, rfl, hlt, hc, hu⟩ := h3 i hi
    exact ⟨b, o, u, rfl, Nat.lt_of_lt_of_le hlt hg.size, (World.cell?_of_block (a := ⟨b, o + i, none⟩) (hg.block b hlt (fun e => hap b rfl e.symm))).trans hc, hu.keep hk⟩
theorem TableT.rowT' {m : Nat} {w : World} {a : Option Addr} {n cap : Nat} {L : List (List Int)} (h : TableT m w (.slice a n cap) L) {k : Nat} (hk : k < L.length) :
    ∃ b o u, a = some ⟨b, o, none⟩ ∧ b < w.heap.size ∧ w.cell? ⟨b, o + k, none⟩ = some u ∧ IntsT m w u (gi L [] k) := by
  obtain ⟨a', cap', e, _, _, _, h3⟩ := h
  cases e
  exact h3 k hk
theorem TableT.form' {m : Nat} {w : World} {v : Value} {L : List (List Int)} (h : TableT m w v L) : ∃ a cap, v = .slice a L.length cap ∧ L.length ≤ cap ∧ cap ≤ 9223372036854775807 := by
  obtain ⟨a, cap, e, h1, h2, _⟩ := h
  exact ⟨a, cap, e, h1, h2⟩
theorem IntsT.form' {m : Nat} {w : World} {v : Value} {l : List Int} (h : IntsT m w v l) : ∃ a cap, v = .slice a l.length cap ∧ l.length ≤ cap ∧ cap ≤ 9223372036854775807 := by
  obtain ⟨⟨a, cap, e, h1, h2, _⟩, _⟩ := h
  exact ⟨a, cap, e, h1, h2⟩
theorem ints_take {w : World} {b o n cap : Nat} {l : List Int} (h : IntsAt w (.slice (some ⟨b, o, none⟩) n cap) l) {i : Nat} (hi : i ≤ l.length) (hc : l.length ≤ cap) (hm : cap ≤ 9223372036854775807) : IntsAt w (.slice (some ⟨b, o, none⟩) i cap) (l.take i) := by
  refine ⟨_, cap, by rw [List.length_take, Nat.min_eq_left hi], by rw [List.length_take]; omega, hm, fun j hj => ?_⟩
  rw [List.length_take] at hj
  obtain ⟨b', o', e, hB, hcell⟩ := h.cellAt (m := j) (by omega)
  cases e
  refine ⟨b, o, rfl, hB, ?_⟩
  rw [hcell]; simp [gi, show j < i by omega]
theorem ints_drop {w : World} {b o n cap c : Nat} {l : List Int} (h : IntsAt w (.slice (some ⟨b, o, none⟩) n cap) l) {i : Nat} (hi : i ≤ l.length) (hc : l.length - i ≤ c) (hm : c ≤ 9223372036854775807) : IntsAt w (.slice (some ⟨b, o + i, none⟩) (l.length - i) c) (l.drop i) := by
  refine ⟨_, c, by rw [List.length_drop], by rw [List.length_drop]; omega, hm, fun j hj => ?_⟩
  rw [List.length_drop] at hj
  obtain ⟨b', o', e, hB, hcell⟩ := h.cellAt (m := i + j) (by omega)
  cases e
  refine ⟨b, o + i, rfl, hB, ?_⟩
  rw [show o + i + j = o + (i + j) by omega, hcell]; simp [gi]

set_option maxRecDepth 100000 in
set_option maxHeartbeats 8000000 in
theorem orders_calls : ∀ (k : Nat) (l : List Nat) (v : Value) (w : World), l.length = k → k ≤ 5 → IntsAt w v (numsL l) →
    Calls Try.prog 45 #[v] w fun e w' => ∃ v', e = .returned v' ∧ TableT w.heap.size w' v' ((ordF k l).map numsL) ∧ Below w.heap.size w w'
  | 0, l, v, w, hl, hk, h => by
    have hl0 : l = [] := List.eq_nil_of_length_eq_zero hl
    subst hl0
    obtain ⟨a, c, rfl, -⟩ := h
    go_enter Try.func45, Try.ntmps45
    go_wp2
    refine bodyPost_ret (v := .slice (some ⟨w.heap.size, 0, none⟩) 1 1) (by simp [results, Try.f45, go_sem]) rfl ?_
    refine ⟨_, rfl, ?_, by (repeat' (first | exact Below.refl _ _ | assumption | refine below_new ?_ _ | refine below_draw ?_ | refine below_tail (by assumption) ?_ | refine below_set ?_ (by first | omega | (simp <;> omega)) _))⟩
    refine ⟨_, 1, rfl, Nat.le_refl _, by decide, fun b hb => ?_, fun i hi => ?_⟩
    · cases hb
      exact ⟨Nat.le_refl _, _, _, alloc_new _ _ rfl⟩
    · have hi' : i < 1 := hi
      obtain rfl : i = 0 := by omega
      exact ⟨_, _, .slice none 0 0, rfl, by simp, by simp, ⟨ints0 _ _ _ (by decide), fun b hb => by cases hb⟩⟩
  | k + 1, l, v, w, hl, hk, h => by
    have IH := Lib.hid (orders_calls k)
    have HL := Lib.hid h
    obtain ⟨a, c, rfl, hlc, hcm, -⟩ := h
    rw [numsL_length] at hlc HL
    rw [numsL_length]
    rw [hl] at hlc HL
    rw [hl]
    have HLEN := Lib.hid hl
    obtain ⟨i0, hi0, hz0, hi1, hi2⟩ := info_parts infoInt
    obtain ⟨i8, hi8, hz8, hi81, hi82⟩ := info_parts infoInts
    have hne : (((k : Int) + 1) == 0) = false := by rw [beq_eq_false_iff_ne]; omega
    clear hl
    go_enter Try.func45, Try.ntmps45
    go_wp2
    go_loopw [3, 14] (fun v p wr => ∃ i : Nat, i ≤ k + 1 ∧ p = .int .i64 i ∧ Hid (Below w.heap.size w wr) ∧ Hid (OwnTab w.heap.size wr v ((ordI l k i).map numsL))) (fun _ p _ => k + 1 - (intOf p).toNat)
    case atStart => exact ⟨0, Nat.zero_le _, rfl, Below.refl _ _, OwnTab.nil _ _⟩
    case round =>
      obtain ⟨i, hi, rfl, hb, hot⟩ := hrel
      obtain ⟨v3, hv3⟩ : ∃ x, x = u3 := ⟨_, rfl⟩
      subst hv3
      obtain ⟨w3, hw3⟩ : ∃ x, x = wr := ⟨_, rfl⟩
      subst hw3
      by_cases hlt : i < k + 1
      · obtain ⟨b, o, rfl, hB, hcell⟩ := (HL.out.below hb.out).cellAt (m := i) (by rw [numsL_length, HLEN.out]; exact hlt)
        obtain ⟨x, hx⟩ : ∃ x, gi l 0 i = x := ⟨_, rfl⟩
        have hlx : gi (numsL l) 0 i = (x : Int) := by rw [← hx, numsL_get (by rw [HLEN.out]; exact hlt), gi_lt (by rw [HLEN.out]; exact hlt)]
        rw [hlx] at hcell
        have hw1 : IntKind.i64.wrap ((i : Int) + 1) = (i : Int) + 1 := IntWalk.i64_in _ (by omega)
        have k0 : (0 : Int) ≤ (i : Int) := by omega
        have k1 : (0 : Int) ≤ (i : Int) + 1 := by omega
        have k2 : (i : Int) ≤ (k : Int) := by omega
        have k3 : (i : Int) + 1 ≤ (k : Int) + 1 := by omega
        have k4 : (i : Int) ≤ (c : Int) := by omega
        have k5 : (i : Int) + 1 ≤ (c : Int) := by omega
        have k6 : (k : Int) + 1 ≤ (c : Int) := by omega
        obtain ⟨R, hR⟩ : ∃ r, ordF k (l.take i ++ l.drop (i + 1)) = r := ⟨_, rfl⟩
        have HR := Lib.hid hR
        have HRL : Hid (R.length ≤ 50000) := by
          show _ ≤ _
          rw [← hR]
          have h1 := ordF_len (l.take i ++ l.drop (i + 1)) k (by omega)
          have h2 : 6 ^ k ≤ 6 ^ 5 := Nat.pow_le_pow_right (by decide) (by omega)
          have : 6 ^ 5 = 7776 := by decide
          omega
        have HX : Hid (ordI l k (i + 1) = ordI l k i ++ R.map (fun r => x :: r)) := by show _ = _; rw [ordI_succ, hR, hx]
        have HRK : Hid (∀ r ∈ R, r.length ≤ 50) := by
          show ∀ r ∈ R, _
          rw [← hR]
          intro r hr
          have := ((ordF_perm (cut_len HLEN.out hlt)).1 hr).length_eq
          rw [cut_len HLEN.out hlt] at this
          omega
        have HA1 : Hid ((numsL (l.take i)).length = i) := by show _ = _; rw [numsL_length, List.length_take, HLEN.out]; omega
        have HA2 : Hid ((numsL (l.drop (i + 1))).length = k - i) := by show _ = _; rw [numsL_length, List.length_drop, HLEN.out]; omega
        have HI3 : Hid (IntsAt w3 (.slice (some ⟨b, o, none⟩) (k + 1) c) (numsL l)) := HL.out.below hb.out
        have hnl : (numsL l).length = k + 1 := by rw [numsL_length, HLEN.out]
        have HP1 : Hid (IntsAt w3 (.slice (some ⟨b, o, none⟩) (numsL (l.take i)).length c) (numsL (l.take i))) := by
          show IntsAt _ _ _
          rw [HA1.out]
          have := ints_take HI3.out (i := i) (by omega) (by omega) hcm
          unfold numsL at this ⊢
          rwa [List.map_take]
        have HP2 : Hid (IntsAt w3 (.slice (some ⟨b, o + (i + 1), none⟩) (numsL (l.drop (i + 1))).length (c - (i + 1))) (numsL (l.drop (i + 1)))) := by
          show IntsAt _ _ _
          rw [HA2.out]
          have := ints_drop HI3.out (i := i + 1) (c := c - (i + 1)) (by omega) (by omega) (by omega)
          rw [show (numsL l).length - (i + 1) = k - i by omega] at this
          unfold numsL at this ⊢
          rwa [List.map_drop]
        have HCAT : Hid (numsL (l.take i) ++ numsL (l.drop (i + 1)) = numsL (l.take i ++ l.drop (i + 1))) := by show _ = _; unfold numsL; rw [List.map_append]
        have HCL : Hid ((l.take i ++ l.drop (i + 1)).length = k) := cut_len HLEN.out hlt
        clear hx hlx hR hnl
        by_cases hce : c = i + 1
        · subst hce
          have k7 : (i : Int) ≤ (i : Int) + 1 := by omega
          have HP3 : Hid (IntsAt w3 (.slice (some ⟨b, o, none⟩) (numsL (l.drop (i + 1))).length 0) (numsL (l.drop (i + 1)))) := by
            have hnil : numsL (l.drop (i + 1)) = [] := List.eq_nil_of_length_eq_zero (by rw [HA2.out]; omega)
            show IntsAt _ _ _
            rw [hnil]; exact ints0 _ _ _ (by decide)
          go_wp2
          go_region_held3 (fun _ => True) (trivial) ((first | (go_at_call 64; go_loud (refine (concat_any w3.heap.size (some ⟨b, o, none⟩) (some ⟨b, o, none⟩) (i + 1) 0 (numsL (l.take i)) (numsL (l.drop (i + 1))) _ (by simp) (by rw [HA1.out]; simp) (by rw [HA2.out]; simp; try omega) (HP1.out.below (by (repeat' (first | exact Below.refl _ _ | assumption | refine below_new ?_ _ | refine below_draw ?_ | refine below_tail (by assumption) ?_ | refine below_set ?_ (by first | omega | (simp <;> omega)) _)))) (HP3.out.below (by (repeat' (first | exact Below.refl _ _ | assumption | refine below_new ?_ _ | refine below_draw ?_ | refine below_tail (by assumption) ?_ | refine below_set ?_ (by first | omega | (simp <;> omega)) _)))) (by rw [HA1.out, HA2.out]; omega)).mono ?_); rintro e w4 ⟨v4, rfl, hown4, hb4⟩; rw [HCAT.out] at hown4; have HI4 := Lib.hid (own_ints hown4); clear hown4) | (go_at_call 45; go_loud (refine (IH.out (l.take i ++ l.drop (i + 1)) v4 w4 HCL.out (by omega) HI4.out).mono ?_); rintro e w5 ⟨v5, rfl, htb5, hb5⟩; rw [HR.out] at htb5; have HT5 := Lib.hid htb5; obtain ⟨ta, tc, rfl, htc, htm⟩ := htb5.form'; rw [List.length_map] at HT5 htc; rw [List.length_map]; clear htb5)))
          have hb35 : Below w3.heap.size w3 w5 := by (repeat' (first | exact Below.refl _ _ | assumption | refine below_new ?_ _ | refine below_draw ?_ | refine below_tail (by assumption) ?_ | refine below_set ?_ (by first | omega | (simp <;> omega)) _))
          have hot5 : Hid (OwnTab w.heap.size w5 v3 ((ordI l k i ++ (R.take 0).map (fun r => x :: r)).map numsL)) := by
            show OwnTab _ _ _ _
            rw [List.take_zero, List.map_nil, List.append_nil]
            exact hot.out.keep (KeepT.of_below hb35) (KeepT.of_below hb35)
          have hap5 : Hid (apt (.slice ta R.length tc) v3) := by
            obtain ⟨vals, hvals, -⟩ := hot.out
            intro g hg e
            have h1 := (hvals.lt g e).2
            obtain ⟨_, _, e2, _, _, h4, _⟩ := HT5.out
            have h2 := (h4 g hg).1
            have h3 : w3.heap.size ≤ w4.heap.size := (by (repeat' (first | exact Below.refl _ _ | assumption | refine below_new ?_ _ | refine below_draw ?_ | refine below_tail (by assumption) ?_ | refine below_set ?_ (by first | omega | (simp <;> omega)) _)) : Below w3.heap.size w3 w4).size
            omega
          have hbw5 : Hid (Below w.heap.size w w5) := below_tail hb35 hb.out
          have HIL := ordI_len l (k := k) (i := i) (by omega) (by omega)
          go_wp2
          go_loopw [3, 30] (fun v p wr => ∃ j : Nat, j ≤ R.length ∧ p = .int .i64 j ∧ Hid (Below w.heap.size w wr) ∧ Hid (OwnTab w.heap.size wr v ((ordI l k i ++ (R.take j).map (fun r => x :: r)).map numsL)) ∧ Hid (TableT w4.heap.size wr (.slice ta R.length tc) (R.map numsL)) ∧ Hid (apt (.slice ta R.length tc) v)) (fun _ p _ => R.length - (intOf p).toNat)
          case atStart => exact ⟨0, Nat.zero_le _, rfl, hbw5, hot5, HT5, hap5⟩
          case round =>
            obtain ⟨j, hj, rfl, hbj, hoj, htj, haj⟩ := hrel
            obtain ⟨v3', hv3'⟩ : ∃ x, x = u3 := ⟨_, rfl⟩
            subst hv3'
            by_cases hlj : j < R.length
            · obtain ⟨r, hr⟩ : ∃ r, R[j] = r := ⟨_, rfl⟩
              have hr50 := HRK.out r (by rw [← hr]; exact List.getElem_mem _)
              have HTK : Hid (R.take (j + 1) = R.take j ++ [r]) := by show _ = _; rw [List.take_succ_eq_append_getElem hlj, hr]
              obtain ⟨b7, o7, u7', e7, hB7, hc7, hu7⟩ := htj.out.rowT' (k := j) (by rw [List.length_map]; exact hlj)
              subst e7
              rw [show gi (R.map numsL) [] j = numsL r by rw [gi_lt (by rw [List.length_map]; exact hlj), List.getElem_map, hr]] at hu7
              obtain ⟨ua, uc, rfl, -, -⟩ := hu7.form'
              have HSR : Hid (SrcAt wr (.slice ua r.length uc) r.length 1 (cells1 (numsL r))) := by
                have := ints_src hu7.1
                rwa [numsL_length] at this
              rw [numsL_length] at hc7
              obtain ⟨vals, hvals, hvi⟩ := hoj.out
              rw [List.length_map, List.length_append, List.length_map, List.length_take, Nat.min_eq_left hj] at hvals
              have HOV := Lib.hid hvals
              have HVI := Lib.hid hvi
              have HBJ := Lib.hid (hbj.out.size)
              have HRL2 := HRL.out
              obtain ⟨pa, pc, rfl⟩ := own_slice hvals
              clear hvals hvi hr hu7
              go_wp2_with (first
                | (at_builtin; (refine wpList_append_any (by rfl) _ _ _ (by rfl) wr.heap.size 3 i0 (.int .i64 0) 1 8 Try.underlying35 hi0 hz0 hi1 hi2 (by rfl) (by decide) (.slice (some ⟨wr.heap.size, 0, none⟩) 1 1) 1 [.int .i64 (x : Int)] (by rfl) (World.ownsRow_lit (base := wr.heap.size) (e := 3) (size := 1) wr #[.int .i64 (x : Int)] 1 (Nat.le_refl _) (by decide) rfl) _ r.length (cells1 (numsL r)) (by rfl) (HSR.out.below (by (repeat' (first | exact Below.refl _ _ | assumption | refine below_new ?_ _ | refine below_draw ?_ | refine below_tail (by assumption) ?_ | refine below_set ?_ (by first | omega | (simp <;> omega)) _)))) (by unfold maxLen; omega) (by omega) (by simp) ?_); intro v38 w38 hown38 hgrow38 hat38; have hB38 : Below wr.heap.size wr w38 := below_app (Below.refl wr.heap.size wr) (Nat.le_refl _) hgrow38 (fun q hq => by cases hq; exact Nat.le_refl _); obtain ⟨qa, qc, rfl⟩ := own_slice hown38; have HO38 := Lib.hid hown38; clear hown38)
                | (at_builtin; (refine wpList_append_any (by rfl) _ _ _ (by rfl) w.heap.size 35 i8 (.slice none 0 0) 1 24 Try.underlying22 hi8 hz8 hi81 hi82 (by rfl) (by decide) (.slice pa ((ordI l k i).length + j) pc) _ vals (by rfl) (World.ownsRow.alloc (own_keep HOV.out (Nat.le_refl _) (KeepT.of_below hB38)) _) _ 1 [.slice qa (1 + r.length) qc] (by rfl) ⟨rfl, one_slice _ _ _, .inr ⟨⟨w38.heap.size, 0, none⟩, 1, rfl, app_src1 w38 _ _⟩⟩ (by unfold maxLen; omega) (by omega) (by have := hB38.size; have := HBJ.out; simp; omega) ?_); intro v40 w40 hown40 hgrow40 hat40))
              go_roundw
              case rel =>
                have hBw38 : Below w.heap.size w w38 := below_tail hB38 hbj.out
                have hn38 : IntsT w.heap.size w38 (.slice qa (1 + r.length) qc) (numsL (x :: r)) := own_intsT (base := wr.heap.size) (by
                  rw [numsL_length, List.length_cons, Nat.add_comm r.length 1]; exact HO38.out) HBJ.out
                refine ⟨j + 1, by omega, by go_num, below_app hBw38 (Nat.le_refl _) hgrow40 (fun q hq => (HOV.out.lt q hq).1), ?_, ?_, ?_⟩
                · unfold Hid
                  rw [HTK.out, show (R.take j ++ [r]).map (fun r => x :: r) = (R.take j).map (fun r => x :: r) ++ [x :: r] by rw [List.map_append]; rfl, ← List.append_assoc, List.map_append]
                  exact OwnTab.app (vals := vals) (by rw [List.length_map, List.length_append, List.length_map, List.length_take, Nat.min_eq_left hj]; exact World.ownsRow.alloc (own_keep HOV.out (Nat.le_refl _) (KeepT.of_below hB38)) _) (fun q hq => by
                    obtain ⟨u, hu1, hu2⟩ := HVI.out q hq
                    exact ⟨u, hu1, (hu2.keep (KeepT.of_below hB38)).keep (KeepT.of_below (by (repeat' (first | exact Below.refl _ _ | assumption | refine below_new ?_ _ | refine below_draw ?_ | refine below_tail (by assumption) ?_ | refine below_set ?_ (by first | omega | (simp <;> omega)) _))))⟩) (hn38.keep (KeepT.of_below (by (repeat' (first | exact Below.refl _ _ | assumption | refine below_new ?_ _ | refine below_draw ?_ | refine below_tail (by assumption) ?_ | refine below_set ?_ (by first | omega | (simp <;> omega)) _))))) hown40 (by rw [List.length_map, List.length_append, List.length_map, List.length_take, Nat.min_eq_left hj]) hgrow40
                · exact TableT.apart ((htj.out.keep (KeepT.of_below hB38) (KeepT.of_below hB38)).keep (KeepT.of_below (by (repeat' (first | exact Below.refl _ _ | assumption | refine below_new ?_ _ | refine below_draw ?_ | refine below_tail (by assumption) ?_ | refine below_set ?_ (by first | omega | (simp <;> omega)) _)))) (KeepT.of_below (by (repeat' (first | exact Below.refl _ _ | assumption | refine below_new ?_ _ | refine below_draw ?_ | refine below_tail (by assumption) ?_ | refine below_set ?_ (by first | omega | (simp <;> omega)) _))))) (World.ownsRow.alloc (own_keep HOV.out (Nat.le_refl _) (KeepT.of_below hB38)) _) hgrow40 haj.out
                · intro g hg
                  refine ne_app ?_ (haj.out g hg) hat40
                  obtain ⟨_, _, e2, _, _, h4, _⟩ := htj.out
                  obtain ⟨_, cs, fr, hh⟩ := h4 g hg
                  have h1 := (Array.getElem?_eq_some_iff.1 hh).1
                  have h2 := hB38.size
                  simp; omega
              case measure => simp [intOf]; omega
            · obtain rfl : j = R.length := by omega
              go_wp2
              go_roundw
              case rel => exact ⟨i + 1, by omega, by go_num, hbj, by unfold Hid; rw [HX.out]; rw [List.take_length] at hoj; exact hoj.out⟩
              case measure => simp [intOf]; omega
        · have hcei : ¬ (c : Int) = (i : Int) + 1 := by omega
          go_wp2
          go_region_held3 (fun _ => True) (trivial) ((first | (go_at_call 64; go_loud (refine (concat_any w3.heap.size (some ⟨b, o, none⟩) (some ⟨b, o + (i + 1), none⟩) c (c - (i + 1)) (numsL (l.take i)) (numsL (l.drop (i + 1))) _ (by simp) (by rw [HA1.out]; simp) (by rw [HA2.out]; simp; try omega) (HP1.out.below (by (repeat' (first | exact Below.refl _ _ | assumption | refine below_new ?_ _ | refine below_draw ?_ | refine below_tail (by assumption) ?_ | refine below_set ?_ (by first | omega | (simp <;> omega)) _)))) (HP2.out.below (by (repeat' (first | exact Below.refl _ _ | assumption | refine below_new ?_ _ | refine below_draw ?_ | refine below_tail (by assumption) ?_ | refine below_set ?_ (by first | omega | (simp <;> omega)) _)))) (by rw [HA1.out, HA2.out]; omega)).mono ?_); rintro e w4 ⟨v4, rfl, hown4, hb4⟩; rw [HCAT.out] at hown4; have HI4 := Lib.hid (own_ints hown4); clear hown4) | (go_at_call 45; go_loud (refine (IH.out (l.take i ++ l.drop (i + 1)) v4 w4 HCL.out (by omega) HI4.out).mono ?_); rintro e w5 ⟨v5, rfl, htb5, hb5⟩; rw [HR.out] at htb5; have HT5 := Lib.hid htb5; obtain ⟨ta, tc, rfl, htc, htm⟩ := htb5.form'; rw [List.length_map] at HT5 htc; rw [List.length_map]; clear htb5)))
          have hb35 : Below w3.heap.size w3 w5 := by (repeat' (first | exact Below.refl _ _ | assumption | refine below_new ?_ _ | refine below_draw ?_ | refine below_tail (by assumption) ?_ | refine below_set ?_ (by first | omega | (simp <;> omega)) _))
          have hot5 : Hid (OwnTab w.heap.size w5 v3 ((ordI l k i ++ (R.take 0).map (fun r => x :: r)).map numsL)) := by
            show OwnTab _ _ _ _
            rw [List.take_zero, List.map_nil, List.append_nil]
            exact hot.out.keep (KeepT.of_below hb35) (KeepT.of_below hb35)
          have hap5 : Hid (apt (.slice ta R.length tc) v3) := by
            obtain ⟨vals, hvals, -⟩ := hot.out
            intro g hg e
            have h1 := (hvals.lt g e).2
            obtain ⟨_, _, e2, _, _, h4, _⟩ := HT5.out
            have h2 := (h4 g hg).1
            have h3 : w3.heap.size ≤ w4.heap.size := (by (repeat' (first | exact Below.refl _ _ | assumption | refine below_new ?_ _ | refine below_draw ?_ | refine below_tail (by assumption) ?_ | refine below_set ?_ (by first | omega | (simp <;> omega)) _)) : Below w3.heap.size w3 w4).size
            omega
          have hbw5 : Hid (Below w.heap.size w w5) := below_tail hb35 hb.out
          have HIL := ordI_len l (k := k) (i := i) (by omega) (by omega)
          go_wp2
          go_loopw [3, 30] (fun v p wr => ∃ j : Nat, j ≤ R.length ∧ p = .int .i64 j ∧ Hid (Below w.heap.size w wr) ∧ Hid (OwnTab w.heap.size wr v ((ordI l k i ++ (R.take j).map (fun r => x :: r)).map numsL)) ∧ Hid (TableT w4.heap.size wr (.slice ta R.length tc) (R.map numsL)) ∧ Hid (apt (.slice ta R.length tc) v)) (fun _ p _ => R.length - (intOf p).toNat)
          case atStart => exact ⟨0, Nat.zero_le _, rfl, hbw5, hot5, HT5, hap5⟩
          case round =>
            obtain ⟨j, hj, rfl, hbj, hoj, htj, haj⟩ := hrel
            obtain ⟨v3', hv3'⟩ : ∃ x, x = u3 := ⟨_, rfl⟩
            subst hv3'
            by_cases hlj : j < R.length
            · obtain ⟨r, hr⟩ : ∃ r, R[j] = r := ⟨_, rfl⟩
              have hr50 := HRK.out r (by rw [← hr]; exact List.getElem_mem _)
              have HTK : Hid (R.take (j + 1) = R.take j ++ [r]) := by show _ = _; rw [List.take_succ_eq_append_getElem hlj, hr]
              obtain ⟨b7, o7, u7', e7, hB7, hc7, hu7⟩ := htj.out.rowT' (k := j) (by rw [List.length_map]; exact hlj)
              subst e7
              rw [show gi (R.map numsL) [] j = numsL r by rw [gi_lt (by rw [List.length_map]; exact hlj), List.getElem_map, hr]] at hu7
              obtain ⟨ua, uc, rfl, -, -⟩ := hu7.form'
              have HSR : Hid (SrcAt wr (.slice ua r.length uc) r.length 1 (cells1 (numsL r))) := by
                have := ints_src hu7.1
                rwa [numsL_length] at this
              rw [numsL_length] at hc7
              obtain ⟨vals, hvals, hvi⟩ := hoj.out
              rw [List.length_map, List.length_append, List.length_map, List.length_take, Nat.min_eq_left hj] at hvals
              have HOV := Lib.hid hvals
              have HVI := Lib.hid hvi
              have HBJ := Lib.hid (hbj.out.size)
              have HRL2 := HRL.out
              obtain ⟨pa, pc, rfl⟩ := own_slice hvals
              clear hvals hvi hr hu7
              go_wp2_with (first
                | (at_builtin; (refine wpList_append_any (by rfl) _ _ _ (by rfl) wr.heap.size 3 i0 (.int .i64 0) 1 8 Try.underlying35 hi0 hz0 hi1 hi2 (by rfl) (by decide) (.slice (some ⟨wr.heap.size, 0, none⟩) 1 1) 1 [.int .i64 (x : Int)] (by rfl) (World.ownsRow_lit (base := wr.heap.size) (e := 3) (size := 1) wr #[.int .i64 (x : Int)] 1 (Nat.le_refl _) (by decide) rfl) _ r.length (cells1 (numsL r)) (by rfl) (HSR.out.below (by (repeat' (first | exact Below.refl _ _ | assumption | refine below_new ?_ _ | refine below_draw ?_ | refine below_tail (by assumption) ?_ | refine below_set ?_ (by first | omega | (simp <;> omega)) _)))) (by unfold maxLen; omega) (by omega) (by simp) ?_); intro v38 w38 hown38 hgrow38 hat38; have hB38 : Below wr.heap.size wr w38 := below_app (Below.refl wr.heap.size wr) (Nat.le_refl _) hgrow38 (fun q hq => by cases hq; exact Nat.le_refl _); obtain ⟨qa, qc, rfl⟩ := own_slice hown38; have HO38 := Lib.hid hown38; clear hown38)
                | (at_builtin; (refine wpList_append_any (by rfl) _ _ _ (by rfl) w.heap.size 35 i8 (.slice none 0 0) 1 24 Try.underlying22 hi8 hz8 hi81 hi82 (by rfl) (by decide) (.slice pa ((ordI l k i).length + j) pc) _ vals (by rfl) (World.ownsRow.alloc (own_keep HOV.out (Nat.le_refl _) (KeepT.of_below hB38)) _) _ 1 [.slice qa (1 + r.length) qc] (by rfl) ⟨rfl, one_slice _ _ _, .inr ⟨⟨w38.heap.size, 0, none⟩, 1, rfl, app_src1 w38 _ _⟩⟩ (by unfold maxLen; omega) (by omega) (by have := hB38.size; have := HBJ.out; simp; omega) ?_); intro v40 w40 hown40 hgrow40 hat40))
              go_roundw
              case rel =>
                have hBw38 : Below w.heap.size w w38 := below_tail hB38 hbj.out
                have hn38 : IntsT w.heap.size w38 (.slice qa (1 + r.length) qc) (numsL (x :: r)) := own_intsT (base := wr.heap.size) (by
                  rw [numsL_length, List.length_cons, Nat.add_comm r.length 1]; exact HO38.out) HBJ.out
                refine ⟨j + 1, by omega, by go_num, below_app hBw38 (Nat.le_refl _) hgrow40 (fun q hq => (HOV.out.lt q hq).1), ?_, ?_, ?_⟩
                · unfold Hid
                  rw [HTK.out, show (R.take j ++ [r]).map (fun r => x :: r) = (R.take j).map (fun r => x :: r) ++ [x :: r] by rw [List.map_append]; rfl, ← List.append_assoc, List.map_append]
                  exact OwnTab.app (vals := vals) (by rw [List.length_map, List.length_append, List.length_map, List.length_take, Nat.min_eq_left hj]; exact World.ownsRow.alloc (own_keep HOV.out (Nat.le_refl _) (KeepT.of_below hB38)) _) (fun q hq => by
                    obtain ⟨u, hu1, hu2⟩ := HVI.out q hq
                    exact ⟨u, hu1, (hu2.keep (KeepT.of_below hB38)).keep (KeepT.of_below (by (repeat' (first | exact Below.refl _ _ | assumption | refine below_new ?_ _ | refine below_draw ?_ | refine below_tail (by assumption) ?_ | refine below_set ?_ (by first | omega | (simp <;> omega)) _))))⟩) (hn38.keep (KeepT.of_below (by (repeat' (first | exact Below.refl _ _ | assumption | refine below_new ?_ _ | refine below_draw ?_ | refine below_tail (by assumption) ?_ | refine below_set ?_ (by first | omega | (simp <;> omega)) _))))) hown40 (by rw [List.length_map, List.length_append, List.length_map, List.length_take, Nat.min_eq_left hj]) hgrow40
                · exact TableT.apart ((htj.out.keep (KeepT.of_below hB38) (KeepT.of_below hB38)).keep (KeepT.of_below (by (repeat' (first | exact Below.refl _ _ | assumption | refine below_new ?_ _ | refine below_draw ?_ | refine below_tail (by assumption) ?_ | refine below_set ?_ (by first | omega | (simp <;> omega)) _)))) (KeepT.of_below (by (repeat' (first | exact Below.refl _ _ | assumption | refine below_new ?_ _ | refine below_draw ?_ | refine below_tail (by assumption) ?_ | refine below_set ?_ (by first | omega | (simp <;> omega)) _))))) (World.ownsRow.alloc (own_keep HOV.out (Nat.le_refl _) (KeepT.of_below hB38)) _) hgrow40 haj.out
                · intro g hg
                  refine ne_app ?_ (haj.out g hg) hat40
                  obtain ⟨_, _, e2, _, _, h4, _⟩ := htj.out
                  obtain ⟨_, cs, fr, hh⟩ := h4 g hg
                  have h1 := (Array.getElem?_eq_some_iff.1 hh).1
                  have h2 := hB38.size
                  simp; omega
              case measure => simp [intOf]; omega
            · obtain rfl : j = R.length := by omega
              go_wp2
              go_roundw
              case rel => exact ⟨i + 1, by omega, by go_num, hbj, by unfold Hid; rw [HX.out]; rw [List.take_length] at hoj; exact hoj.out⟩
              case measure => simp [intOf]; omega
      · obtain rfl : i = k + 1 := by omega
        have HTB := Lib.hid hot.out.table
        obtain ⟨va, vc, rfl, -⟩ := id HTB.out
        go_wp2
        refine bodyPost_ret (v := .slice va ((ordI l k (k + 1)).map numsL).length vc) (by simp [results, Try.f45, go_sem]) rfl ?_
        exact ⟨_, rfl, HTB.out, hb.out⟩
end Go.Proofs.Ytpbkkekdjkmpmaa
