/- Whom each one points to, and the cycles, as the document has them. Conditions: the lists are right, and lie in memory as said. -/
import Derived.Test.YtpbkkekdjkmpmaaSwColl
namespace Go.Proofs.Ytpbkkekdjkmpmaa
open Go.RowKit

/-- The first number from k on that is left, else -1. -/
def toF (l : List Int) (lf : Nat → Bool) (k : Nat) : Int := if idxFrom l (fun p => lf p.toNat) 0 k < 0 then -1 else gi l 0 (idxFrom l (fun p => lf p.toNat) 0 k).toNat
theorem toF_yes {l : List Int} {lf : Nat → Bool} {k : Nat} (h : k < l.length) (hp : lf (gi l 0 k).toNat = true) : toF l lf k = gi l 0 k := by
  unfold toF
  rw [idxFrom_yes h hp, if_neg (by omega)]; simp
theorem toF_no {l : List Int} {lf : Nat → Bool} {k : Nat} (h : k < l.length) (hp : lf (gi l 0 k).toNat = false) : toF l lf k = toF l lf (k + 1) := by
  unfold toF
  rw [idxFrom_no h hp]
theorem toF_end {l : List Int} {lf : Nat → Bool} : toF l lf l.length = -1 := by
  unfold toF
  rw [idxFrom_end (by omega)]; rfl
def refTo (L : List (List Int)) (lf : Nat → Bool) (i : Nat) : Int := if lf i then (ptN L lf i : Int) else -1
theorem toF_pt {L : List (List Int)} {lf : Nat → Bool} {i : Nat} (hv : vB L = true) (hi : i < L.length) (hl : lf i = true) : toF (gi L [] i) lf 0 = refTo L lf i := by
  obtain ⟨m, h1, h2, h3, h4, h5, h6⟩ := pt_spec hv hi (anyL_iff.2 ⟨i, hi, hl⟩)
  unfold toF refTo
  rw [h1, if_neg (by omega), if_pos hl]
  simpa using h3
def toL (L : List (List Int)) (lf : Nat → Bool) (k : Nat) : List Int := (List.range k).map (refTo L lf)
theorem toL_succ (L : List (List Int)) (lf : Nat → Bool) (k : Nat) : toL L lf (k + 1) = toL L lf k ++ [refTo L lf k] := by simp [toL, List.range_succ]
theorem toL_length (L : List (List Int)) (lf : Nat → Bool) (k : Nat) : (toL L lf k).length = k := by simp [toL]
theorem toL_get {L : List (List Int)} {lf : Nat → Bool} {k i : Nat} (hi : i < k) : gi (toL L lf k) 0 i = refTo L lf i := by simp [toL, gi, hi]

/-- The call gives a list in memory that it has made. -/
def GivesT (P : Program) (f : FuncId) (args : Array Value) (w : World) (l : List Int) : Prop :=
  Calls P f args w fun e w' => ∃ v, e = .returned v ∧ IntsT w.heap.size w' v l ∧ Below w.heap.size w w'

set_option maxHeartbeats 4000000 in
theorem points_calls (v : Value) (L : List (List Int)) (lf : Nat → Bool) (s : Nat) (w : World) (h : TableAt w v L) (hv : vB L = true) (hb : BoolsAt w (.slice (some ⟨s, 0, none⟩) L.length L.length) ((List.range L.length).map lf)) :
    GivesT Try.prog 59 #[v, .slice (some ⟨s, 0, none⟩) L.length L.length] w (toL L lf L.length) := by
  have HT := Lib.hid h
  have HV := Lib.hid hv
  obtain ⟨h1L, h5L⟩ := vB_len hv
  have hBG : ∀ k, k < L.length → s < w.heap.size ∧ w.cell? ⟨s, k, none⟩ = some (.bool (lf k)) := by
    intro k hk
    obtain ⟨b, o, e, hB, hc⟩ := hb.cellAt (m := k) (by simpa using hk)
    cases e
    rw [Nat.zero_add] at hc
    exact ⟨hB, by rw [hc]; simp [gi, hk]⟩
  have HB := Lib.hid hBG
  obtain ⟨sa, cap, rfl, hlc, hcm, -⟩ := h
  obtain ⟨i0, hi0, hz0, hi1, hi2⟩ := info_parts infoInt
  clear hv hb hBG
  unfold GivesT
  go_enter Try.func59, Try.ntmps59
  go_wp2
  go_loopw [5, 6] (fun v i wr => ∃ k : Nat, k ≤ L.length ∧ i = .int .i64 k ∧ Hid (Below w.heap.size w wr) ∧ Hid (wr.ownsRow w.heap.size 3 1 v k (cells1 (toL L lf k)))) (fun v i _ => L.length - (intOf i).toNat)
  case atStart => exact ⟨0, Nat.zero_le _, rfl, Below.refl _ _, World.ownsRow_nil _ _ _ _⟩
  case round =>
    obtain ⟨k, hk, rfl, hb, how⟩ := hrel
    by_cases hlt : k < L.length
    · obtain ⟨b, o, u, rfl, hB, hcell, hu⟩ := (HT.out.below hb.out).row hlt
      have hlen := (vB_ord HV.out hlt).1
      have HU := Lib.hid hu
      obtain ⟨ua, uc, rfl, -⟩ := hu
      obtain ⟨hsB, hcs0⟩ := HB.out k hlt
      have hcs := (hb.out.cell (p := ⟨s, k, none⟩) hsB).trans hcs0
      have HLEN := Lib.hid hlen
      rw [hlen] at hcell HU
      clear hlen hcs0
      obtain ⟨t, ht⟩ : ∃ t, refTo L lf k = t := ⟨_, rfl⟩
      have HT2 : Hid (toL L lf (k + 1) = toL L lf k ++ [t]) := by show _ = _; rw [toL_succ, ht]
      have APP : ∀ (w9 : World), w9 = wr → True := fun _ _ => trivial
      clear APP
      cases hlk : lf k
      · rw [hlk] at hcs
        have htv : t = -1 := by rw [← ht]; unfold refTo; rw [hlk]; rfl
        subst htv
        clear ht hlk
        go_wp2
        go_loop [7, 8] (fun to j => to = .int .i64 (-1) ∧ j = .int .i64 ((L.length : Int) - 1)) (fun to j => 0)
        case atStart => exact ⟨rfl, rfl⟩
        case round =>
          obtain ⟨rfl, rfl⟩ := hrel
          have t1 : decide ((L.length : Int) < 1) = false := by simp; omega
          have t2 : decide ((0 : Int) ≤ (L.length : Int) - 1) = true := by simp; omega
          have t3 : ¬ (L.length : Int) < 1 := by omega
          go_wp2_with (at_builtin; refine wpList_append_own _ rfl _ _ 35 rfl w.heap.size 3 i0 (.int .i64 0) 1 8 Try.underlying35 hi0 hz0 hi1 hi2 rfl (by decide) _ _ _ rfl (how.out.alloc _) ⟨wr.heap.size, 0, none⟩ 1 1 [.int .i64 (-1)] rfl rfl (app_src1 _ _ _) (one_int _) (by unfold maxLen; omega) (by omega) (by have := hb.out.size; simp; omega) ?_; intro v' w4 hown4 hgrow _)
          go_roundw
          case rel => exact ⟨k + 1, by omega, by go_num, below_app hb.out (Nat.le_refl _) hgrow (fun j hj => (how.out.lt j hj).1), by unfold Hid; rw [HT2.out, cells1_append]; exact hown4⟩
          case measure => simp [intOf]; omega
          exfalso; omega
      · rw [hlk] at hcs
        have HTO : Hid (toF (gi L [] k) lf 0 = t) := by show _ = _; rw [← ht]; exact toF_pt HV.out hlt hlk
        clear ht hlk
        go_wp2
        go_loop [7, 8] (fun to j => ∃ q : Nat, q ≤ L.length ∧ j = .int .i64 ((q : Int) - 1) ∧ to = .int .i64 (toF (gi L [] k) lf q)) (fun to j => (intOf j + 1).toNat)
        case atStart => exact ⟨L.length, Nat.le_refl _, rfl, by rw [← HLEN.out, toF_end]⟩
        case round =>
          obtain ⟨q, hq, rfl, rfl⟩ := hrel
          by_cases hq0 : q = 0
          · subst hq0
            have t1 : decide ((0 : Int) ≤ ((0 : Nat) : Int) - 1) = false := by simp
            rw [HTO.out]
            go_wp2_with (at_builtin; refine wpList_append_own _ rfl _ _ 35 rfl w.heap.size 3 i0 (.int .i64 0) 1 8 Try.underlying35 hi0 hz0 hi1 hi2 rfl (by decide) _ _ _ rfl (how.out.alloc _) ⟨wr.heap.size, 0, none⟩ 1 1 [.int .i64 t] rfl rfl (app_src1 _ _ _) (one_int _) (by unfold maxLen; omega) (by omega) (by have := hb.out.size; simp; omega) ?_; intro v' w4 hown4 hgrow _)
            go_roundw
            case rel => exact ⟨k + 1, by omega, by go_num, below_app hb.out (Nat.le_refl _) hgrow (fun j hj => (how.out.lt j hj).1), by unfold Hid; rw [HT2.out, cells1_append]; exact hown4⟩
            case measure => simp [intOf]; omega
          · obtain ⟨p, rfl⟩ : ∃ p, q = p + 1 := ⟨q - 1, by omega⟩
            have e1 : ((p + 1 : Nat) : Int) - 1 = (p : Int) := by omega
            have hpl : p < L.length := by omega
            obtain ⟨b2, o2, rfl, hB2, hcell2⟩ := HU.out.cellAt (m := p) (by rw [HLEN.out]; exact hpl)
            have hnum := (vB_num HV.out hlt (k := p) hpl).1
            obtain ⟨x, hx⟩ := Int.eq_ofNat_of_zero_le hnum.1
            have hxl : x < L.length := by rw [hx] at hnum; omega
            have hcx := (hb.out.cell (p := ⟨s, x, none⟩) (HB.out x hxl).1).trans (HB.out x hxl).2
            rw [hx] at hcell2
            have HY : Hid (lf x = true → toF (gi L [] k) lf p = x) := fun hy => by rw [toF_yes (by rw [HLEN.out]; exact hpl) (by rw [hx]; simpa using hy), hx]
            have HN : Hid (lf x = false → toF (gi L [] k) lf p = toF (gi L [] k) lf (p + 1)) := fun hy => toF_no (by rw [HLEN.out]; exact hpl) (by rw [hx]; simpa using hy)
            rw [e1]
            clear hx hnum e1 hq0
            cases hlx : lf x
            · rw [hlx] at hcx
              have H1 := Lib.hid (HN.out hlx)
              clear hlx
              go_wp2
              go_round
              case rel => exact ⟨p, by omega, by go_num, by rw [H1.out]⟩
              case measure => simp [intOf]
            · rw [hlx] at hcx
              have H1 := Lib.hid (HY.out hlx)
              clear hlx
              go_wp2
              go_round
              case rel => exact ⟨p, by omega, by go_num, by rw [H1.out]⟩
              case measure => simp [intOf]
    · obtain rfl : k = L.length := by omega
      obtain ⟨va, vc, rfl⟩ := own_slice how.out
      have HI : Hid (IntsT w.heap.size wr (.slice va L.length vc) (toL L lf L.length)) := own_intsT (by rw [toL_length]; exact how.out) (Nat.le_refl _)
      go_wp2
      refine bodyPost_ret (v := .slice va L.length vc) (by simp [results, Try.f59, go_sem]) rfl ?_
      exact ⟨_, rfl, HI.out, hb.out⟩
end Go.Proofs.Ytpbkkekdjkmpmaa
