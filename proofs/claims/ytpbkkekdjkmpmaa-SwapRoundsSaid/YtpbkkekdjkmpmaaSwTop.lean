/- Top of package swap, and the rounds collected. Conditions: the lists lie in memory as said. -/
import Derived.Test.YtpbkkekdjkmpmaaSwKnown
namespace Go.Proofs.Ytpbkkekdjkmpmaa
open Go.RowKit Go.Shelf

def topL (L : List (List Int)) (k : Nat) : List Int := (List.range k).map fun i => gi (gi L [] i) 0 0
def topR (L : List (List Int)) : List Int := if vE L = 0 then topL L L.length else []
theorem topL_succ (L : List (List Int)) (k : Nat) : topL L (k + 1) = topL L k ++ [gi (gi L [] k) 0 0] := by simp [topL, List.range_succ]
theorem topL_length (L : List (List Int)) (k : Nat) : (topL L k).length = k := by simp [topL]
set_option maxHeartbeats 2000000 in
theorem Top_calls (v : Value) (L : List (List Int)) (w : World) (h : TableAt w v L) :
    GivesIE Try.prog 18 #[v] w (topR L) (vE L) := by
  have HT := Lib.hid h
  obtain ⟨sa, cap, rfl, hlc, hcm, -⟩ := h
  unfold GivesIE
  obtain ⟨e, he⟩ : ∃ e, vE L = e := ⟨_, rfl⟩
  have HE := Lib.hid he
  by_cases h0 : e = 0
  · subst h0
    have H1 : Hid (topR L = topL L L.length) := if_pos he
    have HV := Lib.hid (vE_0 he)
    have h15 := vB_len (vE_0 he)
    obtain ⟨i0, hi0, hz0, hi1, hi2⟩ := info_parts infoInt
    clear he
    go_enter Try.func18, Try.ntmps18
    go_wp2_with (go_at_call 12; refine (validate_is HT.out HE.out).use ?_; intro w1 hb1 hz1 hc1 hf1; clear hc1 hf1)
    go_loopw [5, 15] (fun v i wr => ∃ k : Nat, k ≤ L.length ∧ i = .int .i64 k ∧ Hid (Below w1.heap.size w1 wr) ∧ Hid (wr.ownsRow w1.heap.size 3 1 v k (cells1 (topL L k)))) (fun v i _ => L.length - (intOf i).toNat)
    case atStart => exact ⟨0, Nat.zero_le _, rfl, Below.refl _ _, World.ownsRow_nil _ _ _ _⟩
    case round =>
      obtain ⟨k, hk, rfl, hb, how⟩ := hrel
      by_cases hlt : k < L.length
      · obtain ⟨b, o, u, rfl, hB, hcell, hu⟩ := (HT.out.below (below_tail hb.out hb1)).row hlt
        have hlen := (vB_ord HV.out hlt).1
        have HU := Lib.hid hu
        obtain ⟨ua, uc, rfl, -⟩ := hu
        obtain ⟨b2, o2, rfl, hB2, hcell2⟩ := HU.out.cellAt (m := 0) (by omega)
        rw [Nat.add_zero] at hcell2
        have hpos : (0 : Int) < ((gi L [] k).length : Int) := by omega
        obtain ⟨x, hx⟩ : ∃ x, gi (gi L [] k) 0 0 = x := ⟨_, rfl⟩
        have HX : Hid (topL L (k + 1) = topL L k ++ [x]) := by show _ = _; rw [topL_succ, hx]
        rw [hx] at hcell2
        clear hx hlen
        go_wp2_with (at_builtin; refine wpList_append_own _ rfl _ _ 35 rfl w1.heap.size 3 i0 (.int .i64 0) 1 8 Try.underlying35 hi0 hz0 hi1 hi2 rfl (by decide) _ _ _ rfl (how.out.alloc _) ⟨wr.heap.size, 0, none⟩ 1 1 [.int .i64 x] rfl rfl (app_src1 _ _ _) (one_int _) (by unfold maxLen; omega) (by omega) (by have := hb.out.size; simp; omega) ?_; intro v' w4 hown4 hgrow _)
        go_roundw
        case rel => exact ⟨k + 1, by omega, by go_num, below_app hb.out (Nat.le_refl _) hgrow (fun j hj => (how.out.lt j hj).1), by unfold Hid; rw [HX.out, cells1_append]; exact hown4⟩
        case measure => simp [intOf]; omega
      · obtain rfl : k = L.length := by omega
        obtain ⟨va, vc, rfl⟩ := own_slice how.out
        have HI : Hid (IntsAt wr (.slice va L.length vc) (topL L L.length)) := own_ints (by rw [topL_length]; exact how.out)
        go_wp2
        refine bodyPost_ret (v := .tuple #[.slice va L.length vc, .int .i64 0]) (by simp [results, Try.f18, go_sem]) rfl ?_
        exact ⟨_, by rw [HE.out], by rw [H1.out]; exact HI.out, below_tail hb.out hb1⟩
  · have h1 : (e == 0) = false := by simpa using h0
    have h2 : (e != 0) = true := by simpa using h0
    have H1 : Hid (topR L = []) := if_neg (by rw [he]; exact h0)
    clear he h0
    go_enter Try.func18, Try.ntmps18
    go_wp2_with (go_at_call 12; refine (validate_is HT.out HE.out).use ?_; intro w1 hb1 hz1 hc1 hf1; clear hc1 hf1)
    refine bodyPost_ret (v := .tuple #[.slice none 0 0, .int .i64 e]) (by simp [results, Try.f18, go_sem]) rfl ?_
    exact ⟨_, by rw [HE.out], by rw [H1.out]; exact ints0 _ _ _ (by decide), by (repeat' (first | exact Below.refl _ _ | assumption | refine below_new ?_ _ | refine below_draw ?_ | refine below_tail (by assumption) ?_ | refine below_set ?_ (by first | omega | (simp <;> omega)) _))⟩
end Go.Proofs.Ytpbkkekdjkmpmaa
