/- What an owner would rather have: the program's and the document's answer. Conditions: the lists lie in memory as said. -/
import Derived.Test.YtpbkkekdjkmpmaaSwVal3
namespace Go.Proofs.Ytpbkkekdjkmpmaa
open Go.RowKit

theorem ixF_in {l : List Int} {x : Int} (h : hasB l x = true) : 0 ≤ ixF l x 0 := by
  have := ixF_has l x
  rw [h, decide_eq_true_iff] at this
  exact this
/-- Where a number of the list lies. -/
theorem ixF_spec {l : List Int} {x : Int} {k : Nat} (h : ∃ i, k ≤ i ∧ i < l.length ∧ gi l 0 i = x) : ∃ m : Nat, ixF l x k = m ∧ k ≤ m ∧ m < l.length ∧ gi l 0 m = x ∧ ∀ j, k ≤ j → j < m → gi l 0 j ≠ x := by
  obtain ⟨i, hi, hl, e⟩ := h
  generalize hd : i - k = d
  induction d generalizing k with
  | zero =>
    have : i = k := by omega
    subst this
    exact ⟨i, ixF_yes hl (by simp [e]), Nat.le_refl _, hl, e, fun j h1 h2 => by omega⟩
  | succ d ih =>
    by_cases hx : (x == gi l 0 k) = true
    · exact ⟨k, ixF_yes (by omega) hx, Nat.le_refl _, by omega, by simpa using (beq_iff_eq.1 hx).symm, fun j h1 h2 => by omega⟩
    · have hx' : (x == gi l 0 k) = false := by simpa using hx
      obtain ⟨m, h1, h2, h3, h4, h5⟩ := ih (k := k + 1) (by omega) (by omega)
      refine ⟨m, by rw [ixF_no (by omega) hx', h1], by omega, h3, h4, fun j hj1 hj2 => ?_⟩
      by_cases e2 : j = k
      · subst e2
        intro e3
        rw [e3] at hx'
        simp at hx'
      · exact h5 j (by omega) hj2
theorem has_at {l : List Int} {x : Int} (h : hasB l x = true) : ∃ i, 0 ≤ i ∧ i < l.length ∧ gi l 0 i = x := by
  obtain ⟨j, hj, e⟩ := List.mem_iff_getElem.1 (hasB_iff.1 h)
  exact ⟨j, Nat.zero_le _, hj, by rw [gi_lt hj, e]⟩

set_option maxHeartbeats 400000 in
theorem place_calls (v : Value) (l : List Int) (x : Int) (w : World) (h : IntsAt w v l) (hx : hasB l x = true) :
    Same Try.prog 31 #[v, .int .i64 x] w (.int .i64 (ixF l x 0)) := by
  have HL := Lib.hid h
  have HX := Lib.hid (ixF_in hx)
  clear hx
  obtain ⟨a, cap, rfl, hlc, hcm, -⟩ := h
  unfold Same
  go_enter Try.func31, Try.ntmps31
  go_wp2
  go_loop [5] (fun i => ∃ k : Nat, k ≤ l.length ∧ i = .int .i64 k ∧ Hid (ixF l x 0 = ixF l x k)) (fun i => l.length - (intOf i).toNat)
  case atStart => exact ⟨0, Nat.zero_le _, rfl, rfl⟩
  case round =>
    obtain ⟨k, hk, rfl, hr⟩ := hrel
    by_cases hlt : k < l.length
    · obtain ⟨b, o, rfl, hB, hcell⟩ := HL.out.cellAt hlt
      cases hx : (x == gi l 0 k)
      · have H1 := Lib.hid (ixF_no hlt hx)
        have t1 : (gi l 0 k != x) = true := by
          rw [bne, Bool.not_eq_true', beq_eq_false_iff_ne]
          intro e; rw [e] at hx; simp at hx
        clear hx
        go_wp2
        go_round
        case rel => exact ⟨k + 1, by omega, by go_num, by unfold Hid; rw [hr.out, H1.out]⟩
        case measure => simp [intOf]; omega
      · have H1 := Lib.hid (ixF_yes hlt hx)
        have t1 : (gi l 0 k != x) = false := by
          rw [bne, Bool.not_eq_false', beq_iff_eq]
          exact (beq_iff_eq.1 hx).symm
        clear hx
        go_wp2
        go_ret
        exact ⟨ret_int (by rw [hr.out, H1.out]), rfl⟩
    · have h1 := HX.out
      rw [hr.out, ixF_end hlt] at h1
      exact absurd h1 (by decide)

/-- Does an owner like a better than b? -/
def likB (L : List (List Int)) (o : Nat) (a b : Int) : Bool := decide (ixF (gi L [] o) a 0 < ixF (gi L [] o) b 0)
set_option maxHeartbeats 1000000 in
theorem likes_calls (v : Value) (L : List (List Int)) (o : Nat) (a b : Int) (w : World) (h : TableAt w v L) (ho : o < L.length) :
    Gives Try.prog 29 #[v, .int .i64 o, .int .i64 a, .int .i64 b] w (.bool (likB L o a b)) := by
  have HT := Lib.hid h
  obtain ⟨sa, cap, rfl, hlc, hcm, -⟩ := h
  obtain ⟨b0, o0, u, rfl, hB, hcell, hu⟩ := HT.out.row ho
  have HU := Lib.hid hu
  obtain ⟨ua, uc, rfl, -⟩ := hu
  have hcr := fun dr os => cell_regrown hcell dr os
  clear hcell
  unfold Gives
  go_enter Try.func29, Try.ntmps29
  go_wp2
  refine region_q mixed (by kernel_rfl) ?_
  repeat (go_big_quiet_step (first | (go_at_call 50; exact Calls.regrown_of (index_ints _ _ _ _ (HU.out.below (below_regrown _ _ _))).gives)))
  refine wpQuiet_nil ?_
  intro wq hbq
  go_wp2
  go_ret
  exact ⟨rfl, by (repeat' (first | exact Below.refl _ _ | assumption | refine below_new ?_ _ | refine below_draw ?_ | refine below_tail (by assumption) ?_ | refine below_set ?_ (by first | omega | (simp <;> omega)) _))⟩
theorem likes_is {v : Value} {L : List (List Int)} {o : Nat} {a b : Int} {t : Bool} {w : World} (h : TableAt w v L) (ho : o < L.length) (ht : likB L o a b = t) :
    Gives Try.prog 29 #[v, .int .i64 o, .int .i64 a, .int .i64 b] w (.bool t) := ht ▸ likes_calls v L o a b w h ho

/-- All numbers from k on are below n. -/
def inB (l : List Int) (n k : Nat) : Bool := decide (∀ i, i < l.length → k ≤ i → 0 ≤ gi l 0 i ∧ gi l 0 i < n)
theorem inB_yes {l : List Int} {n k : Nat} (h1 : decide (gi l 0 k < 0) = false) (h2 : decide ((n : Int) ≤ gi l 0 k) = false) : inB l n k = inB l n (k + 1) := by
  rw [decide_eq_false_iff_not] at h1 h2
  unfold inB
  rw [decide_eq_decide]
  refine ⟨fun H i hi hk => H i hi (by omega), fun H i hi hk => ?_⟩
  by_cases e : i = k
  · subst e; omega
  · exact H i hi (by omega)
theorem inB_no {l : List Int} {n k : Nat} (hk : k < l.length) (h : gi l 0 k < 0 ∨ (n : Int) ≤ gi l 0 k) : inB l n k = false := by
  unfold inB
  rw [decide_eq_false_iff_not]
  intro H
  have := H k hk (Nat.le_refl _)
  omega
theorem inB_end {l : List Int} {n : Nat} : inB l n l.length = true := by
  unfold inB
  rw [decide_eq_true_iff]
  intro i h1 h2; omega
def likE (L : List (List Int)) (o a b : Int) : Int := if vE L = 0 then (if inB [o, a, b] L.length 0 then 0 else 4) else vE L
def likV (L : List (List Int)) (o a b : Int) : Bool := likE L o a b == 0 && likB L o.toNat a b
theorem likE_bad {L : List (List Int)} {o a b e : Int} (h : vE L = e) (h0 : e ≠ 0) : likE L o a b = e ∧ likV L o a b = false := by
  have e1 : likE L o a b = e := by unfold likE; rw [h, if_neg h0]
  exact ⟨e1, by unfold likV; rw [e1]; simp [h0]⟩
theorem likE_out {L : List (List Int)} {o a b : Int} (h : vE L = 0) (hi : inB [o, a, b] L.length 0 = false) : likE L o a b = 4 ∧ likV L o a b = false := by
  have e1 : likE L o a b = 4 := by unfold likE; rw [if_pos h, hi]; rfl
  exact ⟨e1, by unfold likV; rw [e1]; rfl⟩
theorem likE_in {L : List (List Int)} {o a b : Int} (h : vE L = 0) (hi : inB [o, a, b] L.length 0 = true) : likE L o a b = 0 ∧ likV L o a b = likB L o.toNat a b := by
  have e1 : likE L o a b = 0 := by unfold likE; rw [if_pos h, hi]; rfl
  exact ⟨e1, by unfold likV; rw [e1]; rfl⟩
theorem inB_3 {n : Nat} {o a b : Int} : inB [o, a, b] n 0 = true ↔ (0 ≤ o ∧ o < n) ∧ (0 ≤ a ∧ a < n) ∧ 0 ≤ b ∧ b < n := by
  unfold inB
  rw [decide_eq_true_iff]
  constructor
  · intro H
    exact ⟨H 0 (by simp) (by simp), H 1 (by simp) (by simp), H 2 (by simp) (by simp)⟩
  · rintro ⟨h1, h2, h3⟩ i hi _
    match i, hi with
    | 0, _ => exact h1
    | 1, _ => exact h2
    | 2, _ => exact h3

/-- The call gives a bool and an error. -/
def GivesB (P : Program) (f : FuncId) (args : Array Value) (w : World) (t : Bool) (e : Int) : Prop := Gives P f args w (.tuple #[.bool t, .int .i64 e])

set_option maxHeartbeats 1000000 in
theorem Likes_calls (v : Value) (L : List (List Int)) (o a b : Int) (w : World) (h : TableAt w v L) :
    GivesB Try.prog 10 #[v, .int .i64 o, .int .i64 a, .int .i64 b] w (likV L o a b) (likE L o a b) := by
  have HT := Lib.hid h
  obtain ⟨sa, cap, rfl, hlc, hcm, -⟩ := h
  unfold GivesB Gives
  obtain ⟨e, he⟩ : ∃ e, vE L = e := ⟨_, rfl⟩
  have HE := Lib.hid he
  by_cases h0 : e = 0
  · subst h0
    clear he
    go_enter Try.func10, Try.ntmps10
    go_wp2_with (go_at_call 12; refine (validate_is HT.out HE.out).use ?_; intro w1 hb1 hz1 hc1 hf1; clear hc1 hf1)
    go_loopw [12, 23] (fun x i wr => ∃ k : Nat, k ≤ [o, a, b].length ∧ i = .int .i64 k ∧ Hid (inB [o, a, b] L.length 0 = inB [o, a, b] L.length k) ∧ Below w.heap.size w wr ∧ Hid (IntsAt wr (.slice (some ⟨w1.heap.size, 0, none⟩) 3 3) [o, a, b])) (fun x i _ => 3 - (intOf i).toNat)
    case atStart => exact ⟨0, Nat.zero_le _, rfl, rfl, by (repeat' (first | exact Below.refl _ _ | assumption | refine below_new ?_ _ | refine below_draw ?_ | refine below_tail (by assumption) ?_ | refine below_set ?_ (by first | omega | (simp <;> omega)) _)), ints3 rfl⟩
    case round =>
      obtain ⟨k, hk, rfl, hr, hb, hl3⟩ := hrel
      by_cases hlt : k < [o, a, b].length
      · have hlt' : k < 3 := hlt
        obtain ⟨b1, o1, e1, hB1, c1⟩ := hl3.out.cellAt hlt
        cases e1
        rw [Nat.zero_add] at c1
        cases hx1 : decide (gi [o, a, b] 0 k < 0)
        · cases hx2 : decide ((L.length : Int) ≤ gi [o, a, b] 0 k)
          · have H1 := Lib.hid (inB_yes hx1 hx2)
            generalize hg : gi [o, a, b] 0 k = g at *
            go_wp2
            go_roundw
            case rel => exact ⟨k + 1, hlt, by go_num, by unfold Hid; rw [hr.out, H1.out], hb, hl3⟩
            case measure => simp [intOf]; omega
          · have H1 := Lib.hid (likE_out HE.out (by rw [hr.out]; exact inB_no hlt (.inr (by simpa using hx2)) : inB [o, a, b] L.length 0 = false))
            generalize hg : gi [o, a, b] 0 k = g at *
            go_wp2
            refine bodyPost_ret (v := .tuple #[.bool false, .int .i64 4]) (by simp [results, Try.f10, go_sem]) rfl ?_
            exact ⟨by rw [H1.out.1, H1.out.2], by (repeat' (first | exact Below.refl _ _ | assumption | refine below_new ?_ _ | refine below_draw ?_ | refine below_tail (by assumption) ?_ | refine below_set ?_ (by first | omega | (simp <;> omega)) _))⟩
        · have H1 := Lib.hid (likE_out HE.out (by rw [hr.out]; exact inB_no hlt (.inl (by simpa using hx1)) : inB [o, a, b] L.length 0 = false))
          generalize hg : gi [o, a, b] 0 k = g at *
          go_wp2
          refine bodyPost_ret (v := .tuple #[.bool false, .int .i64 4]) (by simp [results, Try.f10, go_sem]) rfl ?_
          exact ⟨by rw [H1.out.1, H1.out.2], by (repeat' (first | exact Below.refl _ _ | assumption | refine below_new ?_ _ | refine below_draw ?_ | refine below_tail (by assumption) ?_ | refine below_set ?_ (by first | omega | (simp <;> omega)) _))⟩
      · obtain rfl : k = 3 := by
          have hk' : k ≤ 3 := hk
          have hlt' : ¬ k < 3 := hlt
          omega
        have hin : inB [o, a, b] L.length 0 = true := by rw [hr.out]; exact inB_end
        have H1 := Lib.hid (likE_in HE.out hin)
        obtain ⟨⟨h1, h2⟩, -⟩ := inB_3.1 hin
        obtain ⟨o', rfl⟩ := Int.eq_ofNat_of_zero_le h1
        have ho' : o' < L.length := by omega
        clear hin
        go_wp2_with (go_at_call 29; refine (likes_calls _ L o' a b _ (HT.out.below hb) ho').use ?_; intro w2 hb2 hz2 hc2 hf2; clear hc2 hf2)
        refine bodyPost_ret (v := .tuple #[.bool (likB L o' a b), .int .i64 0]) (by simp [results, Try.f10, go_sem]) rfl ?_
        exact ⟨by rw [H1.out.1, H1.out.2]; rfl, by (repeat' (first | exact Below.refl _ _ | assumption | refine below_new ?_ _ | refine below_draw ?_ | refine below_tail (by assumption) ?_ | refine below_set ?_ (by first | omega | (simp <;> omega)) _))⟩
  · have h1 : (e == 0) = false := by simpa using h0
    have h2 : (e != 0) = true := by simpa using h0
    have H1 := Lib.hid (likE_bad (o := o) (a := a) (b := b) he h0)
    clear he h0
    go_enter Try.func10, Try.ntmps10
    go_wp2_with (go_at_call 12; refine (validate_is HT.out HE.out).use ?_; intro w1 hb1 hz1 hc1 hf1; clear hc1 hf1)
    refine bodyPost_ret (v := .tuple #[.bool false, .int .i64 e]) (by simp [results, Try.f10, go_sem]) rfl ?_
    exact ⟨by rw [H1.out.1, H1.out.2], by (repeat' (first | exact Below.refl _ _ | assumption | refine below_new ?_ _ | refine below_draw ?_ | refine below_tail (by assumption) ?_ | refine below_set ?_ (by first | omega | (simp <;> omega)) _))⟩
end Go.Proofs.Ytpbkkekdjkmpmaa
