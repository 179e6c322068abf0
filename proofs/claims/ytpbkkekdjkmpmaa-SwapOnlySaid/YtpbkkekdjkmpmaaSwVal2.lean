/- Which rows of lists are right, and what an owner would rather have. Conditions: the lists lie in memory as said. -/
import Derived.Test.YtpbkkekdjkmpmaaSwVal
namespace Go.Proofs.Ytpbkkekdjkmpmaa
open Go.RowKit

/-- The lists are right. -/
def vB (L : List (List Int)) : Bool := decide (1 ≤ L.length) && decide (L.length ≤ 5) && L.all fun l => ordB l L.length
def vE (L : List (List Int)) : Int := if vB L then 0 else 1
/-- All lists from k on are right. -/
def restB (L : List (List Int)) (k : Nat) : Bool := decide (∀ i, i < L.length → k ≤ i → ordB (gi L [] i) L.length = true)
theorem restB_yes {L : List (List Int)} {k : Nat} (h : ordB (gi L [] k) L.length = true) : restB L k = restB L (k + 1) := by
  unfold restB
  rw [decide_eq_decide]
  refine ⟨fun H i hi hk => H i hi (by omega), fun H i hi hk => ?_⟩
  by_cases e : i = k
  · subst e; exact h
  · exact H i hi (by omega)
theorem restB_no {L : List (List Int)} {k : Nat} (hk : k < L.length) (h : ordB (gi L [] k) L.length = false) : restB L k = false := by
  unfold restB
  rw [decide_eq_false_iff_not]
  intro H
  rw [H k hk (Nat.le_refl _)] at h; cases h
theorem restB_end {L : List (List Int)} : restB L L.length = true := by
  unfold restB
  rw [decide_eq_true_iff]
  intro i h1 h2; omega
theorem restB_all (L : List (List Int)) : (L.all fun l => ordB l L.length) = restB L 0 := by
  unfold restB
  rw [Bool.eq_iff_iff, decide_eq_true_iff, List.all_eq_true]
  constructor
  · intro h i hi _
    rw [gi_lt hi]
    exact h _ (List.getElem_mem _)
  · intro h l hl
    obtain ⟨i, hi, rfl⟩ := List.mem_iff_getElem.1 hl
    have := h i hi (Nat.zero_le _)
    rw [gi_lt hi] at this
    exact this
theorem vE_lo {L : List (List Int)} (h : L.length < 1) : vE L = 1 := by
  unfold vE vB
  rw [decide_eq_false (by omega : ¬ 1 ≤ L.length)]; rfl
theorem vE_hi {L : List (List Int)} (h : 5 < L.length) : vE L = 1 := by
  unfold vE vB
  rw [decide_eq_false (by omega : ¬ L.length ≤ 5), Bool.and_false]; rfl
theorem vE_mid {L : List (List Int)} {b : Bool} (h1 : 1 ≤ L.length) (h5 : L.length ≤ 5) (hb : (L.any fun l => !ordB l L.length) = b) : vE L = if b then 1 else 0 := by
  unfold vE vB
  rw [decide_eq_true h1, decide_eq_true h5, Bool.true_and, Bool.true_and, ← hb]
  have : (L.all fun l => ordB l L.length) = !(L.any fun l => !ordB l L.length) := by
    rw [List.not_any_eq_all_not]; simp
  rw [this]
  cases (L.any fun l => !ordB l L.length) <;> rfl
theorem vE_rest {L : List (List Int)} {b : Bool} (h1 : 1 ≤ L.length) (h5 : L.length ≤ 5) (hb : restB L 0 = b) : vE L = if b then 0 else 1 := by
  unfold vE vB
  rw [decide_eq_true h1, decide_eq_true h5, Bool.true_and, Bool.true_and, restB_all, hb]
theorem vE_0 {L : List (List Int)} (h : vE L = 0) : vB L = true := by
  unfold vE at h
  split at h
  · assumption
  · cases h
theorem vB_len {L : List (List Int)} (h : vB L = true) : 1 ≤ L.length ∧ L.length ≤ 5 := by
  unfold vB at h
  rw [Bool.and_eq_true, Bool.and_eq_true, decide_eq_true_iff, decide_eq_true_iff] at h
  exact h.1
theorem vB_ord {L : List (List Int)} (h : vB L = true) {i : Nat} (hi : i < L.length) : (gi L [] i).length = L.length ∧ ∀ k : Nat, k < L.length → (k : Int) ∈ gi L [] i := by
  unfold vB at h
  rw [Bool.and_eq_true, List.all_eq_true] at h
  rw [gi_lt hi]
  exact ordB_iff.1 (h.2 _ (List.getElem_mem _))
theorem vE_bit (L : List (List Int)) : vE L = 0 ∨ vE L = 1 := by
  unfold vE; split <;> simp

set_option maxHeartbeats 400000 in
theorem validate1_is (u : Value) (l : List Int) (a : Option Addr) (n c B : Nat) (w : World) (h : IntsAt w u l) (hB : w.cell? ⟨B, 0, none⟩ = some (.slice a n c)) (hn : n ≤ 5) :
    Same Try.prog 33 #[u, .pointer (some ⟨B, 0, none⟩)] w (.bool (!ordB l n)) := by
  have HL := Lib.hid h
  obtain ⟨ua, uc, rfl, -⟩ := h
  unfold Same
  go_enter Try.func33, Try.ntmps33
  go_wp2_with (go_at_call 34; refine (isOrder_is _ l n _ HL.out hn).use ?_)
  go_ret
  exact ⟨rfl, rfl⟩

theorem val1_enters (args : Array Value) (w : World) : (callFunc 33 args).run Try.prog w = .ok (.enter 33 args) w := enters_of Try.func33 (by kernel_rfl) rfl args w
set_option maxHeartbeats 400000 in
theorem validate_calls (v : Value) (L : List (List Int)) (w : World) (h : TableAt w v L) :
    Gives Try.prog 12 #[v] w (.int .i64 (vE L)) := by
  have HT := Lib.hid h
  obtain ⟨a, cap, rfl, hlc, hcm, -⟩ := h
  unfold Gives
  by_cases h1 : L.length < 1
  · have t1 : decide ((L.length : Int) < 1) = true := by simp; omega
    have H := Lib.hid (vE_lo h1)
    go_enter Try.func12, Try.ntmps12
    go_wp2
    go_ret
    exact ⟨ret_int H.out.symm, by (repeat' (first | exact Below.refl _ _ | assumption | refine below_new ?_ _ | refine below_draw ?_ | refine below_tail (by assumption) ?_ | refine below_set ?_ (by first | omega | (simp <;> omega)) _))⟩
  · have t1 : decide ((L.length : Int) < 1) = false := by simp; omega
    by_cases h5 : 5 < L.length
    · have t2 : decide ((5 : Int) < (L.length : Int)) = true := by simp; omega
      have H := Lib.hid (vE_hi h5)
      go_enter Try.func12, Try.ntmps12
      go_wp2
      go_ret
      exact ⟨ret_int H.out.symm, by (repeat' (first | exact Below.refl _ _ | assumption | refine below_new ?_ _ | refine below_draw ?_ | refine below_tail (by assumption) ?_ | refine below_set ?_ (by first | omega | (simp <;> omega)) _))⟩
    · have t2 : decide ((5 : Int) < (L.length : Int)) = false := by simp; omega
      obtain ⟨b, hb⟩ : ∃ b, (L.any fun l => !ordB l L.length) = b := ⟨_, rfl⟩
      have H := Lib.hid (vE_mid (by omega) (by omega) hb)
      have hT1 : TableAt (w.alloc (.cells #[.slice a L.length cap] 22)) (.slice a L.length cap) L := HT.out.below (by (repeat' (first | exact Below.refl _ _ | assumption | refine below_new ?_ _ | refine below_draw ?_ | refine below_tail (by assumption) ?_ | refine below_set ?_ (by first | omega | (simp <;> omega)) _)))
      have HC : Hid (Same Try.prog 32 #[.slice a L.length cap, .func (.func 33) #[] #[.pointer (some ⟨w.heap.size, 0, none⟩)]] (w.alloc (.cells #[.slice a L.length cap] 22)) (.bool b)) := by
        have := containsFunc_rows _ L 33 #[.pointer (some ⟨w.heap.size, 0, none⟩)] (fun l => !ordB l L.length) _ hT1 val1_enters (fun i u hi hu => validate1_is u _ a L.length cap w.heap.size _ hu (by simp) (by omega))
        rw [hb] at this
        exact this
      clear hb hT1
      cases b
      · go_enter Try.func12, Try.ntmps12
        go_wp2_with (go_at_call 32; refine HC.out.use ?_)
        go_ret
        exact ⟨ret_int H.out.symm, by (repeat' (first | exact Below.refl _ _ | assumption | refine below_new ?_ _ | refine below_draw ?_ | refine below_tail (by assumption) ?_ | refine below_set ?_ (by first | omega | (simp <;> omega)) _))⟩
      · go_enter Try.func12, Try.ntmps12
        go_wp2_with (go_at_call 32; refine HC.out.use ?_)
        go_ret
        exact ⟨ret_int H.out.symm, by (repeat' (first | exact Below.refl _ _ | assumption | refine below_new ?_ _ | refine below_draw ?_ | refine below_tail (by assumption) ?_ | refine below_set ?_ (by first | omega | (simp <;> omega)) _))⟩
end Go.Proofs.Ytpbkkekdjkmpmaa
