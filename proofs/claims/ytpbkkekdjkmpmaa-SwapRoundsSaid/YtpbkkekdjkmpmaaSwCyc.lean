/- The cycles, as the document has them. Conditions: the list of whom each one points to lies in memory as said. -/
import Derived.Test.YtpbkkekdjkmpmaaSwRef
namespace Go.Proofs.Ytpbkkekdjkmpmaa
open Go.RowKit

/-- The ring of which i is the smallest. -/
def ringL (f : Nat → Nat) (n : Nat) (lf : Nat → Bool) (i : Nat) : List Nat := if ringB f n lf i then orb f i (wayN f n i) else []
section
variable {f : Nat → Nat} {n i m : Nat} {lf : Nat → Bool} (hf : ∀ j, j < n → f j < n) (hi : i < n)
include hf hi
theorem ring_yes (hli : lf i = true) (hm : 1 ≤ m) (hn : ∀ k, 1 ≤ k → k < m → iter f k i ≠ i) (hge : ∀ k, k < m → i ≤ iter f k i) (he : iter f m i = i) : ringL f n lf i = orb f i m := by
  have hp : Per f i := ⟨m, hm, he⟩
  have hw : Way f i m := by
    refine ⟨hm, ?_, mem_orb.2 ⟨0, hm, he.symm⟩⟩
    rw [List.nodup_iff_pairwise_ne, List.pairwise_iff_getElem]
    intro a b ha hb hab
    simp only [orb_len] at ha hb
    have e1 := orb_get (f := f) (i := i) ha
    have e2 := orb_get (f := f) (i := i) hb
    rw [List.getElem?_eq_getElem (by rw [orb_len]; exact ha)] at e1
    rw [List.getElem?_eq_getElem (by rw [orb_len]; exact hb)] at e2
    rw [Option.some.inj e1, Option.some.inj e2]
    intro e
    exact hn (b - a) (by omega) (by omega) (hp.down a (b - a) (by rw [show a + (b - a) = b by omega]; exact e))
  have hwn := (wayN_spec hf hi).uniq hw
  unfold ringL ringB
  rw [hwn, hli, decide_eq_true he, Bool.true_and, Bool.true_and, if_pos]
  rw [List.all_eq_true]
  intro x hx
  obtain ⟨k, hk, rfl⟩ := mem_orb.1 hx
  exact decide_eq_true (hge k hk)
theorem ring_low (hlt : iter f m i < i) : ringL f n lf i = [] := by
  unfold ringL
  rw [if_neg]
  intro h
  unfold ringB at h
  rw [Bool.and_eq_true, Bool.and_eq_true, List.all_eq_true] at h
  have he := of_decide_eq_true h.1.2
  have hw := wayN_spec hf hi
  have hmem : iter f m i ∈ orb f i (wayN f n i) := by
    rw [mem_orb]
    refine ⟨m % wayN f n i, Nat.mod_lt _ hw.pos, ?_⟩
    conv => rhs; rw [← Nat.mod_add_div m (wayN f n i), iter_add, iter_mul he]
  have := of_decide_eq_true (h.2 _ hmem)
  omega
theorem ring_far (hm : n < m) (hn : ∀ k, 1 ≤ k → k < m → iter f k i ≠ i) : ringL f n lf i = [] := by
  unfold ringL
  rw [if_neg]
  intro h
  unfold ringB at h
  rw [Bool.and_eq_true, Bool.and_eq_true] at h
  have he := of_decide_eq_true h.1.2
  have hw := wayN_spec hf hi
  have hle := Way.le hf hi hw.nodup
  exact hn _ hw.pos (by omega) he
omit hf hi in
theorem ring_gone (hli : lf i = false) : ringL f n lf i = [] := by
  unfold ringL ringB
  rw [hli]; rfl
end

set_option maxHeartbeats 4000000 in
theorem cycle_calls (u : Value) (L : List (List Int)) (lf : Nat → Bool) (i : Nat) (w : World) (h : IntsAt w u (toL L lf L.length)) (hi : i < L.length) (h5 : L.length ≤ 5)
    (hf : lf i = true → (∀ j, j < L.length → ptN L lf j < L.length) ∧ ∀ j, j < L.length → lf j = true → lf (ptN L lf j) = true) :
    GivesT Try.prog 60 #[u, .int .i64 i] w (numsL (ringL (ptN L lf) L.length lf i)) := by
  have HU := Lib.hid h
  obtain ⟨ua, uc, rfl, hul, hum, -⟩ := h
  rw [toL_length] at hul HU
  rw [toL_length]
  obtain ⟨f, hff⟩ : ∃ f, ptN L lf = f := ⟨_, rfl⟩
  rw [hff] at hf
  rw [hff]
  have HTO : Hid (∀ j, j < L.length → lf j = true → gi (toL L lf L.length) 0 j = (f j : Int)) := by
    show ∀ j, _ → _ → _
    intro j hj hl
    rw [toL_get hj, ← hff]
    unfold refTo
    rw [if_pos hl]
  obtain ⟨i0, hi0, hz0, hi1, hi2⟩ := info_parts infoInt
  unfold GivesT
  obtain ⟨b, o, rfl, hBw, hc0⟩ := HU.out.cellAt (m := i) (by rw [toL_length]; exact hi)
  have HLI : Hid (lf i = false → gi (toL L lf L.length) 0 i = -1) := fun hl => by rw [toL_get hi]; unfold refTo; rw [hl]; rfl
  clear hff
  cases hli : lf i
  · rw [HLI.out hli] at hc0
    have HR : Hid (ringL f L.length lf i = []) := ring_gone hli
    clear hli hf
    go_enter Try.func60, Try.ntmps60
    go_wp2
    refine bodyPost_ret (v := .slice none 0 0) (by simp [results, Try.f60, go_sem]) rfl ?_
    exact ⟨_, rfl, by rw [HR.out]; exact ⟨ints0 _ _ _ (by decide), fun b hb => by cases hb⟩, by (repeat' (first | exact Below.refl _ _ | assumption | refine below_new ?_ _ | refine below_draw ?_ | refine below_tail (by assumption) ?_ | refine below_set ?_ (by first | omega | (simp <;> omega)) _))⟩
  · rw [HTO.out i hi hli] at hc0
    have HF := Lib.hid (hf hli).1
    have HLF := Lib.hid (hf hli).2
    have HL := Lib.hid hli
    clear hli hf
    go_enter Try.func60, Try.ntmps60
    go_wp2
    go_loopw [5, 6] (fun v p wr => ∃ m : Nat, 1 ≤ m ∧ m ≤ L.length + 1 ∧ p = .int .i64 (iter f m i : Nat) ∧ Hid (Below w.heap.size w wr) ∧ Hid (wr.ownsRow w.heap.size 3 1 v m (cells1 (numsL (orb f i m)))) ∧ Hid (∀ k, 1 ≤ k → k < m → iter f k i ≠ i) ∧ Hid (∀ k, k < m → i ≤ iter f k i)) (fun v _ _ => L.length + 2 - lenOf v)
    case atStart =>
      refine ⟨1, Nat.le_refl _, by omega, rfl, (by (repeat' (first | exact Below.refl _ _ | assumption | refine below_new ?_ _ | refine below_draw ?_ | refine below_tail (by assumption) ?_ | refine below_set ?_ (by first | omega | (simp <;> omega)) _)) : Below w.heap.size w _), lit_int w i f rfl (Nat.le_refl _), ?_, ?_⟩
      · intro k h1 h2; omega
      · intro k hk
        obtain rfl : k = 0 := by omega
        exact Nat.le_refl _
    case round =>
      obtain ⟨m, hm1, hm2, rfl, hb, how, hne, hge⟩ := hrel
      have hxn : iter f m i < L.length := iter_lt HF.out m i hi
      have hlx : lf (iter f m i) = true := left_iter HF.out HLF.out hi HL.out m
      obtain ⟨b', o', e', hBx, hcx⟩ := HU.out.cellAt (m := iter f m i) (by rw [toL_length]; exact hxn)
      cases e'
      rw [HTO.out _ hxn hlx] at hcx
      have hcn : w.cell? ⟨b, o + iter f m i, none⟩ = some (.int .i64 (iter f (m + 1) i : Nat)) := hcx
      obtain ⟨va, vc, rfl⟩ := own_slice how.out
      have HX := Lib.hid hlx
      clear hlx hcx hBx
      by_cases he : iter f m i = i
      · have t1 : (((iter f m i : Nat) : Int) != (i : Int)) = false := by rw [he]; simp
        have HR := Lib.hid (ring_yes HF.out hi HL.out hm1 hne.out hge.out he)
        have HI : Hid (IntsT w.heap.size wr (.slice va m vc) (numsL (orb f i m))) := own_intsT (by rw [numsL_length, orb_len]; exact how.out) (Nat.le_refl _)
        clear he
        go_wp2
        refine bodyPost_ret (v := .slice va m vc) (by simp [results, Try.f60, go_sem]) rfl ?_
        exact ⟨_, rfl, by rw [HR.out]; exact HI.out, hb.out⟩
      · have t1 : (((iter f m i : Nat) : Int) != (i : Int)) = true := by simp; omega
        by_cases hlo : iter f m i < i
        · have t2 : decide (iter f m i < i) = true := decide_eq_true hlo
          have HR : Hid (ringL f L.length lf i = []) := ring_low HF.out hi hlo
          clear he hlo
          go_wp2
          refine bodyPost_ret (v := .slice none 0 0) (by simp [results, Try.f60, go_sem]) rfl ?_
          exact ⟨_, rfl, by rw [HR.out]; exact ⟨ints0 _ _ _ (by decide), fun b hb => by cases hb⟩, hb.out⟩
        · have t2 : decide (iter f m i < i) = false := decide_eq_false hlo
          by_cases hfar : L.length < m
          · have t3 : decide (L.length < m) = true := decide_eq_true hfar
            have HR : Hid (ringL f L.length lf i = []) := ring_far HF.out hi hfar hne.out
            clear he hlo hfar
            go_wp2
            refine bodyPost_ret (v := .slice none 0 0) (by simp [results, Try.f60, go_sem]) rfl ?_
            exact ⟨_, rfl, by rw [HR.out]; exact ⟨ints0 _ _ _ (by decide), fun b hb => by cases hb⟩, hb.out⟩
          · have t3 : decide (L.length < m) = false := decide_eq_false hfar
            have HE := Lib.hid he
            have HLO := Lib.hid hlo
            clear he hlo
            go_wp2_with (at_builtin; refine wpList_append_own _ rfl _ _ 35 rfl w.heap.size 3 i0 (.int .i64 0) 1 8 Try.underlying35 hi0 hz0 hi1 hi2 rfl (by decide) _ _ _ rfl (how.out.alloc _) ⟨wr.heap.size, 0, none⟩ 1 1 [.int .i64 (iter f m i : Nat)] rfl rfl (app_src1 _ _ _) (one_int _) (by unfold maxLen; omega) (by omega) (by have := hb.out.size; simp; omega) ?_; intro v' w4 hown4 hgrow _; have HB4 : Hid (Below w.heap.size w w4) := below_app hb.out (Nat.le_refl _) hgrow (fun j hj => (how.out.lt j hj).1); have hcn4 := (HB4.out.cell (p := ⟨b, o + iter f m i, none⟩) hBw).trans hcn)
            go_roundw
            case rel =>
              refine ⟨m + 1, by omega, by omega, rfl, HB4, ?_, ?_, ?_⟩
              · unfold Hid; rw [orb_succ]; unfold numsL at hown4 ⊢; rw [List.map_append, cells1_append]; exact hown4
              · intro k h1 h2
                by_cases e : k = m
                · subst e; exact HE.out
                · exact hne.out k h1 (by omega)
              · intro k hk
                by_cases e : k = m
                · subst e; have := HLO.out; omega
                · exact hge.out k (by omega)
            case measure =>
              obtain ⟨va', vc', rfl⟩ := own_slice hown4
              simp [lenOf]; omega
end Go.Proofs.Ytpbkkekdjkmpmaa
