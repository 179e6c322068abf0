/- What Validate of package plot gives. Conditions: the list lies in memory as said. -/
import Derived.Test.YthiemglckmociaaPtTwice
namespace Go.Proofs.Ythiemglckmociaa
open Go.RowKit Go.Shelf
attribute [local go_sem] Oper.semAt_some wide_fn

theorem PairsAt.take {w : World} {a : Option Addr} {n cap : Nat} {l : List (Int × Int)} (h : PairsAt w (.slice a n cap) l) {k : Nat} (hk : k ≤ l.length) : PairsAt w (.slice a k cap) (l.take k) := by
  obtain ⟨a', cap', hv, h1, h2, h3⟩ := h
  cases hv
  have hlen : (l.take k).length = k := by simp; omega
  refine ⟨a, cap, by rw [hlen], by omega, h2, fun i hi => ?_⟩
  obtain ⟨b, o, ha, hb, c1, c2⟩ := h3 i (by omega)
  have e : gi (l.take k) (0, 0) i = gi l (0, 0) i := by unfold gi; rw [List.getElem?_take_of_lt (by omega)]
  rw [e]; exact ⟨b, o, ha, hb, c1, c2⟩
theorem take_contains {l : List (Int × Int)} {k : Nat} (hk : k < l.length) : (l.take k).contains (gi l (0, 0) k) = anyN (fun j => cor l k == cor l j) k := by
  rw [Bool.eq_iff_iff]
  have hlen : (l.take k).length = k := by simp; omega
  constructor
  · intro h
    rw [List.contains_iff_mem] at h
    obtain ⟨j, hj, e⟩ := List.getElem_of_mem h
    rw [hlen] at hj
    refine anyN_true hj ?_
    rw [cor_lt hk, cor_lt (by omega)]
    rw [List.getElem_take] at e
    rw [gi_lt (i := j) (by omega), e]; simp
  · intro h
    obtain ⟨j, hj, e⟩ := anyN_elim h
    rw [cor_lt hk, cor_lt (by omega)] at e
    rw [List.contains_iff_mem, beq_iff_eq.1 e, gi_lt (by omega)]
    have : (l.take k)[j]'(by omega) = l[j]'(by omega) := List.getElem_take
    rw [← this]; exact List.getElem_mem _
/-- No corner before k lies where an earlier one lies. -/
def noDup (l : List (Int × Int)) (k : Nat) : Prop := ∀ i, i < k → anyN (fun j => cor l i == cor l j) i = false
def vcode (b : Bool) : Int := if b then 9 else 0
theorem vrange_enters : ∀ args w, (callFunc 63 args).run Try.prog w = .ok (.enter 63 args) w := fun args w => enters_of Try.func63 (by kernel_rfl) rfl args w
theorem any_inR (l : List (Int × Int)) : (l.any fun x => !(inR x)) = !(rangedB l) := by unfold rangedB; rw [List.all_eq_not_any_not]; simp
theorem rng_bd {l : List (Int × Int)} (h : rangedB l = true) (i : Nat) (h0 : 0 < l.length) : bdP (cor l i) := by
  have hm : i % l.length < l.length := Nat.mod_lt _ h0
  have := List.all_eq_true.1 h (cor l i) (by unfold cor; rw [gi_lt hm]; exact List.getElem_mem _)
  have := inR_iff.1 this
  unfold bdP; omega

set_option maxHeartbeats 4000000 in
set_option maxRecDepth 100000 in
theorem valid_len (v : Value) (l : List (Int × Int)) (w : World) (h : PairsAt w v l) (hl : l.length < 3 ∨ 10 < l.length) :
    Gives Try.prog 27 #[v] w (.int .i64 3) := by
  have HP := Lib.hid h
  obtain ⟨sa, cap, rfl, hlc, hcm, _⟩ := h
  unfold Gives
  rcases hl with h1 | h1
  · have d1 : decide ((l.length : Int) < 3) = true := decide_eq_true (by omega)
    refine (callsIn_wide (n := 9)).1 ?_
    refine callsIn_of_wp_marks Try.func27 rfl trivial ?_ rfl
    simp only [Try.ntmps27, List.size_toArray, List.length_cons, List.length_nil, Nat.reduceAdd, Nat.reduceSub, Array.replicate_succ, Array.replicate_zero, List.push_toArray, List.append_toArray, List.nil_append, List.cons_append]
    gi_wp2
    exact ⟨.int .i64 3, by simp [results, Try.f27, go_sem], rfl, by (repeat' (first | exact Below.refl _ _ | assumption | refine below_new ?_ _ | refine below_draw ?_ | refine below_tail (by assumption) ?_ | refine below_set ?_ (by first | omega | (simp <;> omega)) _))⟩
  · have d1 : decide ((l.length : Int) < 3) = false := decide_eq_false (by omega)
    have d2 : decide ((10 : Int) < l.length) = true := decide_eq_true (by omega)
    refine (callsIn_wide (n := 9)).1 ?_
    refine callsIn_of_wp_marks Try.func27 rfl trivial ?_ rfl
    simp only [Try.ntmps27, List.size_toArray, List.length_cons, List.length_nil, Nat.reduceAdd, Nat.reduceSub, Array.replicate_succ, Array.replicate_zero, List.push_toArray, List.append_toArray, List.nil_append, List.cons_append]
    gi_wp2
    exact ⟨.int .i64 3, by simp [results, Try.f27, go_sem], rfl, by (repeat' (first | exact Below.refl _ _ | assumption | refine below_new ?_ _ | refine below_draw ?_ | refine below_tail (by assumption) ?_ | refine below_set ?_ (by first | omega | (simp <;> omega)) _))⟩

set_option maxHeartbeats 4000000 in
set_option maxRecDepth 100000 in
theorem valid_rng (v : Value) (l : List (Int × Int)) (w : World) (h : PairsAt w v l) (h1 : 3 ≤ l.length) (h2 : l.length ≤ 10) (hr : rangedB l = false) :
    Gives Try.prog 27 #[v] w (.int .i64 1) := by
  have HP := Lib.hid h
  obtain ⟨sa, cap, rfl, hlc, hcm, _⟩ := h
  unfold Gives
  have d1 : decide ((l.length : Int) < 3) = false := decide_eq_false (by omega)
  have d2 : decide ((10 : Int) < l.length) = false := decide_eq_false (by omega)
  have hB0 : Below w.heap.size w ((w.alloc (.cells #[.slice sa l.length cap] 22)).alloc (.cells #[.int .i64 0] 25)) := by (repeat' (first | exact Below.refl _ _ | assumption | refine below_new ?_ _ | refine below_draw ?_ | refine below_tail (by assumption) ?_ | refine below_set ?_ (by first | omega | (simp <;> omega)) _))
  have HCF := Lib.hid (containsFunc_pts _ l 63 #[] (fun x => !(inR x)) _ (HP.out.below hB0) vrange_enters (fun x w' _ => rangeC_calls x w'))
  rw [any_inR, hr] at HCF
  clear hB0
  refine (callsIn_wide (n := 9)).1 ?_
  refine callsIn_of_wp_marks Try.func27 rfl trivial ?_ rfl
  simp only [Try.ntmps27, List.size_toArray, List.length_cons, List.length_nil, Nat.reduceAdd, Nat.reduceSub, Array.replicate_succ, Array.replicate_zero, List.push_toArray, List.append_toArray, List.nil_append, List.cons_append]
  gi_wp2_with (gi_at_call 62; refine (callsIn_wide.2 (HCF.out.use ?_)); intro w1 hb1 hz1 hc1 hf1; (try simp at hz1); have hx0 := hc1 w.heap.size 0 (by simp <;> omega); have hx1 := hc1 (w.heap.size + 1) 0 (by simp <;> omega); have hx2 := hf1 (w.heap.size + 1) 0 (by simp <;> omega); clear hc1 hf1)
  have hr3 : (w1.setCell ⟨w.heap.size + 1, 0, none⟩ (.int .i64 1)).cell? ⟨w.heap.size + 1, 0, none⟩ = some (.int .i64 1) := World.cell?_setCell_same' _ _ _ (by rw [hx1]; simp [go_sem])
  exact ⟨.int .i64 1, by simp [results, Try.f27, go_sem, hr3], rfl, by (repeat' (first | exact Below.refl _ _ | assumption | refine below_new ?_ _ | refine below_draw ?_ | refine below_tail (by assumption) ?_ | refine below_set ?_ (by first | omega | (simp <;> omega)) _))⟩

theorem contains_is {v : Value} {l : List (Int × Int)} {x : Int × Int} {t : Bool} {w : World} (h : PairsAt w v l) (ht : l.contains x = t) :
    Gives Try.prog 65 #[v, .agg #[.int .i64 x.1, .int .i64 x.2]] w (.bool t) := ht ▸ contains_pts v l x w h

set_option maxHeartbeats 4000000 in
set_option maxRecDepth 100000 in
theorem valid_dup (v : Value) (l : List (Int × Int)) (w : World) (h : PairsAt w v l) (h1 : 3 ≤ l.length) (h2 : l.length ≤ 10) (hr : rangedB l = true) (hd : dupB l = true) :
    Gives Try.prog 27 #[v] w (.int .i64 6) := by
  have HP := Lib.hid h
  obtain ⟨sa, cap, rfl, hlc, hcm, _⟩ := h
  unfold Gives
  have d1 : decide ((l.length : Int) < 3) = false := decide_eq_false (by omega)
  have d2 : decide ((10 : Int) < l.length) = false := decide_eq_false (by omega)
  have hB0 : Below w.heap.size w ((w.alloc (.cells #[.slice sa l.length cap] 22)).alloc (.cells #[.int .i64 0] 25)) := by (repeat' (first | exact Below.refl _ _ | assumption | refine below_new ?_ _ | refine below_draw ?_ | refine below_tail (by assumption) ?_ | refine below_set ?_ (by first | omega | (simp <;> omega)) _))
  have HCF := Lib.hid (containsFunc_pts _ l 63 #[] (fun x => !(inR x)) _ (HP.out.below hB0) vrange_enters (fun x w' _ => rangeC_calls x w'))
  rw [any_inR, hr] at HCF
  clear hB0
  have HDU : Hid (dupB l = anyN (fun i => anyN (fun j => cor l i == cor l j) i) l.length) := rfl
  refine (callsIn_wide (n := 9)).1 ?_
  refine callsIn_of_wp_marks Try.func27 rfl trivial ?_ rfl
  simp only [Try.ntmps27, List.size_toArray, List.length_cons, List.length_nil, Nat.reduceAdd, Nat.reduceSub, Array.replicate_succ, Array.replicate_zero, List.push_toArray, List.append_toArray, List.nil_append, List.cons_append]
  gi_wp2_with (gi_at_call 62; refine (callsIn_wide.2 (HCF.out.use ?_)); intro w1 hb1 hz1 hc1 hf1; (try simp at hz1); have hx0 := hc1 w.heap.size 0 (by simp <;> omega); have hx1 := hc1 (w.heap.size + 1) 0 (by simp <;> omega); have hx2 := hf1 (w.heap.size + 1) 0 (by simp <;> omega); clear hc1 hf1)
  have hx0' : w1.cell? ⟨w.heap.size, 0, none⟩ = some (.slice sa l.length cap) := by rw [hx0]; simp [go_sem]
  have hx1' : w1.cell? ⟨w.heap.size + 1, 0, none⟩ = some (.int .i64 0) := by rw [hx1]; simp [go_sem]
  have hx2' : w1.frozen? ⟨w.heap.size + 1, 0, none⟩ = false := by rw [hx2]; simp [go_sem]
  have hB1 : Below w.heap.size w w1 := by (repeat' (first | exact Below.refl _ _ | assumption | refine below_new ?_ _ | refine below_draw ?_ | refine below_tail (by assumption) ?_ | refine below_set ?_ (by first | omega | (simp <;> omega)) _))
  clear hx0 hx1 hx2 hb1
  gi_loopw [23] (fun i wr => ∃ k : Nat, k ≤ l.length ∧ i = .int .i64 k ∧ Hid (noDup l k) ∧ Below w.heap.size w wr ∧ w.heap.size + 2 ≤ wr.heap.size ∧ wr.cell? ⟨w.heap.size, 0, none⟩ = some (.slice sa l.length cap) ∧ wr.cell? ⟨w.heap.size + 1, 0, none⟩ = some (.int .i64 0) ∧ wr.frozen? ⟨w.heap.size + 1, 0, none⟩ = false) (fun i _ => l.length - (intOf i).toNat)
  case atStart => exact ⟨0, Nat.zero_le _, rfl, fun i hi => absurd hi (by omega), hB1, by omega, hx0', hx1', hx2'⟩
  case round =>
    clear hx0' hx1' hx2' hB1 hz1
    obtain ⟨k, hk, rfl, u0, hB, hsz, f0, f1, z1⟩ := hrel
    by_cases hlt : k < l.length
    · have HP2 := HP.out.below hB
      obtain ⟨b0, o0, rfl, hb2, c0, c1⟩ := HP2.cellAt hlt
      have HPT := Lib.hid (HP2.take hk)
      clear HP2
      have HT := Lib.hid (take_contains hlt)
      obtain ⟨pa, hpa⟩ : ∃ p, gi l (0, 0) k = p := ⟨_, rfl⟩
      rw [hpa] at c0 c1
      have HPA := Lib.hid hpa
      clear hpa
      obtain ⟨db, hdb⟩ : ∃ b, anyN (fun j => cor l k == cor l j) k = b := ⟨_, rfl⟩
      have HDB := Lib.hid hdb
      clear hdb
      have hcon : (l.take k).contains pa = db := by rw [← HPA.out, HT.out, HDB.out]
      have HCN := Lib.hid hcon
      clear hcon
      gi_wp2
      obtain ⟨wa, hwa⟩ : ∃ wa, wa = wr.alloc (.cells #[.int .i64 pa.1, .int .i64 pa.2] 32) := ⟨_, rfl⟩
      have hbw : Below wr.heap.size wr wa := by rw [hwa]; exact below_new (Below.refl _ _) _
      have g0 : wa.cell? ⟨wr.heap.size, 0, none⟩ = some (.int .i64 pa.1) := by rw [hwa]; simp [go_sem]
      have g1 : wa.cell? ⟨wr.heap.size, 1, none⟩ = some (.int .i64 pa.2) := by rw [hwa]; simp [go_sem]
      replace f0 := (hbw.cell (p := ⟨w.heap.size, 0, none⟩) (by dsimp only; omega)).trans f0
      replace f1 := (hbw.cell (p := ⟨w.heap.size + 1, 0, none⟩) (by dsimp only; omega)).trans f1
      replace z1 := (hbw.frozen (p := ⟨w.heap.size + 1, 0, none⟩) (by dsimp only; omega)).trans z1
      have HPB := Lib.hid (HPT.out.below hbw)
      replace hB := below_tail hbw hB
      have hsa : wr.heap.size ≤ wa.heap.size := hbw.size
      rw [← hwa]
      clear hwa hbw
      have q0 := fun dr os => cell_regrown f0 dr os
      have q1 := fun dr os => cell_regrown g0 dr os
      have q2 := fun dr os => cell_regrown g1 dr os
      refine wpIn_wide.2 (region_q mixed (by kernel_rfl) ?_)
      repeat (go_big_quiet_step ((go_at_call 65; exact Calls.regrown_of (contains_is (HPB.out.below (below_regrown _ _ _)) HCN.out))))
      refine wpQuiet_nil ?_
      intro wq hbq
      replace f0 := (hbq.cell (p := ⟨w.heap.size, 0, none⟩) (by dsimp only; omega)).trans f0
      replace f1 := (hbq.cell (p := ⟨w.heap.size + 1, 0, none⟩) (by dsimp only; omega)).trans f1
      replace z1 := (hbq.frozen (p := ⟨w.heap.size + 1, 0, none⟩) (by dsimp only; omega)).trans z1
      clear q0 q1 q2 g0 g1
      have hsq : w.heap.size + 2 ≤ wq.heap.size := by have := hbq.size; omega
      replace hB := below_tail hbq hB
      clear hbq
      cases db
      · gi_wp2
        go_roundw
        case rel => exact ⟨k + 1, by omega, by go_num, fun i hi => (Nat.lt_succ_iff_lt_or_eq.1 hi).elim (u0.out i) (fun e => by subst e; exact HDB.out), hB, hsq, f0, f1, z1⟩
        case measure => simp [intOf]; omega
      · have hr3 : (wq.setCell ⟨w.heap.size + 1, 0, none⟩ (.int .i64 6)).cell? ⟨w.heap.size + 1, 0, none⟩ = some (.int .i64 6) := World.cell?_setCell_same' _ _ _ (by rw [f1]; rfl)
        gi_wp2
        exact ⟨.int .i64 6, by simp [results, Try.f27, go_sem, hr3], rfl, by (repeat' (first | exact Below.refl _ _ | assumption | refine below_new ?_ _ | refine below_draw ?_ | refine below_tail (by assumption) ?_ | refine below_set ?_ (by first | omega | (simp <;> omega)) _))⟩
    · obtain rfl : k = l.length := by omega
      exfalso
      have := HDU.out
      rw [hd, anyN_false u0.out] at this
      cases this

end Go.Proofs.Ythiemglckmociaa
