/- What Latest gives, in package term and in its reference. Conditions: a calendar lies in memory as said. -/
import Derived.Test.YtnhohnnoffhkhaaTermEx4
import Derived.Test.YtnhohnnoffhkhaaTermGrows
namespace Go.Proofs.Ytnhohnnoffhkhaa
open Go.RowKit

/-- Whether a term from day d is over by e. -/
def byB (c : Cal) (e n d : Int) : Bool := decide (endsF c d n ≤ e)
def latestF (c : Cal) (e n : Int) : Option Int := lastDay (byB c e n) (e + 1).toNat e
def latestR (c : Cal) (e n : Int) : Option Int := if askedF c [e] [n] = 0 then latestF c e n else none
def latestV (c : Cal) (e n : Int) : Int := (latestR c e n).getD 0
def latestI (c : Cal) (e n : Int) : Bool := (latestR c e n).isSome
theorem lastDay_is {p : Int → Bool} {g : Int} (hg : p g = true) : ∀ (n : Nat) (e : Int), g ≤ e → e - n < g → (∀ x, g < x → x ≤ e → p x = false) → lastDay p n e = some g
  | 0, e, h1, h2, _ => by omega
  | n + 1, e, h1, h2, h => by
    unfold lastDay
    by_cases he : g = e
    · rw [← he, if_pos hg]
    · rw [if_neg (by rw [h e (by omega) (Int.le_refl _)]; decide)]
      exact lastDay_is hg n (e - 1) (by omega) (by omega) (fun x h3 h4 => h x h3 (by omega))
theorem lastDay_none {p : Int → Bool} : ∀ (n : Nat) (e : Int), (∀ x, e - n < x → x ≤ e → p x = false) → lastDay p n e = none
  | 0, _, _ => rfl
  | n + 1, e, h => by
    unfold lastDay
    rw [if_neg (by rw [h e (by omega) (Int.le_refl _)]; decide)]
    exact lastDay_none n (e - 1) (fun x h3 h4 => h x (by omega) (by omega))
/-- A term from d is over by e if the last working day m up to e has seen so many days. -/
theorem byB_last {c : Cal} (h : validF c = 0) {d e n m : Int} (h0 : 0 ≤ d) (h1 : 0 ≤ n) (h2 : n ≤ 400) (hm : m ≤ e) (hw : ∀ x, m < x → x ≤ e → freeB c x = true) :
    byB c e n d = true → d ≤ m ∧ n ≤ cnt (fun y => !(stillB c y)) (d + 1) (m - d).toNat := by
  intro hb
  have hb := of_decide_eq_true hb
  obtain ⟨g1, g2, g3⟩ := endsF_first h (day := d) (days := n) h0 h1 (by omega)
  unfold endB at g2
  rw [Bool.and_eq_true] at g2
  have g4 := of_decide_eq_true g2.1
  have g5 : endsF c d n ≤ m := by
    rcases Int.lt_or_le m (endsF c d n) with u | u
    · have := hw _ u hb; rw [this] at g2; simp at g2
    · exact u
  refine ⟨by omega, Int.le_trans g4 (cnt_mono _ _ (by omega))⟩
theorem byB_of {c : Cal} (h : validF c = 0) {d e n m : Int} (h0 : 0 ≤ d) (h1 : 0 ≤ n) (h2 : n ≤ 400) (hm : m ≤ e) (hd : d ≤ m) (hf : freeB c m = false) (hc : n ≤ cnt (fun y => !(stillB c y)) (d + 1) (m - d).toNat) : byB c e n d = true := by
  obtain ⟨g1, g2, g3⟩ := endsF_first h (day := d) (days := n) h0 h1 (by omega)
  unfold byB
  refine decide_eq_true ?_
  rcases Int.lt_or_le m (endsF c d n) with u | u
  · have := g3 m hd u
    unfold endB at this
    rw [hf, decide_eq_true hc] at this
    cases this
  · omega
theorem ends_ge {c : Cal} (h : validF c = 0) {d n : Int} (h0 : 0 ≤ d) (h1 : 0 ≤ n) (h2 : n ≤ 4000) : d ≤ endsF c d n := (endsF_first h h0 h1 h2).1
/-- Found by halving. -/
theorem latest_good {c : Cal} (h : validF c = 0) {e n g : Int} (h1 : 0 ≤ n) (h2 : n ≤ 400) (g0 : 0 ≤ g) (ge : g ≤ e) (hg : endsF c g n ≤ e) (hb : e < endsF c (g + 1) n) : latestF c e n = some g :=
  lastDay_is (decide_eq_true hg) _ _ ge (by omega) (fun x h3 h4 => decide_eq_false (by have := ends_mono h (xa := g + 1) (xb := n) (ya := x) (yb := n) (by omega) (by omega) h1 (Int.le_refl _) (by omega); omega))
theorem latest_no {c : Cal} (h : validF c = 0) {e n : Int} (h1 : 0 ≤ n) (h2 : n ≤ 400) (h3 : 0 ≤ e) (hb : e < endsF c 0 n) : latestF c e n = none :=
  lastDay_none _ _ (fun x h4 h5 => decide_eq_false (by have := ends_mono h (xa := 0) (xb := n) (ya := x) (yb := n) (by omega) (by omega) h1 (Int.le_refl _) (by omega); omega))
/-- The counting days behind d, up to m. -/
def backN (c : Cal) (m d : Int) : Int := cnt (fun y => !(stillB c y)) (d + 1) (m - d).toNat
theorem backN_self (c : Cal) (m : Int) : backN c m m = 0 := by unfold backN; rw [show (m - m).toNat = 0 by omega]; rfl
theorem backN_pred (c : Cal) {m d : Int} (h : d ≤ m) : backN c m (d - 1) = backN c m d + if stillB c d then 0 else 1 := by
  unfold backN
  rw [show (m - (d - 1)).toNat = 1 + (m - d).toNat by omega, cnt_add, show d - 1 + 1 + ((1 : Nat) : Int) = d + 1 by omega, show d - 1 + 1 = d by omega]
  have : cnt (fun y => !(stillB c y)) d 1 = if stillB c d then 0 else 1 := by
    simp only [cnt]
    rw [show d + ((0 : Nat) : Int) = d by omega]
    by_cases hs : stillB c d = true <;> simp [hs]
  rw [this]; omega
theorem backN_le (c : Cal) {m d : Int} (h : d ≤ m) : 0 ≤ backN c m d ∧ backN c m d ≤ m - d := by
  have h1 := cnt_nonneg (fun y => !(stillB c y)) (d + 1) (m - d).toNat
  have h2 := cnt_le (fun y => !(stillB c y)) (d + 1) (m - d).toNat
  unfold backN; omega

set_option maxHeartbeats 2000000 in
set_option maxRecDepth 100000 in
theorem Latest_calls (v : Value) (c : Cal) (e n : Int) (w : World) (h : CalAt w v c) :
    Gives Try.prog 25 #[v, .int .i64 e, .int .i64 n] w (.tuple #[.int .i64 (latestV c e n), .bool (latestI c e n), .int .i64 (askedF c [e] [n])]) := by
  obtain ⟨fa, fc, sa, sc, rfl, hf, hs, hfc, hsc, hfl, hsl⟩ := h.cells
  have HCal := Lib.hid h
  clear h hf hs
  unfold Gives
  have HV0 : Hid (latestV c e n = (latestR c e n).getD 0) := rfl
  have HI0 : Hid (latestI c e n = (latestR c e n).isSome) := rfl
  have HR0 : Hid (latestR c e n = if askedF c [e] [n] = 0 then latestF c e n else none) := rfl
  by_cases hz : askedF c [e] [n] = 0
  · have Hz := Lib.hid hz
    have hz1 : (askedF c [e] [n] == 0) = true := by simpa using hz
    have hz2 : (askedF c [e] [n] != 0) = false := by simpa using hz
    obtain ⟨hv, hd1, hd2, hn1, hn2⟩ := asked_term hz
    obtain ⟨hv1, hv2⟩ := valid_first hv
    have HV := Lib.hid hv
    clear hv hz
    by_cases hno : e < endsF c 0 n
    · have hg : decide (e < endsF c 0 n) = true := by simpa using hno
      have HQ : Hid (latestR c e n = none) := by unfold Hid; rw [HR0.out, if_pos Hz.out, latest_no HV.out hn1 hn2 hd1 hno]
      clear hno
      go_enter Try.func25, Try.ntmps25
      go_wp2_with (first | (go_at_call 55; (with_reducible refine (termed_calls _ _ c e [n] _ (HCal.out.below (by (repeat' (first | exact Below.refl _ _ | assumption | refine below_new ?_ _ | refine below_draw ?_ | refine below_tail (by assumption) ?_ | refine below_set ?_ (by first | omega | (simp <;> omega)) _)))) (ints1 (by simp))).use ?_); intro w1 hb1 hz1 hc1 hf1; (try simp at hz1); have hy1 : w.heap.size < w1.heap.size := (by omega); have hx10 := fun o => hc1 (w.heap.size) o (by first | omega | (simp <;> omega)); clear hc1 hf1) | (go_at_call 56; (with_reducible refine (ends_calls _ c (0) n _ (HCal.out.below (by (repeat' (first | exact Below.refl _ _ | assumption | refine below_new ?_ _ | refine below_draw ?_ | refine below_tail (by assumption) ?_ | refine below_set ?_ (by first | omega | (simp <;> omega)) _)))) HV.out hv1 hv2 (by omega) (by omega) hn1 (by omega)).use ?_); intro w2 hb2 hz2 hc2 hf2; (try simp at hz2); have hy2 : w.heap.size < w2.heap.size := (by omega); have hx20 := fun o => hc2 w.heap.size o (by first | omega | (simp <;> omega))))
      go_ret3
      exact ⟨by rw [HV0.out, HI0.out, HQ.out, Hz.out]; rfl, by (repeat' (first | exact Below.refl _ _ | assumption | refine below_new ?_ _ | refine below_draw ?_ | refine below_tail (by assumption) ?_ | refine below_set ?_ (by first | omega | (simp <;> omega)) _))⟩
    · have hg : decide (e < endsF c 0 n) = false := by simpa using hno
      have HG := Lib.hid hno
      clear hno
      go_enter Try.func25, Try.ntmps25
      go_wp2_with (first | (go_at_call 55; (with_reducible refine (termed_calls _ _ c e [n] _ (HCal.out.below (by (repeat' (first | exact Below.refl _ _ | assumption | refine below_new ?_ _ | refine below_draw ?_ | refine below_tail (by assumption) ?_ | refine below_set ?_ (by first | omega | (simp <;> omega)) _)))) (ints1 (by simp))).use ?_); intro w1 hb1 hz1 hc1 hf1; (try simp at hz1); have hy1 : w.heap.size < w1.heap.size := (by omega); have hx10 := fun o => hc1 (w.heap.size) o (by first | omega | (simp <;> omega)); clear hc1 hf1) | (go_at_call 56; (with_reducible refine (ends_calls _ c (0) n _ (HCal.out.below (by (repeat' (first | exact Below.refl _ _ | assumption | refine below_new ?_ _ | refine below_draw ?_ | refine below_tail (by assumption) ?_ | refine below_set ?_ (by first | omega | (simp <;> omega)) _)))) HV.out hv1 hv2 (by omega) (by omega) hn1 (by omega)).use ?_); intro w2 hb2 hz2 hc2 hf2; (try simp at hz2); have hy2 : w.heap.size < w2.heap.size := (by omega); have hx20 := fun o => hc2 w.heap.size o (by first | omega | (simp <;> omega))))
      have hw0 : Below w.heap.size w w2 := by (repeat' (first | exact Below.refl _ _ | assumption | refine below_new ?_ _ | refine below_draw ?_ | refine below_tail (by assumption) ?_ | refine below_set ?_ (by first | omega | (simp <;> omega)) _))
      have e0 : w2.cell? ⟨w.heap.size, 0, none⟩ = some (.int .i64 c.first) := by simp [hx20, hx10, go_sem]
      have e1 : w2.cell? ⟨w.heap.size, 1, none⟩ = some (.slice fa c.free.length fc) := by simp [hx20, hx10, go_sem]
      have e2 : w2.cell? ⟨w.heap.size, 2, none⟩ = some (.slice sa c.still.length sc) := by simp [hx20, hx10, go_sem]
      go_loopw [10, 11, 12] (fun gg bb _ wr => ∃ g b : Int, gg = .int .i64 g ∧ bb = .int .i64 b ∧ 0 ≤ g ∧ g < b ∧ b ≤ e + 1 ∧ Hid (endsF c g n ≤ e ∧ e < endsF c b n) ∧ Below w2.heap.size w2 wr) (fun gg bb _ _ => (intOf bb - intOf gg).toNat)
      case atStart => exact ⟨0, e + 1, rfl, rfl, by omega, by omega, by omega, ⟨by have := HG.out; omega, by have := ends_ge HV.out (d := e + 1) (n := n) (by omega) hn1 (by omega); omega⟩, Below.refl _ _⟩
      case round =>
        obtain ⟨g, b, rfl, rfl, hg0, hgb, hbe, HI, hb⟩ := hrel
        have hb0 : Below w.heap.size w wr := below_tail hb hw0
        have f0 := (hb.cell (p := ⟨w.heap.size, 0, none⟩) hy2).trans e0
        have f1 := (hb.cell (p := ⟨w.heap.size, 1, none⟩) hy2).trans e1
        have f2 := (hb.cell (p := ⟨w.heap.size, 2, none⟩) hy2).trans e2
        have hy4 : w.heap.size < wr.heap.size := Nat.lt_of_lt_of_le hy2 hb.size
        by_cases hlt : 1 < b - g
        · have hg1 : decide (1 < b - g) = true := by simpa using hlt
          have hm0 : (g + b).tdiv 2 = (g + b) / 2 := Int.tdiv_eq_ediv_of_nonneg (by omega)
          obtain ⟨m, hm⟩ : ∃ m, (g + b).tdiv 2 = m := ⟨_, rfl⟩
          have hm1 : g < m := by omega
          have hm2 : m < b := by omega
          clear hm0
          by_cases hle : endsF c m n ≤ e
          · have hg2 : decide (endsF c m n ≤ e) = true := by simpa using hle
            go_wp2_with (first | (go_at_call 56; (with_reducible refine (ends_calls _ c (m) n _ (HCal.out.below (by (repeat' (first | exact Below.refl _ _ | assumption | refine below_new ?_ _ | refine below_draw ?_ | refine below_tail (by assumption) ?_ | refine below_set ?_ (by first | omega | (simp <;> omega)) _)))) HV.out hv1 hv2 (by omega) (by omega) hn1 (by omega)).use ?_); intro w3 hb3 hz3 hc3 hf3; (try simp at hz3); have hy3 : w.heap.size < w3.heap.size := (by omega); have hx30 := fun o => hc3 w.heap.size o (by first | omega | (simp <;> omega))))
            go_roundw
            case rel => exact ⟨m, b, rfl, rfl, by omega, by omega, by omega, ⟨hle, HI.out.2⟩, by (repeat' (first | exact Below.refl _ _ | assumption | refine below_new ?_ _ | refine below_draw ?_ | refine below_tail (by assumption) ?_ | refine below_set ?_ (by first | omega | (simp <;> omega)) _))⟩
            case measure => simp [intOf]; omega
          · have hg2 : decide (endsF c m n ≤ e) = false := by simpa using hle
            go_wp2_with (first | (go_at_call 56; (with_reducible refine (ends_calls _ c (m) n _ (HCal.out.below (by (repeat' (first | exact Below.refl _ _ | assumption | refine below_new ?_ _ | refine below_draw ?_ | refine below_tail (by assumption) ?_ | refine below_set ?_ (by first | omega | (simp <;> omega)) _)))) HV.out hv1 hv2 (by omega) (by omega) hn1 (by omega)).use ?_); intro w3 hb3 hz3 hc3 hf3; (try simp at hz3); have hy3 : w.heap.size < w3.heap.size := (by omega); have hx30 := fun o => hc3 w.heap.size o (by first | omega | (simp <;> omega))))
            go_roundw
            case rel => exact ⟨g, m, rfl, rfl, by omega, by omega, by omega, ⟨HI.out.1, by omega⟩, by (repeat' (first | exact Below.refl _ _ | assumption | refine below_new ?_ _ | refine below_draw ?_ | refine below_tail (by assumption) ?_ | refine below_set ?_ (by first | omega | (simp <;> omega)) _))⟩
            case measure => simp [intOf]; omega
        · have hg1 : decide (1 < b - g) = false := by simpa using hlt
          have hbg : b = g + 1 := by omega
          have HQ : Hid (latestR c e n = some g) := by unfold Hid; rw [HR0.out, if_pos Hz.out, latest_good HV.out hn1 hn2 hg0 (by omega) HI.out.1 (by rw [← hbg]; exact HI.out.2)]
          go_wp2
          go_ret3
          exact ⟨by rw [HV0.out, HI0.out, HQ.out, Hz.out]; rfl, by (repeat' (first | exact Below.refl _ _ | assumption | refine below_new ?_ _ | refine below_draw ?_ | refine below_tail (by assumption) ?_ | refine below_set ?_ (by first | omega | (simp <;> omega)) _))⟩
  · have Hz := Lib.hid hz
    have hz1 : (askedF c [e] [n] == 0) = false := by simpa using hz
    have hz2 : (askedF c [e] [n] != 0) = true := by simpa using hz
    clear hz
    go_enter Try.func25, Try.ntmps25
    go_wp2_with (first | (go_at_call 55; (with_reducible refine (termed_calls _ _ c e [n] _ (HCal.out.below (by (repeat' (first | exact Below.refl _ _ | assumption | refine below_new ?_ _ | refine below_draw ?_ | refine below_tail (by assumption) ?_ | refine below_set ?_ (by first | omega | (simp <;> omega)) _)))) (ints1 (by simp))).use ?_); intro w1 hb1 hz1 hc1 hf1; (try simp at hz1); have hy1 : w.heap.size < w1.heap.size := (by omega); have hx10 := fun o => hc1 (w.heap.size) o (by first | omega | (simp <;> omega)); clear hc1 hf1))
    go_ret3
    exact ⟨by rw [HV0.out, HI0.out, HR0.out, if_neg Hz.out]; rfl, by (repeat' (first | exact Below.refl _ _ | assumption | refine below_new ?_ _ | refine below_draw ?_ | refine below_tail (by assumption) ?_ | refine below_set ?_ (by first | omega | (simp <;> omega)) _))⟩

set_option maxHeartbeats 2000000 in
set_option maxRecDepth 100000 in
theorem rLatest_calls (v : Value) (c : Cal) (e n : Int) (w : World) (h : CalAt w v c) :
    Gives Try.prog 26 #[v, .int .i64 e, .int .i64 n] w (.tuple #[.int .i64 (latestV c e n), .bool (latestI c e n), .int .i64 (askedF c [e] [n])]) := by
  obtain ⟨fa, fc, sa, sc, rfl, hf, hs, hfc, hsc, hfl, hsl⟩ := h.cells
  have HCal := Lib.hid h
  clear h hf hs
  unfold Gives
  have HV0 : Hid (latestV c e n = (latestR c e n).getD 0) := rfl
  have HI0 : Hid (latestI c e n = (latestR c e n).isSome) := rfl
  have HR0 : Hid (latestR c e n = if askedF c [e] [n] = 0 then latestF c e n else none) := rfl
  by_cases hz : askedF c [e] [n] = 0
  · have Hz := Lib.hid hz
    have hz1 : (askedF c [e] [n] == 0) = true := by simpa using hz
    have hz2 : (askedF c [e] [n] != 0) = false := by simpa using hz
    obtain ⟨hv, hd1, hd2, hn1, hn2⟩ := asked_term hz
    obtain ⟨hv1, hv2⟩ := valid_first hv
    have HV := Lib.hid hv
    clear hv hz
    go_enter Try.func26, Try.ntmps26
    go_wp2_with (first | (go_at_call 62; (with_reducible refine (asked_calls _ _ _ c [e] [n] _ (HCal.out.below (by (repeat' (first | exact Below.refl _ _ | assumption | refine below_new ?_ _ | refine below_draw ?_ | refine below_tail (by assumption) ?_ | refine below_set ?_ (by first | omega | (simp <;> omega)) _)))) (ints1b (by simp)) (ints1 (by simp))).use ?_); intro w1 hb1 hz1 hc1 hf1; (try simp at hz1); have hy1 : w.heap.size < w1.heap.size := (by omega); have hx10 := fun o => hc1 (w.heap.size) o (by first | omega | (simp <;> omega)); clear hc1 hf1))
    have hw0 : Below w.heap.size w w1 := by (repeat' (first | exact Below.refl _ _ | assumption | refine below_new ?_ _ | refine below_draw ?_ | refine below_tail (by assumption) ?_ | refine below_set ?_ (by first | omega | (simp <;> omega)) _))
    have e0 : w1.cell? ⟨w.heap.size, 0, none⟩ = some (.int .i64 c.first) := by simp [hx10, go_sem]
    have e1 : w1.cell? ⟨w.heap.size, 1, none⟩ = some (.slice fa c.free.length fc) := by simp [hx10, go_sem]
    have e2 : w1.cell? ⟨w.heap.size, 2, none⟩ = some (.slice sa c.still.length sc) := by simp [hx10, go_sem]
    go_loopw [1] (fun dd wr => ∃ m : Int, -1 ≤ m ∧ m ≤ e ∧ dd = .int .i64 m ∧ Hid (∀ x, m < x → x ≤ e → freeB c x = true) ∧ Below w1.heap.size w1 wr) (fun dd _ => (intOf dd + 1).toNat)
    case atStart => exact ⟨e, by omega, Int.le_refl _, rfl, fun x h1 h2 => by omega, Below.refl _ _⟩
    case round =>
      obtain ⟨m, hm1, hm2, rfl, HW, hb⟩ := hrel
      have hb0 : Below w.heap.size w wr := below_tail hb hw0
      have f0 := (hb.cell (p := ⟨w.heap.size, 0, none⟩) hy1).trans e0
      have f1 := (hb.cell (p := ⟨w.heap.size, 1, none⟩) hy1).trans e1
      have f2 := (hb.cell (p := ⟨w.heap.size, 2, none⟩) hy1).trans e2
      have hy2 : w.heap.size < wr.heap.size := Nat.lt_of_lt_of_le hy1 hb.size
      by_cases hlt : 0 ≤ m
      · have hg : decide (0 ≤ m) = true := by simpa using hlt
        cases hx : freeB c m
        · go_wp2_with (go_at_call 63; (with_reducible refine (rfree_calls _ c (m) _ (HCal.out.below (by (repeat' (first | exact Below.refl _ _ | assumption | refine below_new ?_ _ | refine below_draw ?_ | refine below_tail (by assumption) ?_ | refine below_set ?_ (by first | omega | (simp <;> omega)) _)))) hv1 hv2 (by omega) (by omega)).use ?_); intro w3 hb3 hz3 hc3 hf3; (try simp at hz3); have hy3 : w.heap.size < w3.heap.size := (by omega); have hx3 := fun o => hc3 w.heap.size o (by first | omega | (simp <;> omega)))
          have hw3 : Below w.heap.size w w3 := by (repeat' (first | exact Below.refl _ _ | assumption | refine below_new ?_ _ | refine below_draw ?_ | refine below_tail (by assumption) ?_ | refine below_set ?_ (by first | omega | (simp <;> omega)) _))
          have g0 := (hx3 0).trans f0
          have g1 := (hx3 1).trans f1
          have g2 := (hx3 2).trans f2
          have HX := Lib.hid hx
          clear hx hb0 hb hb3 hc3 hf3 hx3 f0 f1 f2 e0 e1 e2
          go_loopw [10, 11] (fun nn dd wq => ∃ d : Int, -1 ≤ d ∧ d ≤ m ∧ nn = .int .i64 (backN c m d) ∧ dd = .int .i64 d ∧ Hid (∀ x, d < x → x ≤ e → byB c e n x = false) ∧ Below w3.heap.size w3 wq) (fun _ dd _ => (intOf dd + 1).toNat)
          case atStart => exact ⟨m, by omega, Int.le_refl _, by rw [backN_self], rfl, fun x h1 h2 => by
            cases hq : byB c e n x
            · rfl
            · have := byB_last HV.out (by omega) hn1 hn2 hm2 HW.out hq; omega, Below.refl _ _⟩
          case round =>
            obtain ⟨d, hd3, hd4, rfl, rfl, HN, hb⟩ := hrel
            have hb0 : Below w.heap.size w wr := below_tail hb hw3
            have f0 := (hb.cell (p := ⟨w.heap.size, 0, none⟩) hy3).trans g0
            have f1 := (hb.cell (p := ⟨w.heap.size, 1, none⟩) hy3).trans g1
            have f2 := (hb.cell (p := ⟨w.heap.size, 2, none⟩) hy3).trans g2
            have hy4 : w.heap.size < wr.heap.size := Nat.lt_of_lt_of_le hy3 hb.size
            have hbk := backN_le c hd4
            have HP := Lib.hid (backN_pred c hd4)
            obtain ⟨q, hq⟩ : ∃ q, backN c m d = q := ⟨_, rfl⟩
            rw [hq] at hbk ⊢
            have HB := Lib.hid hq
            clear hq
            by_cases hl2 : 0 ≤ d
            · have hg3 : decide (0 ≤ d) = true := by simpa using hl2
              by_cases hl3 : n ≤ q
              · have hg4 : decide (n ≤ q) = true := by simpa using hl3
                have HQ : Hid (latestR c e n = some d) := by
                  unfold Hid; rw [HR0.out, if_pos Hz.out]
                  exact lastDay_is (byB_of HV.out hl2 hn1 hn2 hm2 hd4 HX.out (by have := HB.out; unfold backN at this; rw [this]; exact hl3)) _ _ (by omega) (by omega) HN.out
                go_wp2
                go_ret3
                exact ⟨by rw [HV0.out, HI0.out, HQ.out, Hz.out]; rfl, by (repeat' (first | exact Below.refl _ _ | assumption | refine below_new ?_ _ | refine below_draw ?_ | refine below_tail (by assumption) ?_ | refine below_set ?_ (by first | omega | (simp <;> omega)) _))⟩
              · have hg4 : decide (n ≤ q) = false := by simpa using hl3
                have hnn : Hid (∀ x, d - 1 < x → x ≤ e → byB c e n x = false) := fun x h1 h2 => by
                  by_cases hxd : d < x
                  · exact HN.out x hxd h2
                  · rw [show x = d by omega]
                    cases hq : byB c e n d
                    · rfl
                    · have h3 := byB_last HV.out hl2 hn1 hn2 hm2 HW.out hq
                      have h4 := HB.out
                      unfold backN at h4
                      omega
                cases hs : stillB c d
                · go_wp2_with (go_at_call 64; (with_reducible refine (rstill_calls _ c (d) _ (HCal.out.below (by (repeat' (first | exact Below.refl _ _ | assumption | refine below_new ?_ _ | refine below_draw ?_ | refine below_tail (by assumption) ?_ | refine below_set ?_ (by first | omega | (simp <;> omega)) _))))).use ?_); intro w5 hb5 hz5 hc5 hf5; (try simp at hz5); have hy5 : w.heap.size < w5.heap.size := (by omega); have hx5 := fun o => hc5 w.heap.size o (by first | omega | (simp <;> omega)))
                  go_roundw
                  case rel => exact ⟨d - 1, by omega, by omega, by rw [HP.out, HB.out, hs]; rfl, by go_num, hnn, by (repeat' (first | exact Below.refl _ _ | assumption | refine below_new ?_ _ | refine below_draw ?_ | refine below_tail (by assumption) ?_ | refine below_set ?_ (by first | omega | (simp <;> omega)) _))⟩
                  case measure => simp [intOf]; omega
                · go_wp2_with (go_at_call 64; (with_reducible refine (rstill_calls _ c (d) _ (HCal.out.below (by (repeat' (first | exact Below.refl _ _ | assumption | refine below_new ?_ _ | refine below_draw ?_ | refine below_tail (by assumption) ?_ | refine below_set ?_ (by first | omega | (simp <;> omega)) _))))).use ?_); intro w5 hb5 hz5 hc5 hf5; (try simp at hz5); have hy5 : w.heap.size < w5.heap.size := (by omega); have hx5 := fun o => hc5 w.heap.size o (by first | omega | (simp <;> omega)))
                  go_roundw
                  case rel => exact ⟨d - 1, by omega, by omega, by rw [HP.out, HB.out, hs]; simp, by go_num, hnn, by (repeat' (first | exact Below.refl _ _ | assumption | refine below_new ?_ _ | refine below_draw ?_ | refine below_tail (by assumption) ?_ | refine below_set ?_ (by first | omega | (simp <;> omega)) _))⟩
                  case measure => simp [intOf]; omega
            · have hg3 : decide (0 ≤ d) = false := by simpa using hl2
              have HQ : Hid (latestR c e n = none) := by
                unfold Hid; rw [HR0.out, if_pos Hz.out]
                exact lastDay_none _ _ (fun x h1 h2 => HN.out x (by omega) h2)
              go_wp2
              go_ret3
              exact ⟨by rw [HV0.out, HI0.out, HQ.out, Hz.out]; rfl, by (repeat' (first | exact Below.refl _ _ | assumption | refine below_new ?_ _ | refine below_draw ?_ | refine below_tail (by assumption) ?_ | refine below_set ?_ (by first | omega | (simp <;> omega)) _))⟩
        · go_wp2_with (go_at_call 63; (with_reducible refine (rfree_calls _ c (m) _ (HCal.out.below (by (repeat' (first | exact Below.refl _ _ | assumption | refine below_new ?_ _ | refine below_draw ?_ | refine below_tail (by assumption) ?_ | refine below_set ?_ (by first | omega | (simp <;> omega)) _)))) hv1 hv2 (by omega) (by omega)).use ?_); intro w3 hb3 hz3 hc3 hf3; (try simp at hz3); have hy3 : w.heap.size < w3.heap.size := (by omega); have hx3 := fun o => hc3 w.heap.size o (by first | omega | (simp <;> omega)))
          go_roundw
          case rel => exact ⟨m - 1, by omega, by omega, by go_num, fun x h1 h2 => by
              by_cases hxm : m < x
              · exact HW.out x hxm h2
              · rw [show x = m by omega]; exact hx, by (repeat' (first | exact Below.refl _ _ | assumption | refine below_new ?_ _ | refine below_draw ?_ | refine below_tail (by assumption) ?_ | refine below_set ?_ (by first | omega | (simp <;> omega)) _))⟩
          case measure => simp [intOf]; omega
      · have hg : decide (0 ≤ m) = false := by simpa using hlt
        have HQ : Hid (latestR c e n = none) := by
          unfold Hid; rw [HR0.out, if_pos Hz.out]
          exact lastDay_none _ _ (fun x h1 h2 => by
            cases hq : byB c e n x
            · rfl
            · have := byB_last HV.out (by omega) hn1 hn2 hm2 HW.out hq; omega)
        go_wp2
        go_loopw [10, 11] (fun nn dd wq => nn = .int .i64 0 ∧ dd = .int .i64 m ∧ wq = wr) (fun _ _ _ => 0)
        case atStart => exact ⟨rfl, rfl, rfl⟩
        case round =>
          obtain ⟨rfl, rfl, rfl⟩ := hrel
          go_wp2
          go_ret3
          exact ⟨by rw [HV0.out, HI0.out, HQ.out, Hz.out]; rfl, by (repeat' (first | exact Below.refl _ _ | assumption | refine below_new ?_ _ | refine below_draw ?_ | refine below_tail (by assumption) ?_ | refine below_set ?_ (by first | omega | (simp <;> omega)) _))⟩
  · have Hz := Lib.hid hz
    have hz1 : (askedF c [e] [n] == 0) = false := by simpa using hz
    have hz2 : (askedF c [e] [n] != 0) = true := by simpa using hz
    clear hz
    go_enter Try.func26, Try.ntmps26
    go_wp2_with (first | (go_at_call 62; (with_reducible refine (asked_calls _ _ _ c [e] [n] _ (HCal.out.below (by (repeat' (first | exact Below.refl _ _ | assumption | refine below_new ?_ _ | refine below_draw ?_ | refine below_tail (by assumption) ?_ | refine below_set ?_ (by first | omega | (simp <;> omega)) _)))) (ints1b (by simp)) (ints1 (by simp))).use ?_); intro w1 hb1 hz1 hc1 hf1; (try simp at hz1); have hy1 : w.heap.size < w1.heap.size := (by omega); have hx10 := fun o => hc1 (w.heap.size) o (by first | omega | (simp <;> omega)); clear hc1 hf1))
    go_ret3
    exact ⟨by rw [HV0.out, HI0.out, HR0.out, if_neg Hz.out]; rfl, by (repeat' (first | exact Below.refl _ _ | assumption | refine below_new ?_ _ | refine below_draw ?_ | refine below_tail (by assumption) ?_ | refine below_set ?_ (by first | omega | (simp <;> omega)) _))⟩

end Go.Proofs.Ytnhohnnoffhkhaa
