/- The document's small functions of minutes: equal texts, plain texts, digits. Conditions: as said. -/
import Derived.Test.YthooacpfmjpdmaaGreatDoorOKnown
namespace Go.Proofs.YthooacpfmjpdmaaGreatDoor
open Go.RowKit
set_option maxHeartbeats 400000 in
theorem sameT_same {a b : Value} {l : List ByteArray} {w : World} (ha : TextsAt w a l) (hb : TextsAt w b l) :
    Gives Tryz.prog 39 #[a, b] w (.bool true) := by
  have HA := Lib.hid ha
  have HB := Lib.hid hb
  obtain ⟨aa, ac, rfl, hal, ham, _⟩ := ha
  obtain ⟨ba, bc, rfl, hbl, hbm, _⟩ := hb
  unfold Gives
  go_enter Tryz.func39, Tryz.ntmps39
  go_wp2
  go_loopw [5] (fun i wr => ∃ k : Nat, k ≤ l.length ∧ i = .int .i64 k ∧ Below w.heap.size w wr) (fun i _ => l.length - (intOf i).toNat)
  case atStart => exact ⟨0, Nat.zero_le _, rfl, Below.refl _ _⟩
  case round =>
    obtain ⟨k, hk, rfl, hb⟩ := hrel
    by_cases hlt : k < l.length
    · obtain ⟨ab, ao, rfl, hA, hcella⟩ := (HA.out.below hb).cellAt hlt
      obtain ⟨bb, bo, rfl, hB, hcellb⟩ := (HB.out.below hb).cellAt hlt
      have q0 := fun d os => cell_regrown hcella d os
      have q1 := fun d os => cell_regrown hcellb d os
      obtain ⟨q, hq⟩ : ∃ q, gi l default k = q := ⟨_, rfl⟩
      rw [hq] at q0 q1
      clear hq hcella hcellb
      have hw6 : IntKind.i64.wrap ((k : Int) + 1) = (k : Int) + 1 := IntWalk.i64_in _ (by omega)
      go_wp2
      refine region_q mixed (by kernel_rfl) ?_
      repeat (go_big_quiet_step (fail))
      refine wpQuiet_nil ?_
      intro wq hbq
      clear q0 q1
      go_wp2
      go_roundw
      case rel => exact ⟨k + 1, by omega, by go_num, by (repeat' (first | exact Below.refl _ _ | assumption | refine below_new ?_ _ | refine below_draw ?_ | refine below_tail (by assumption) ?_ | refine below_set ?_ (by first | omega | (simp <;> omega)) _))⟩
      case measure => simp [intOf]; omega
    · obtain rfl : k = l.length := by omega
      go_wp2
      go_ret
      exact ⟨rfl, hb⟩
theorem mem_take_succ {s : List UInt8} {c : UInt8} {k : Nat} (h : k < s.length) (h1 : c ∉ s.take k) (h2 : s[k] ≠ c) : c ∉ s.take (k + 1) := by
  rw [List.take_succ_eq_append_getElem h, List.mem_append, List.mem_singleton]
  rintro (h3 | h3)
  · exact h1 h3
  · exact h2 h3.symm
set_option maxHeartbeats 1000000 in
theorem plain_calls (s : ByteArray) (w : World) (hs : s.size ≤ 1000000) : Gives Tryz.prog 69 #[.string s] w (.bool (okB s.data.toList)) := by
  unfold Gives
  go_enter Tryz.func69, Tryz.ntmps69
  go_wp2
  go_loop [3] (fun i => ∃ k : Nat, k ≤ s.size ∧ i = .int .i64 k ∧ Hid ((10 : UInt8) ∉ s.data.toList.take k)) (fun i => s.size - (intOf i).toNat)
  case atStart => exact ⟨0, Nat.zero_le _, rfl, by show _ ∉ _; simp⟩
  case round =>
    obtain ⟨k, hk, rfl, hno⟩ := hrel
    by_cases hlt : k < s.size
    · have hlt' : k < s.data.toList.length := by rw [size_list]; exact hlt
      obtain ⟨c, hce⟩ : ∃ c, (s[k]'hlt).toNat = c := ⟨_, rfl⟩
      have hc256 : c < 256 := by rw [← hce]; exact (s[k]'hlt).toNat_lt
      have hw6 : IntKind.i64.wrap ((k : Int) + 1) = (k : Int) + 1 := IntWalk.i64_in _ (by omega)
      by_cases h10 : c = 10
      · have HR : Hid (okB s.data.toList = false) := by
          show _ = _
          cases hok : okB s.data.toList
          · rfl
          · exfalso
            apply (okB_iff.1 hok).2.2
            have : s.data.toList[k] = 10 := by rw [get_list hlt]; exact UInt8.toNat.inj (hce.trans h10)
            rw [← this]; exact List.getElem_mem _
        subst h10
        go_wp2
        go_ret
        exact ⟨ret_bool HR.out.symm, by (repeat' (first | exact Below.refl _ _ | assumption | refine below_new ?_ _ | refine below_draw ?_ | refine below_tail (by assumption) ?_ | refine below_set ?_ (by first | omega | (simp <;> omega)) _))⟩
      · have k10 : ((c : Int) == 10) = false := by simp; omega
        have HN : Hid ((10 : UInt8) ∉ s.data.toList.take (k + 1)) := mem_take_succ hlt' hno.out (fun e => h10 (by rw [← hce, ← get_list hlt, e]; rfl))
        clear h10
        go_wp2
        go_round
        case rel => exact ⟨k + 1, by omega, by go_num, HN⟩
        case measure => simp [intOf]; omega
    · obtain rfl : k = s.size := by omega
      have hno2 : (10 : UInt8) ∉ s.data.toList := by have := hno.out; rwa [List.take_of_length_le (by rw [size_list]; exact Nat.le_refl _)] at this
      obtain ⟨b1, hb1⟩ : ∃ b, decide ((1 : Int) ≤ (s.size : Int)) = b := ⟨_, rfl⟩
      obtain ⟨b2, hb2⟩ : ∃ b, decide ((s.size : Int) ≤ 30) = b := ⟨_, rfl⟩
      have HR : Hid (okB s.data.toList = (b1 && b2)) := by
        show _ = _
        unfold okB
        rw [size_list, decide_eq_false hno2, ← hb1, ← hb2]
        simp only [Bool.not_false, Bool.and_true]
        congr 1 <;> rw [decide_eq_decide] <;> omega
      clear hno hno2
      cases b1 <;> cases b2
      all_goals
        go_wp2
        go_ret
        exact ⟨ret_bool HR.out.symm, by (repeat' (first | exact Below.refl _ _ | assumption | refine below_new ?_ _ | refine below_draw ?_ | refine below_tail (by assumption) ?_ | refine below_set ?_ (by first | omega | (simp <;> omega)) _))⟩
theorem plain_is {s : ByteArray} {b : Bool} {w : World} (hs : s.size ≤ 1000000) (h : okB s.data.toList = b) : Gives Tryz.prog 69 #[.string s] w (.bool b) := h ▸ plain_calls s w hs
set_option maxHeartbeats 1000000 in
theorem digit_calls (n : Nat) (w : World) (h : n < 10) : Gives Tryz.prog 70 #[.int .i64 n] w (.string (mkB (Lib.decDigits n))) := by
  unfold Gives
  have : n = 0 ∨ n = 1 ∨ n = 2 ∨ n = 3 ∨ n = 4 ∨ n = 5 ∨ n = 6 ∨ n = 7 ∨ n = 8 ∨ n = 9 := by omega
  rcases this with rfl | rfl | rfl | rfl | rfl | rfl | rfl | rfl | rfl | rfl
  all_goals
    go_enter Tryz.func70, Tryz.ntmps70
    go_wp2
    go_ret
    exact ⟨by kernel_rfl, by (repeat' (first | exact Below.refl _ _ | assumption | refine below_new ?_ _ | refine below_draw ?_ | refine below_tail (by assumption) ?_ | refine below_set ?_ (by first | omega | (simp <;> omega)) _))⟩
theorem dec_step {n : Nat} (h : 10 ≤ n) : mkB (Lib.decDigits (n / 10)) ++ mkB (Lib.decDigits (n % 10)) = mkB (Lib.decDigits n) := by
  apply bytes_ext
  rw [ByteArray.data_append, Array.toList_append, mkB_data, mkB_data, mkB_data]
  conv => rhs; rw [Lib.decDigits]
  rw [dif_neg (by omega)]
  congr 1
  rw [Lib.decDigits, dif_pos (by omega)]
theorem dec_len {n : Nat} (h : n < 10000000) : (Lib.decDigits n).length ≤ 7 := by rw [← itoa_nat]; exact itoa_len h
set_option maxRecDepth 100000 in
set_option maxHeartbeats 1000000 in
theorem Digits_calls : ∀ (n : Nat) (w : World), n < 10000000 → Gives Tryz.prog 70 #[.int .i64 n] w (.string (mkB (Lib.decDigits n))) := by
  intro n
  induction n using Nat.strongRecOn with
  | _ n ih =>
    intro w hn
    by_cases h : n < 10
    · exact digit_calls n w h
    · have HA : Hid (∀ y, Gives Tryz.prog 70 #[.int .i64 (n / 10 : Nat)] y (.string (mkB (Lib.decDigits (n / 10))))) := fun y => ih (n / 10) (by omega) y (by omega)
      have HB : Hid (∀ y, Gives Tryz.prog 70 #[.int .i64 (n % 10 : Nat)] y (.string (mkB (Lib.decDigits (n % 10))))) := fun y => ih (n % 10) (by omega) y (by omega)
      have HR := Lib.hid (dec_step (n := n) (by omega))
      have h1 := dec_len (n := n / 10) (by omega)
      have h2 := dec_len (n := n % 10) (by omega)
      have z1 : (mkB (Lib.decDigits (n / 10))).size ≤ 7 := by rw [mkB_size]; exact h1
      have z2 : (mkB (Lib.decDigits (n % 10))).size ≤ 7 := by rw [mkB_size]; exact h2
      have e1 : (n : Int).tdiv 10 = ((n / 10 : Nat) : Int) := by rw [Int.tdiv_eq_ediv_of_nonneg (by omega)]; omega
      have e2 : (n : Int).tmod 10 = ((n % 10 : Nat) : Int) := by rw [Int.tmod_eq_emod_of_nonneg (by omega)]; omega
      obtain ⟨a, ha⟩ : ∃ a, mkB (Lib.decDigits (n / 10)) = a := ⟨_, rfl⟩
      obtain ⟨b, hb⟩ : ∃ a, mkB (Lib.decDigits (n % 10)) = a := ⟨_, rfl⟩
      obtain ⟨q, hq⟩ : ∃ q, n / 10 = q := ⟨_, rfl⟩
      obtain ⟨r, hr⟩ : ∃ r, n % 10 = r := ⟨_, rfl⟩
      rw [ha] at HA HR z1
      rw [hb] at HB HR z2
      rw [hq] at HA e1
      rw [hr] at HB e2
      have hw1 : IntKind.i64.wrap (q : Int) = (q : Int) := IntWalk.i64_in _ (by omega)
      have c1 : ¬ 9223372036854775807 < a.size + b.size := by omega
      have k1 : decide ((n : Int) < 10) = false := decide_eq_false (by omega)
      clear ih h h1 h2 ha hb hq hr
      unfold Gives
      go_enter Tryz.func70, Tryz.ntmps70
      go_wp2_with (first
        | (go_at_call 70; (with_reducible refine (HA.out _).use ?_); intro w1 hb1 hz1 hc1 hf1; clear hc1 hf1)
        | (go_at_call 70; (with_reducible refine (HB.out _).use ?_); intro w2 hb2 hz2 hc2 hf2; clear hc2 hf2))
      go_ret
      exact ⟨by rw [← HR.out]; rfl, by (repeat' (first | exact Below.refl _ _ | assumption | refine below_new ?_ _ | refine below_draw ?_ | refine below_tail (by assumption) ?_ | refine below_set ?_ (by first | omega | (simp <;> omega)) _))⟩
theorem Digits_is {n : Nat} {d : ByteArray} {w : World} (h : n < 10000000) (hd : mkB (Lib.itoa (n : Int)) = d) : Gives Tryz.prog 70 #[.int .i64 n] w (.string d) := by
  subst hd
  rw [itoa_nat]
  exact Digits_calls n w h
end Go.Proofs.YthooacpfmjpdmaaGreatDoor
