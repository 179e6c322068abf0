/- The law OfficeSums, walked. Conditions: the library's variables read as they were laid. -/
import Derived.Test.YthooacpfmjpdmaaGreatDoorOKnown
namespace Go.Proofs.YthooacpfmjpdmaaGreatDoor
open Go.RowKit
set_option maxRecDepth 100000 in
set_option maxHeartbeats 2000000 in
theorem officeSums_calls (b : Int) (s t : ByteArray) (w : World) (hs : s.size ≤ 140737488351232) (ht : t.size ≤ 140737488351232) (hb : Base w) :
    Gives Tryz.prog 4 #[.int .i64 b, .string s, .string t] w (.bool true) := by
  have HB := Lib.hid hb
  clear hb
  unfold Gives
  have hw : IntKind.i64.wrap ((s.size : Int) + (t.size : Int)) = (s.size : Int) + (t.size : Int) := IntWalk.i64_in _ (by omega)
  have KN : Hid (∀ y, Below w.heap.size w y → Gives Tryz.prog 26 #[] y (.bool true)) := fun y hy => known_calls y (HB.out.below hy)
  by_cases hbig : 100000 < s.size + t.size
  · have k1 : decide ((100000 : Int) < (s.size : Int) + (t.size : Int)) = true := decide_eq_true (by omega)
    have k1' : (100000 : Int) < (s.size : Int) + (t.size : Int) := by omega
    clear hbig
    go_enter Tryz.func4, Tryz.ntmps4
    go_wp2_with (go_at_call 26; refine (KN.out _ (by (repeat' (first | exact Below.refl _ _ | assumption | refine below_new ?_ _ | refine below_draw ?_ | refine below_tail (by assumption) ?_ | refine below_set ?_ (by first | omega | (simp <;> omega)) _)))).use ?_; intro w1 hb1 hz1 hc1 hf1; clear hc1 hf1)
    go_ret
    exact ⟨rfl, by (repeat' (first | exact Below.refl _ _ | assumption | refine below_new ?_ _ | refine below_draw ?_ | refine below_tail (by assumption) ?_ | refine below_set ?_ (by first | omega | (simp <;> omega)) _))⟩
  · have k1 : decide ((100000 : Int) < (s.size : Int) + (t.size : Int)) = false := decide_eq_false (by omega)
    have k1' : ¬ (100000 : Int) < (s.size : Int) + (t.size : Int) := by omega
    have c1 : ¬ 9223372036854775807 < s.size + t.size := by omega
    obtain ⟨n, hn⟩ : ∃ n, sumF b s.data.toList = n := ⟨_, rfl⟩
    obtain ⟨m, hm⟩ : ∃ m, sumF b (s ++ t).data.toList = m := ⟨_, rfl⟩
    have hm2 : sumF (n : Nat) t.data.toList = m := by
      rw [← hm, ← hn, ByteArray.data_append, Array.toList_append, sumF_append]
    have hst : (s ++ t).size ≤ 1000000 := by simp; omega
    have S1 : Hid (∀ y, Gives Tryz.prog 27 #[.int .i64 b, .string s] y (.int .i64 n)) := fun y => Sum_is (by omega) hn
    have S2 : Hid (∀ y, Gives Tryz.prog 27 #[.int .i64 b, .string (s ++ t)] y (.int .i64 m)) := fun y => Sum_is hst hm
    have S3 : Hid (∀ y, Gives Tryz.prog 27 #[.int .i64 n, .string t] y (.int .i64 m)) := fun y => Sum_is (by omega) hm2
    have R1 : Hid (∀ y, Gives Tryz.prog 28 #[.int .i64 b, .string s] y (.int .i64 n)) := fun y => rSum_is (by omega) hn
    have R2 : Hid (∀ y, Gives Tryz.prog 28 #[.int .i64 b, .string (s ++ t)] y (.int .i64 m)) := fun y => rSum_is hst hm
    clear hbig hn hm hm2 hst
    go_enter Tryz.func4, Tryz.ntmps4
    go_wp2_with (first
      | (go_at_call 27; (with_reducible refine (S1.out _).use ?_); intro w1 hb1 hz1 hc1 hf1; clear hc1 hf1)
      | (go_at_call 27; (with_reducible refine (S2.out _).use ?_); intro w2 hb2 hz2 hc2 hf2; clear hc2 hf2)
      | (go_at_call 27; (with_reducible refine (S3.out _).use ?_); intro w3 hb3 hz3 hc3 hf3; clear hc3 hf3)
      | (go_at_call 28; (with_reducible refine (R1.out _).use ?_); intro w4 hb4 hz4 hc4 hf4; clear hc4 hf4)
      | (go_at_call 28; (with_reducible refine (R2.out _).use ?_); intro w5 hb5 hz5 hc5 hf5; clear hc5 hf5)
      | (go_at_call 26; refine (KN.out _ (by (repeat' (first | exact Below.refl _ _ | assumption | refine below_new ?_ _ | refine below_draw ?_ | refine below_tail (by assumption) ?_ | refine below_set ?_ (by first | omega | (simp <;> omega)) _)))).use ?_; intro w6 hb6 hz6 hc6 hf6; clear hc6 hf6))
    go_ret
    exact ⟨rfl, by (repeat' (first | exact Below.refl _ _ | assumption | refine below_new ?_ _ | refine below_draw ?_ | refine below_tail (by assumption) ?_ | refine below_set ?_ (by first | omega | (simp <;> omega)) _))⟩
end Go.Proofs.YthooacpfmjpdmaaGreatDoor
