/- The law OfficeMerges, walked. Conditions: the library's variables read as they were laid. -/
import Derived.Test.YthooacpfmjpdmaaGreatDoorOMerge
namespace Go.Proofs.YthooacpfmjpdmaaGreatDoor
open Go.RowKit
set_option maxRecDepth 100000 in
set_option maxHeartbeats 2000000 in
theorem officeMerges_calls (a b : ByteArray) (w : World) (hb : Base w) : Gives Tryz.prog 8 #[.string a, .string b] w (.bool true) := by
  have HB := Lib.hid hb
  clear hb
  unfold Gives
  have KN : Hid (∀ y, Below w.heap.size w y → Gives Tryz.prog 26 #[] y (.bool true)) := fun y hy => known_calls y (HB.out.below hy)
  by_cases h1 : 6000 < a.size
  · have k1 : decide ((6000 : Int) < (a.size : Int)) = true := decide_eq_true (by omega)
    have k1' : (6000 : Int) < (a.size : Int) := by omega
    clear h1
    go_enter Tryz.func8, Tryz.ntmps8
    go_wp2_with (go_at_call 26; refine (KN.out _ (by (repeat' (first | exact Below.refl _ _ | assumption | refine below_new ?_ _ | refine below_draw ?_ | refine below_tail (by assumption) ?_ | refine below_set ?_ (by first | omega | (simp <;> omega)) _)))).use ?_; intro w1 hb1 hz1 hc1 hf1; clear hc1 hf1)
    go_ret
    exact ⟨rfl, by (repeat' (first | exact Below.refl _ _ | assumption | refine below_new ?_ _ | refine below_draw ?_ | refine below_tail (by assumption) ?_ | refine below_set ?_ (by first | omega | (simp <;> omega)) _))⟩
  · have k1 : decide ((6000 : Int) < (a.size : Int)) = false := decide_eq_false (by omega)
    have k1' : ¬ (6000 : Int) < (a.size : Int) := by omega
    by_cases h2 : 6000 < b.size
    · have k2 : decide ((6000 : Int) < (b.size : Int)) = true := decide_eq_true (by omega)
      have k2' : (6000 : Int) < (b.size : Int) := by omega
      clear h1 h2
      go_enter Tryz.func8, Tryz.ntmps8
      go_wp2_with (go_at_call 26; refine (KN.out _ (by (repeat' (first | exact Below.refl _ _ | assumption | refine below_new ?_ _ | refine below_draw ?_ | refine below_tail (by assumption) ?_ | refine below_set ?_ (by first | omega | (simp <;> omega)) _)))).use ?_; intro w1 hb1 hz1 hc1 hf1; clear hc1 hf1)
      go_ret
      exact ⟨rfl, by (repeat' (first | exact Below.refl _ _ | assumption | refine below_new ?_ _ | refine below_draw ?_ | refine below_tail (by assumption) ?_ | refine below_set ?_ (by first | omega | (simp <;> omega)) _))⟩
    · have k2 : decide ((6000 : Int) < (b.size : Int)) = false := decide_eq_false (by omega)
      have k2' : ¬ (6000 : Int) < (b.size : Int) := by omega
      have has : a.size ≤ 100000 := by omega
      have hbs : b.size ≤ 100000 := by omega
      obtain ⟨S, N, E, m1, m2⟩ := merge_ex a b
      have M1 := Lib.hid m1
      have M2 := Lib.hid m2
      have BW : Hid (Below w.heap.size w w) := Below.refl _ _
      clear h1 h2 m1 m2
      go_enter Tryz.func8, Tryz.ntmps8
      go_wp2_with (first
        | (go_at_call 22; (with_reducible refine (pMerge_calls M1.out has hbs (HB.out.below BW.out)).use ?_); intro w1 hb1 hz1 hc1 hf1; clear hc1 hf1 hz1; replace BW := Lib.hid (Below.trans BW.out (hb1.mono BW.out.size)); clear hb1)
        | (go_at_call 22; (with_reducible refine (pMerge_calls M2.out hbs has (HB.out.below BW.out)).use ?_); intro w2 hb2 hz2 hc2 hf2; clear hc2 hf2 hz2; replace BW := Lib.hid (Below.trans BW.out (hb2.mono BW.out.size)); clear hb2)
        | (go_at_call 41; (with_reducible refine (rMerge_calls M1.out has hbs (HB.out.below BW.out)).use ?_); intro w3 hb3 hz3 hc3 hf3; clear hc3 hf3 hz3; replace BW := Lib.hid (Below.trans BW.out (hb3.mono BW.out.size)); clear hb3)
        | (go_at_call 26; refine (KN.out _ BW.out).use ?_; intro wk hbk hzk hck hfk; clear hck hfk))
      go_ret
      exact ⟨rfl, Below.trans BW.out (hbk.mono BW.out.size)⟩
end Go.Proofs.YthooacpfmjpdmaaGreatDoor
