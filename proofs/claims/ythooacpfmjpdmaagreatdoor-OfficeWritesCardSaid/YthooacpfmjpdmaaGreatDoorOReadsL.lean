/- The law OfficeReads, walked. Conditions: the library's variables read as they were laid. -/
import Derived.Test.YthooacpfmjpdmaaGreatDoorORefR
namespace Go.Proofs.YthooacpfmjpdmaaGreatDoor
open Go.RowKit
theorem read_parts (t : ByteArray) : (∀ o ∈ readO t, okB o.data.toList = true) ∧ (readO t).length ≤ 80 ∧ minF (readO t) ++ readT t = t := by
  obtain ⟨h1, h2, h3⟩ := readF_spec 80 0 t.data.toList
  refine ⟨fun o ho => ?_, ?_, ?_⟩
  · obtain ⟨y, hy, rfl⟩ := List.mem_map.1 ho
    exact h3 y hy
  · unfold readO; rw [List.length_map]; exact h2
  · apply bytes_ext
    rw [ByteArray.data_append, Array.toList_append]
    show bookF 0 ((readO t).map (·.data.toList)) ++ _ = _
    unfold readO readT
    rw [map_mk, mkB_data, h1]
theorem writeE_ok {l : List ByteArray} (h : ∀ o ∈ l, okB o.data.toList = true) (hl : l.length ≤ 80) : writeE l = 0 ∧ writeT l = minF l := by
  have h0 : writeE l = 0 := by
    unfold writeE
    rw [if_neg (by omega), if_pos (List.all_eq_true.2 h)]
  exact ⟨h0, by unfold writeT; rw [if_pos h0]⟩
set_option maxRecDepth 100000 in
set_option maxHeartbeats 2000000 in
theorem officeReads_calls (t : ByteArray) (w : World) (hs : t.size ≤ 140737488351232) (hb : Base w) : Gives Tryz.prog 6 #[.string t] w (.bool true) := by
  have HB := Lib.hid hb
  clear hb
  unfold Gives
  have KN : Hid (∀ y, Below w.heap.size w y → Gives Tryz.prog 26 #[] y (.bool true)) := fun y hy => known_calls y (HB.out.below hy)
  by_cases hbig : 10000 < t.size
  · have k1 : decide ((10000 : Int) < (t.size : Int)) = true := decide_eq_true (by omega)
    have k1' : (10000 : Int) < (t.size : Int) := by omega
    clear hbig
    go_enter Tryz.func6, Tryz.ntmps6
    go_wp2_with (go_at_call 26; refine (KN.out _ (by (repeat' (first | exact Below.refl _ _ | assumption | refine below_new ?_ _ | refine below_draw ?_ | refine below_tail (by assumption) ?_ | refine below_set ?_ (by first | omega | (simp <;> omega)) _)))).use ?_; intro w1 hb1 hz1 hc1 hf1; clear hc1 hf1)
    go_ret
    exact ⟨rfl, by (repeat' (first | exact Below.refl _ _ | assumption | refine below_new ?_ _ | refine below_draw ?_ | refine below_tail (by assumption) ?_ | refine below_set ?_ (by first | omega | (simp <;> omega)) _))⟩
  · have k1 : decide ((10000 : Int) < (t.size : Int)) = false := decide_eq_false (by omega)
    have k1' : ¬ (10000 : Int) < (t.size : Int) := by omega
    have hts : t.size ≤ 100000 := by omega
    obtain ⟨p1, p2, p3⟩ := read_parts t
    obtain ⟨e1, e2⟩ := writeE_ok p1 p2
    obtain ⟨l, hl⟩ : ∃ l, readO t = l := ⟨_, rfl⟩
    obtain ⟨r, hr⟩ : ∃ r, readT t = r := ⟨_, rfl⟩
    obtain ⟨q, hq⟩ : ∃ q, minF l = q := ⟨_, rfl⟩
    rw [hl, hr] at p3
    rw [hl] at e1 e2
    rw [hq] at p3 e2
    have c1 : ¬ 9223372036854775807 < q.size + r.size := by
      have : q.size + r.size = t.size := by rw [← p3, ByteArray.size_append]
      omega
    have HL := Lib.hid hl
    have HR := Lib.hid hr
    have HWR : Hid (∀ v y, TextsAt y v l → Env y → Gives Tryz.prog 23 #[v] y (.tuple #[.string q, .int .i64 0])) := fun v y h he => by
      have := Write_calls v l y h he
      rwa [e1, e2] at this
    have BW : Hid (Below w.heap.size w w) := Below.refl _ _
    clear hbig p1 p2 e1 e2 hl hr hq
    go_enter Tryz.func6, Tryz.ntmps6
    go_wp2_with (first
      | (go_at_call 16; refine (Read_calls t _ hts (HB.out.below BW.out).env).mono ?_; rintro e w1 ⟨v1, rfl, hi1, hb1⟩; rw [HR.out]; rw [HL.out] at hi1; have HT1 := Lib.hid (own_texts hi1); clear hi1; replace BW := Lib.hid (Below.trans BW.out (hb1.mono BW.out.size)); clear hb1)
      | (go_at_call 38; refine (rRead_calls t _ hts).mono ?_; rintro e w2 ⟨v2, rfl, hi2, hb2⟩; rw [HR.out]; rw [HL.out] at hi2; have HT2 := Lib.hid (own_texts hi2); clear hi2; replace HT1 := Lib.hid (HT1.out.below hb2); replace BW := Lib.hid (Below.trans BW.out (hb2.mono BW.out.size)); clear hb2)
      | (go_at_call 39; refine (sameT_same HT1.out HT2.out).use ?_; intro w3 hb3 hz3 hc3 hf3; clear hc3 hf3 hz3 HT2; replace HT1 := Lib.hid (HT1.out.below hb3); replace BW := Lib.hid (Below.trans BW.out (hb3.mono BW.out.size)); clear hb3)
      | (go_at_call 23; refine (HWR.out _ _ HT1.out (HB.out.below BW.out).env).use ?_; intro w4 hb4 hz4 hc4 hf4; clear hc4 hf4 hz4 HT1; replace BW := Lib.hid (Below.trans BW.out (hb4.mono BW.out.size)); clear hb4)
      | (go_at_call 26; refine (KN.out _ BW.out).use ?_; intro wk hbk hzk hck hfk; clear hck hfk))
    go_ret
    exact ⟨rfl, Below.trans BW.out (hbk.mono BW.out.size)⟩
end Go.Proofs.YthooacpfmjpdmaaGreatDoor
