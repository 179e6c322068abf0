/- The law OfficeWrites, walked. Conditions: the texts lie as said; none is longer than a text can be; the library's variables read as they were laid. -/
import Derived.Test.YthooacpfmjpdmaaGreatDoorORefW
import Derived.Test.YthooacpfmjpdmaaGreatDoorORefR
import Derived.Test.YthooacpfmjpdmaaGreatDoorOReadsL
namespace Go.Proofs.YthooacpfmjpdmaaGreatDoor
open Go.RowKit
theorem longT {v : Value} {l : List ByteArray} {b : Bool} {w : World} (h : TextsAt w v l) (hb : decide (150 < l.length) = b) : Gives Tryz.prog 18 #[v] w (.bool b) := by
  obtain ⟨a, cap, rfl, -⟩ := h
  unfold Gives
  have H : Hid (decide ((150 : Int) < (l.length : Int)) = b) := by show _ = _; rw [← hb, decide_eq_decide]; omega
  obtain ⟨c, hc⟩ : ∃ c, decide ((150 : Int) < (l.length : Int)) = c := ⟨_, rfl⟩
  have HC : Hid (c = b) := by show _ = _; rw [← hc]; exact H.out
  clear H
  go_enter Tryz.func18, Tryz.ntmps18
  go_wp2
  go_ret
  exact ⟨ret_bool HC.out, by (repeat' (first | exact Below.refl _ _ | assumption | refine below_new ?_ _ | refine below_draw ?_ | refine below_tail (by assumption) ?_ | refine below_set ?_ (by first | omega | (simp <;> omega)) _))⟩
theorem TextsAt.take {w : World} {a : Option Addr} {n cap : Nat} {l : List ByteArray} {M : Nat} (h : TextsAt w (.slice a n cap) l) (hM : M ≤ l.length) : TextsAt w (.slice a M M) (l.take M) := by
  obtain ⟨a', cap', e, h1, h2, h3⟩ := h
  simp only [Value.slice.injEq] at e
  obtain ⟨rfl, rfl, rfl⟩ := e
  have hl : (l.take M).length = M := by rw [List.length_take]; omega
  refine ⟨a, M, by rw [hl], by omega, by omega, fun i hi => ?_⟩
  rw [hl] at hi
  obtain ⟨b, o, e1, e2, e3⟩ := h3 i (by omega)
  refine ⟨b, o, e1, e2, e3.trans ?_⟩
  rw [gi_lt (by omega), gi_lt (by rw [hl]; exact hi), List.getElem_take]
theorem take_is {w : World} {a : Option Addr} {n cap : Nat} {l m : List ByteArray} {M : Nat} (h1 : l.take m.length = m) (h2 : m.length = M) (h : TextsAt w (.slice a n cap) l) (hM : M ≤ l.length) : TextsAt w (.slice a M M) m := by
  have := h.take hM
  rw [← h2] at this ⊢
  rwa [h1] at this
/-- What is read of the beginning of minutes. -/
structure Torn (l : List ByteArray) (s : ByteArray) (K : Nat) (m : List ByteArray) (t : ByteArray) : Prop where
  rd : readO (s.extract 0 K) = m
  rt : readT (s.extract 0 K) = t
  tK : t.size ≤ K
  tl : s.extract (K - t.size) K = t
  ml : m.length ≤ l.length
  mt : l.take m.length = m
theorem torn_of {l : List ByteArray} (h : ∀ o ∈ l, okB o.data.toList = true) {K : Nat} (hK : K ≤ (minF l).size) : ∃ m t, Torn l (minF l) K m t := by
  obtain ⟨p1, p2, p3⟩ := read_parts ((minF l).extract 0 K)
  have hc : ((minF l).extract 0 K).size = K := by rw [ByteArray.size_extract]; omega
  obtain ⟨m, hm⟩ : ∃ m, readO ((minF l).extract 0 K) = m := ⟨_, rfl⟩
  obtain ⟨t, ht⟩ : ∃ t, readT ((minF l).extract 0 K) = t := ⟨_, rfl⟩
  rw [hm] at p1 p2 p3
  rw [ht] at p3
  have hs : (minF m).size + t.size = K := by rw [← hc, ← p3, ByteArray.size_append]
  have hd : (minF m).data.toList ++ t.data.toList = (minF l).data.toList.take K := by
    have := congrArg (fun z : ByteArray => z.data.toList) p3
    simp only [ByteArray.data_append, Array.toList_append, ext_data, List.drop_zero, Nat.sub_zero] at this
    exact this
  have hb := book_prefix (m.map (·.data.toList)) (l.map (·.data.toList)) 0 t.data.toList ((minF l).data.toList.drop K) (fun o ho => by obtain ⟨y, hy, rfl⟩ := List.mem_map.1 ho; exact p1 y hy) (fun o ho => by obtain ⟨y, hy, rfl⟩ := List.mem_map.1 ho; exact h y hy) (by
    show (minF m).data.toList ++ t.data.toList ++ _ = (minF l).data.toList
    rw [hd, List.take_append_drop])
  refine ⟨m, t, hm, ht, by omega, ?_, by simpa using hb.2, ?_⟩
  · apply bytes_ext
    rw [ext_data, show K - t.size = (minF m).size by omega, show K - (minF m).size = t.size by omega]
    have h2 : ((minF l).data.toList.take K).drop (minF m).size = t.data.toList := by
      rw [← hd, List.drop_append, List.drop_of_length_le (by rw [size_list]; exact Nat.le_refl _), show (minF m).size - (minF m).data.toList.length = 0 by rw [size_list]; omega]
      simp
    rw [← h2, List.drop_take, show K - (minF m).size = t.size by omega]
  · have h1 := hb.1
    rw [List.length_map, ← List.map_take] at h1
    have := congrArg (List.map mkB) h1
    rw [map_mk2, map_mk2] at this
    exact this.symm
theorem readO_min2 {l : List ByteArray} (h : ∀ o ∈ l, okB o.data.toList = true) (hl : l.length ≤ 80) : readO (minF l) = l ∧ readT (minF l) = ⟨#[]⟩ := by
  have hb : (minF l).data.toList = bookF 0 (l.map (·.data.toList)) := rfl
  have := readF_whole (l := l.map (·.data.toList)) (k := 80) (b := 0) (fun o ho => by obtain ⟨y, hy, rfl⟩ := List.mem_map.1 ho; exact h y hy) (by rw [List.length_map]; exact hl)
  unfold readO readT
  rw [hb, this]
  exact ⟨map_mk2 l, rfl⟩
theorem u64_ge (p : Int) : 0 ≤ IntKind.u64.wrap p ∧ IntKind.u64.wrap p < 18446744073709551616 := by
  rw [IntKind.wrap_u64]
  omega
set_option maxRecDepth 100000 in
set_option maxHeartbeats 4000000 in
theorem officeWrites_calls (v : Value) (l : List ByteArray) (p : Int) (w : World) (h : TextsAt w v l) (hz : ∀ o ∈ l, o.size ≤ 9223372036854775807) (hb : Base w) : Gives Tryz.prog 7 #[v, .int .i64 p] w (.bool true) := by
  have HT := Lib.hid h
  have HB := Lib.hid hb
  have HZ := Lib.hid hz
  have KN : Hid (∀ y, Below w.heap.size w y → Gives Tryz.prog 26 #[] y (.bool true)) := fun y hy => known_calls y (HB.out.below hy)
  have BW : Hid (Below w.heap.size w w) := Below.refl _ _
  have HW1 : Hid (∀ y, TextsAt y v l → Env y → Gives Tryz.prog 23 #[v] y (.tuple #[.string (writeT l), .int .i64 (writeE l)])) := fun y h he => Write_calls v l y h he
  have HW2 : Hid (∀ y, TextsAt y v l → Gives Tryz.prog 40 #[v] y (.tuple #[.string (writeT l), .int .i64 (writeE l)])) := fun y h => rWrite_calls v l y h HZ.out
  clear hb hz
  unfold Gives
  cases hlong : decide (150 < l.length) with
  | true =>
    have HL := Lib.hid hlong
    clear hlong h
    go_enter Tryz.func7, Tryz.ntmps7
    go_wp2_with (first
      | (go_at_call 18; refine (longT HT.out HL.out).use ?_; intro w1 hb1 hz1 hc1 hf1; clear hc1 hf1 hz1; replace BW := Lib.hid (Below.trans BW.out (hb1.mono BW.out.size)); clear hb1)
      | (go_at_call 26; refine (KN.out _ BW.out).use ?_; intro wk hbk hzk hck hfk; clear hck hfk))
    go_ret
    exact ⟨rfl, Below.trans BW.out (hbk.mono BW.out.size)⟩
  | false =>
    have HL := Lib.hid hlong
    clear hlong
    obtain ⟨e, he⟩ : ∃ e, writeE l = e := ⟨_, rfl⟩
    obtain ⟨s, hs⟩ : ∃ s, writeT l = s := ⟨_, rfl⟩
    rw [he, hs] at HW1 HW2
    by_cases he0 : e = 0
    case neg =>
      have ke : (e != 0) = true := by simpa using he0
      clear he0 he hs h
      go_enter Tryz.func7, Tryz.ntmps7
      go_wp2_with (first
        | (go_at_call 18; refine (longT HT.out HL.out).use ?_; intro w1 hb1 hz1 hc1 hf1; clear hc1 hf1 hz1; replace HT := Lib.hid (HT.out.below hb1); replace BW := Lib.hid (Below.trans BW.out (hb1.mono BW.out.size)); clear hb1)
        | (go_at_call 23; refine (HW1.out _ HT.out (HB.out.below BW.out).env).use ?_; intro w2 hb2 hz2 hc2 hf2; clear hc2 hf2 hz2; replace HT := Lib.hid (HT.out.below hb2); replace BW := Lib.hid (Below.trans BW.out (hb2.mono BW.out.size)); clear hb2)
        | (go_at_call 40; refine (HW2.out _ HT.out).use ?_; intro w3 hb3 hz3 hc3 hf3; clear hc3 hf3 hz3; replace HT := Lib.hid (HT.out.below hb3); replace BW := Lib.hid (Below.trans BW.out (hb3.mono BW.out.size)); clear hb3)
        | (go_at_call 26; refine (KN.out _ BW.out).use ?_; intro wk hbk hzk hck hfk; clear hck hfk))
      go_ret
      exact ⟨rfl, Below.trans BW.out (hbk.mono BW.out.size)⟩
    subst he0
    have h80 : l.length ≤ 80 := by
      unfold writeE at he
      split at he
      · cases he
      · omega
    have hok : ∀ o ∈ l, okB o.data.toList = true := by
      unfold writeE at he
      rw [if_neg (by omega)] at he
      split at he
      · rename_i h1; exact List.all_eq_true.1 h1
      · cases he
    have hsm : minF l = s := by rw [← hs]; unfold writeT; rw [if_pos he]
    have hss : s.size ≤ 3200 := by rw [← hsm]; have := minF_size hok; omega
    obtain ⟨r1, r2⟩ := readO_min2 hok h80
    rw [hsm] at r1 r2
    obtain ⟨U, hU⟩ : ∃ U, IntKind.u64.wrap p = U := ⟨_, rfl⟩
    have hU0 : 0 ≤ U ∧ U < 18446744073709551616 := by rw [← hU]; exact u64_ge p
    obtain ⟨Z, hZ⟩ : ∃ Z, s.size = Z := ⟨_, rfl⟩
    obtain ⟨K, hK⟩ : ∃ K : Nat, U.tmod ((Z : Int) + 1) = (K : Int) ∧ K ≤ Z := by
      refine ⟨(U.tmod ((Z : Int) + 1)).toNat, ?_, ?_⟩
      · have := Int.tmod_nonneg ((Z : Int) + 1) hU0.1; omega
      · have := Int.tmod_lt_of_pos U (b := (Z : Int) + 1) (by omega); omega
    obtain ⟨hK1, hK2⟩ := hK
    obtain ⟨m, t, ht⟩ := torn_of hok (K := K) (by rw [hsm, hZ]; exact hK2)
    rw [hsm] at ht
    have HTN := Lib.hid ht
    obtain ⟨M, hM⟩ : ∃ M, m.length = M := ⟨_, rfl⟩
    obtain ⟨T, hT⟩ : ∃ T, t.size = T := ⟨_, rfl⟩
    obtain ⟨X, hX⟩ : ∃ X, l.length = X := ⟨_, rfl⟩
    have hTK : T ≤ K := by rw [← hT]; exact ht.tK
    have hMX : M ≤ X := by rw [← hM, ← hX]; exact ht.ml
    have HM := Lib.hid hM
    have HXX := Lib.hid hX
    obtain ⟨D, hD⟩ : ∃ D, K - T = D := ⟨_, rfl⟩
    have hex : s.extract D K = t := by rw [← hD, ← hT]; exact ht.tl
    have hDK : D ≤ K := by omega
    have hwD : IntKind.i64.wrap ((K : Int) - (T : Int)) = (D : Int) := by rw [IntWalk.i64_in _ (by omega)]; omega
    have kT : decide ((K : Int) < (T : Int)) = false := decide_eq_false (by omega)
    have kM : decide ((X : Int) < (M : Int)) = false := decide_eq_false (by omega)
    have kT' : ¬ K < T := by omega
    have kM' : ¬ X < M := by omega
    obtain ⟨a, cap, hv, hcap, hmax, -⟩ := id HT.out
    subst hv
    rw [hX] at HT HW1 HW2 hcap ⊢
    have hMc : M ≤ cap := by omega
    have hTS : t.size = T := hT
    clear hM hX hD
    have hw1 : IntKind.i64.wrap ((Z : Int) + 1) = (Z : Int) + 1 := IntWalk.i64_in _ (by omega)
    have hw2 : IntKind.u64.wrap ((Z : Int) + 1) = (Z : Int) + 1 := IntWalk.u64_in _ ⟨by omega, by omega⟩
    have hw3 : IntKind.i64.wrap (K : Int) = (K : Int) := IntWalk.i64_in _ (by omega)
    have kz : ((Z : Int) + 1 == 0) = false := by simp; omega
    have HS := Lib.hid hsm
    have HR1 := Lib.hid r1
    have HR2 := Lib.hid r2
    have hts : s.size ≤ 100000 := by omega
    have hcs : (s.extract 0 K).size ≤ 100000 := by rw [ByteArray.size_extract]; omega
    clear he hs hsm r1 r2 hok ht h
    go_enter Tryz.func7, Tryz.ntmps7
    go_upto_region 13 with (first
      | (go_at_call 18; refine (longT HT.out HL.out).use ?_; intro w1 hb1 hz1 hc1 hf1; clear hc1 hf1 hz1; replace HT := Lib.hid (HT.out.below hb1); replace BW := Lib.hid (Below.trans BW.out (hb1.mono BW.out.size)); clear hb1)
      | (go_at_call 23; refine (HW1.out _ HT.out (HB.out.below BW.out).env).use ?_; intro w2 hb2 hz2 hc2 hf2; clear hc2 hf2 hz2; replace HT := Lib.hid (HT.out.below hb2); replace BW := Lib.hid (Below.trans BW.out (hb2.mono BW.out.size)); clear hb2)
      | (go_at_call 40; refine (HW2.out _ HT.out).use ?_; intro w3 hb3 hz3 hc3 hf3; clear hc3 hf3 hz3; replace HT := Lib.hid (HT.out.below hb3); replace BW := Lib.hid (Below.trans BW.out (hb3.mono BW.out.size)); clear hb3)
      | (go_at_call 16; refine Calls.mono (Read_calls s _ hts (HB.out.below BW.out).env) ?_; rintro e w4 ⟨v4, rfl, hi4, hb4⟩; rw [HR2.out]; rw [HR1.out] at hi4; have HT4 := Lib.hid (own_texts hi4); clear hi4; replace HT := Lib.hid (HT.out.below hb4); replace BW := Lib.hid (Below.trans BW.out (hb4.mono BW.out.size)); clear hb4)
      | (go_at_call 39; refine (sameT_same HT4.out HT.out).use ?_; intro w5 hb5 hz5 hc5 hf5; clear hc5 hf5 hz5 HT4; replace HT := Lib.hid (HT.out.below hb5); replace BW := Lib.hid (Below.trans BW.out (hb5.mono BW.out.size)); clear hb5))
    go_wp2_with (first
      | (go_at_call 16; refine Calls.mono (Read_calls (s.extract 0 K) _ hcs (HB.out.below BW.out).env) ?_; rintro e w6 ⟨v6, rfl, hi6, hb6⟩; rw [HTN.out.rt]; rw [HTN.out.rd] at hi6; have HT6 := Lib.hid (own_texts hi6); clear hi6; obtain ⟨ma, mc, e6, -⟩ := id HT6.out; rw [HM.out] at e6; subst e6; replace HT := Lib.hid (HT.out.below hb6); replace BW := Lib.hid (Below.trans BW.out (hb6.mono BW.out.size)); clear hb6)
      | (go_at_call 39; refine (sameT_same HT6.out (take_is HTN.out.mt HM.out HT.out (by rw [HXX.out]; exact hMX))).use ?_; intro w7 hb7 hz7 hc7 hf7; clear hc7 hf7 hz7; replace BW := Lib.hid (Below.trans BW.out (hb7.mono BW.out.size)); clear hb7)
      | (go_at_call 26; refine (KN.out _ BW.out).use ?_; intro wk hbk hzk hck hfk; clear hck hfk))
    go_ret
    exact ⟨rfl, Below.trans BW.out (hbk.mono BW.out.size)⟩
end Go.Proofs.YthooacpfmjpdmaaGreatDoor
