/- The document's Minutes and Write. Conditions: the texts lie as said; none is longer than a text can be. -/
import Derived.Test.YthooacpfmjpdmaaGreatDoorORef
namespace Go.Proofs.YthooacpfmjpdmaaGreatDoor
open Go.RowKit
theorem minF_snoc (l : List ByteArray) (o : ByteArray) : minF (l ++ [o]) = minF l ++ mkB (Lib.itoa (sumF (sumsF 0 (l.map (·.data.toList))) o.data.toList : Nat)) ++ (⟨#[32]⟩ : ByteArray) ++ o ++ (⟨#[10]⟩ : ByteArray) := by
  apply bytes_ext
  have h : (minF (l ++ [o])).data.toList = bookF 0 (l.map (·.data.toList)) ++ lineF (sumsF 0 (l.map (·.data.toList))) o.data.toList := by
    show bookF 0 ((l ++ [o]).map (·.data.toList)) = _
    rw [List.map_append, List.map_cons, List.map_nil, bookF_snoc]
  rw [h]
  have h2 : (minF l).data.toList = bookF 0 (l.map (·.data.toList)) := rfl
  simp [lineF, h2, mkB]
theorem sums_snoc (l : List ByteArray) (o : ByteArray) : sumsF 0 ((l ++ [o]).map (·.data.toList)) = sumF (sumsF 0 (l.map (·.data.toList))) o.data.toList := by
  rw [List.map_append, sumsF_append]; rfl
set_option maxRecDepth 100000 in
set_option maxHeartbeats 2000000 in
theorem rMinutes_calls (v : Value) (l : List ByteArray) (w : World) (h : TextsAt w v l) (hok : ∀ o ∈ l, okB o.data.toList = true) (hl : l.length ≤ 80) : Gives Tryz.prog 71 #[v] w (.string (minF l)) := by
  have HT := Lib.hid h
  obtain ⟨a, cap, rfl, -⟩ := h
  have HOK := Lib.hid hok
  obtain ⟨X, hX⟩ : ∃ X, l.length = X := ⟨_, rfl⟩
  have HX := Lib.hid hX
  rw [hX] at hl HT ⊢
  clear hok hX
  unfold Gives
  go_enter Tryz.func71, Tryz.ntmps71
  go_wp2
  go_loopw [3, 4, 5] (fun s b i wr => ∃ (j : Nat) (S : ByteArray) (B : Nat), j ≤ X ∧ i = .int .i64 j ∧ s = .string S ∧ b = .int .i64 B ∧ Hid (minF (l.take j) = S) ∧ Hid (sumsF 0 ((l.take j).map (·.data.toList)) = B) ∧ S.size ≤ 40 * j ∧ Below w.heap.size w wr) (fun _ _ i _ => X - (intOf i).toNat)
  case atStart => exact ⟨0, ⟨#[]⟩, 0, Nat.zero_le _, rfl, rfl, rfl, by show _ = _; simp [minF_nil], by show _ = _; simp [sumsF], by decide, Below.refl _ _⟩
  case round =>
    obtain ⟨j, S, B, hj, rfl, rfl, rfl, hS, hB, hSz, hb⟩ := hrel
    by_cases hlt : j < X
    · have k1 : decide ((j : Int) < (X : Int)) = true := decide_eq_true (by omega)
      obtain ⟨xb, xo, rfl, hxB, hcx⟩ := (HT.out.below hb).cellAt (m := j) (by rw [HX.out]; exact hlt)
      obtain ⟨q, hq⟩ : ∃ q, gi l default j = q := ⟨_, rfl⟩
      have hqok : okB q.data.toList = true := by rw [← hq, gi_lt (by rw [HX.out]; exact hlt)]; exact HOK.out _ (List.getElem_mem _)
      have hqs : q.size ≤ 30 := by have := (okB_iff.1 hqok).2.1; rwa [size_list] at this
      have htk : l.take (j + 1) = l.take j ++ [q] := by rw [List.take_succ_eq_append_getElem (by rw [HX.out]; exact hlt), ← hq, gi_lt (by rw [HX.out]; exact hlt)]
      rw [hq] at hcx
      obtain ⟨n, hn⟩ : ∃ n, sumF B q.data.toList = n := ⟨_, rfl⟩
      have hn1 : n < 1000003 := by rw [← hn]; exact sumF_lt _ _
      have hn7 : n < 10000000 := by omega
      obtain ⟨d, hd⟩ : ∃ d, mkB (Lib.itoa (n : Nat)) = d := ⟨_, rfl⟩
      have hds : d.size ≤ 7 := by rw [← hd, mkB_size]; exact itoa_len (by omega)
      have HSU : Hid (∀ W, Gives Tryz.prog 28 #[.int .i64 B, .string q] W (.int .i64 n)) := fun W => rSum_is (by omega) hn
      have HDD := Lib.hid hd
      have HS1 : Hid (minF (l.take (j + 1)) = S ++ d ++ (⟨#[32]⟩ : ByteArray) ++ q ++ (⟨#[10]⟩ : ByteArray)) := by
        show _ = _
        rw [htk, minF_snoc, hS.out, hB.out, hn, hd]
      have HB1 : Hid (sumsF 0 ((l.take (j + 1)).map (·.data.toList)) = n) := by
        show _ = _
        rw [htk, sums_snoc, hB.out, hn]
      have c1 : ¬ 9223372036854775807 < S.size + d.size := by omega
      have c2 : ¬ 9223372036854775807 < S.size + d.size + 1 := by omega
      have c3 : ¬ 9223372036854775807 < S.size + d.size + 1 + q.size := by omega
      have c4 : ¬ 9223372036854775807 < S.size + d.size + 1 + q.size + 1 := by omega
      have hw6 : IntKind.i64.wrap ((j : Int) + 1) = (j : Int) + 1 := IntWalk.i64_in _ (by omega)
      clear hq hn hd htk hqok
      go_wp2_with (go_at_call 28; refine (HSU.out _).use ?_; intro w1 hb1 hz1 hc1 hf1; clear hf1)
      have q0 := fun dr os => cell_regrown ((hc1 xb (xo + j) hxB).trans hcx) dr os
      clear hc1 hcx
      refine region_q mixed (by kernel_rfl) ?_
      repeat (go_big_quiet_step ((go_at_call 70; exact Gives.regrown (Digits_is hn7 HDD.out))))
      refine wpQuiet_nil ?_
      intro wq hbq
      clear q0
      go_wp2
      go_roundw
      case rel => exact ⟨j + 1, _, n, by omega, by go_num, rfl, rfl, HS1, HB1, by (have z1 : (⟨#[32]⟩ : ByteArray).size = 1 := rfl; have z2 : (⟨#[10]⟩ : ByteArray).size = 1 := rfl; simp only [ByteArray.size_append]; omega), by (repeat' (first | exact Below.refl _ _ | assumption | refine below_new ?_ _ | refine below_draw ?_ | refine below_tail (by assumption) ?_ | refine below_set ?_ (by first | omega | (simp <;> omega)) _))⟩
      case measure => simp [intOf]; omega
    · obtain rfl : j = X := by omega
      have HE : Hid (minF l = S) := by show _ = _; rw [← hS.out, List.take_of_length_le (by rw [HX.out]; exact Nat.le_refl _)]
      have k1 : decide ((j : Int) < (j : Int)) = false := decide_eq_false (by omega)
      go_wp2
      go_ret
      exact ⟨by rw [HE.out]; rfl, by (repeat' (first | exact Below.refl _ _ | assumption | refine below_new ?_ _ | refine below_draw ?_ | refine below_tail (by assumption) ?_ | refine below_set ?_ (by first | omega | (simp <;> omega)) _))⟩
set_option maxHeartbeats 1000000 in
theorem plain2_calls (s : ByteArray) (w : World) (hs : s.size ≤ 9223372036854775807) : Gives Tryz.prog 69 #[.string s] w (.bool (okB s.data.toList)) := by
  unfold Gives
  go_enter Tryz.func69, Tryz.ntmps69
  go_wp2
  go_loop [3] (fun i => ∃ k : Nat, k ≤ s.size ∧ i = .int .i64 k ∧ Hid ((10 : UInt8) ∉ s.data.toList.take k)) (fun i => s.size - (intOf i).toNat)
  case atStart => exact ⟨0, Nat.zero_le _, rfl, by show _ ∉ _; simp⟩
  case round =>
    obtain ⟨k, hk, rfl, hno⟩ := hrel
    by_cases hlt : k < s.size
    · have hlt' : k < s.data.toList.length := by rw [size_list]; exact hlt
      obtain ⟨c, hce⟩ : ∃ c, (s[k]'hlt).toNat = c := ⟨_, rfl⟩
      have hc256 : c < 256 := by rw [← hce]; exact (s[k]'hlt).toNat_lt
      have hw6 : IntKind.i64.wrap ((k : Int) + 1) = (k : Int) + 1 := IntWalk.i64_in _ (by omega)
      by_cases h10 : c = 10
      · have HR : Hid (okB s.data.toList = false) := by
          show _ = _
          cases hok : okB s.data.toList
          · rfl
          · exfalso
            apply (okB_iff.1 hok).2.2
            have : s.data.toList[k] = 10 := by rw [get_list hlt]; exact UInt8.toNat.inj (hce.trans h10)
            rw [← this]; exact List.getElem_mem _
        subst h10
        go_wp2
        go_ret
        exact ⟨ret_bool HR.out.symm, by (repeat' (first | exact Below.refl _ _ | assumption | refine below_new ?_ _ | refine below_draw ?_ | refine below_tail (by assumption) ?_ | refine below_set ?_ (by first | omega | (simp <;> omega)) _))⟩
      · have k10 : ((c : Int) == 10) = false := by simp; omega
        have HN : Hid ((10 : UInt8) ∉ s.data.toList.take (k + 1)) := mem_take_succ hlt' hno.out (fun e => h10 (by rw [← hce, ← get_list hlt, e]; rfl))
        clear h10
        go_wp2
        go_round
        case rel => exact ⟨k + 1, by omega, by go_num, HN⟩
        case measure => simp [intOf]; omega
    · obtain rfl : k = s.size := by omega
      have hno2 : (10 : UInt8) ∉ s.data.toList := by have := hno.out; rwa [List.take_of_length_le (by rw [size_list]; exact Nat.le_refl _)] at this
      obtain ⟨b1, hb1⟩ : ∃ b, decide ((1 : Int) ≤ (s.size : Int)) = b := ⟨_, rfl⟩
      obtain ⟨b2, hb2⟩ : ∃ b, decide ((s.size : Int) ≤ 30) = b := ⟨_, rfl⟩
      have HR : Hid (okB s.data.toList = (b1 && b2)) := by
        show _ = _
        unfold okB
        rw [size_list, decide_eq_false hno2, ← hb1, ← hb2]
        simp only [Bool.not_false, Bool.and_true]
        congr 1 <;> rw [decide_eq_decide] <;> omega
      clear hno hno2
      cases b1 <;> cases b2
      all_goals
        go_wp2
        go_ret
        exact ⟨ret_bool HR.out.symm, by (repeat' (first | exact Below.refl _ _ | assumption | refine below_new ?_ _ | refine below_draw ?_ | refine below_tail (by assumption) ?_ | refine below_set ?_ (by first | omega | (simp <;> omega)) _))⟩
theorem plain2_is {s : ByteArray} {b : Bool} {w : World} (hs : s.size ≤ 9223372036854775807) (h : okB s.data.toList = b) : Gives Tryz.prog 69 #[.string s] w (.bool b) := h ▸ plain2_calls s w hs
set_option maxRecDepth 100000 in
set_option maxHeartbeats 2000000 in
theorem rWrite_calls (v : Value) (l : List ByteArray) (w : World) (h : TextsAt w v l) (hz : ∀ o ∈ l, o.size ≤ 9223372036854775807) : Gives Tryz.prog 40 #[v] w (.tuple #[.string (writeT l), .int .i64 (writeE l)]) := by
  have HT := Lib.hid h
  obtain ⟨a, cap, rfl, -⟩ := h
  have HZ := Lib.hid hz
  obtain ⟨X, hX⟩ : ∃ X, l.length = X := ⟨_, rfl⟩
  have HX := Lib.hid hX
  clear hz
  unfold Gives
  by_cases hbig : 80 < l.length
  · have e1 : writeE l = 3 := by unfold writeE; rw [if_pos hbig]
    have e2 : writeT l = ⟨#[]⟩ := by unfold writeT; rw [if_neg (by rw [e1]; decide)]
    rw [e1, e2]
    rw [hX] at hbig HT ⊢
    have k1 : decide ((80 : Int) < (X : Int)) = true := decide_eq_true (by omega)
    have k1' : (80 : Int) < (X : Int) := by omega
    clear e1 e2 hX
    go_enter Tryz.func40, Tryz.ntmps40
    go_wp2
    go_ret2
    exact ⟨rfl, by (repeat' (first | exact Below.refl _ _ | assumption | refine below_new ?_ _ | refine below_draw ?_ | refine below_tail (by assumption) ?_ | refine below_set ?_ (by first | omega | (simp <;> omega)) _))⟩
  · have hl80 : l.length ≤ 80 := by omega
    have HOKE : Hid ((∀ o ∈ l, okB o.data.toList = true) → writeE l = 0 ∧ writeT l = minF l) := fun h => by
      have h0 : writeE l = 0 := by
        unfold writeE
        rw [if_neg (by omega), if_pos (List.all_eq_true.2 h)]
      exact ⟨h0, by unfold writeT; rw [if_pos h0]⟩
    have HBAD : Hid ((∃ o ∈ l, okB o.data.toList = false) → writeE l = 1 ∧ writeT l = ⟨#[]⟩) := fun ⟨o, ho, hb⟩ => by
      have h0 : writeE l = 1 := by
        unfold writeE
        rw [if_neg (by omega), if_neg (fun e => by have := List.all_eq_true.1 e o ho; rw [hb] at this; cases this)]
      exact ⟨h0, by unfold writeT; rw [if_neg (by rw [h0]; decide)]⟩
    rw [hX] at hl80 HT ⊢
    have k1 : decide ((80 : Int) < (X : Int)) = false := decide_eq_false (by omega)
    have k1' : ¬ (80 : Int) < (X : Int) := by omega
    clear hbig hX
    go_enter Tryz.func40, Tryz.ntmps40
    go_wp2
    go_loopw [4] (fun i wr => ∃ j : Nat, j ≤ X ∧ i = .int .i64 j ∧ Hid (∀ o ∈ l.take j, okB o.data.toList = true) ∧ Below w.heap.size w wr) (fun i _ => X - (intOf i).toNat)
    case atStart => exact ⟨0, Nat.zero_le _, rfl, by show ∀ _, _; simp, Below.refl _ _⟩
    case round =>
      obtain ⟨j, hj, rfl, hall, hb⟩ := hrel
      by_cases hlt : j < X
      · have k2 : decide ((j : Int) < (X : Int)) = true := decide_eq_true (by omega)
        obtain ⟨xb, xo, rfl, hxB, hcx⟩ := (HT.out.below hb).cellAt (m := j) (by rw [HX.out]; exact hlt)
        obtain ⟨q, hq⟩ : ∃ q, gi l default j = q := ⟨_, rfl⟩
        have HM : Hid (q ∈ l) := by show _ ∈ _; rw [← hq, gi_lt (by rw [HX.out]; exact hlt)]; exact List.getElem_mem _
        have htk : l.take (j + 1) = l.take j ++ [q] := by rw [List.take_succ_eq_append_getElem (by rw [HX.out]; exact hlt), ← hq, gi_lt (by rw [HX.out]; exact hlt)]
        rw [hq] at hcx
        have hqs := HZ.out q HM.out
        obtain ⟨b, hbq⟩ : ∃ b, okB q.data.toList = b := ⟨_, rfl⟩
        have HQ := Lib.hid hbq
        have HTK := Lib.hid htk
        have hw6 : IntKind.i64.wrap ((j : Int) + 1) = (j : Int) + 1 := IntWalk.i64_in _ (by omega)
        clear hq htk hbq
        cases b
        · go_wp2_with (go_at_call 69; refine (plain2_is hqs HQ.out).use ?_; intro w1 hb1 hz1 hc1 hf1; clear hc1 hf1)
          obtain ⟨e1, e2⟩ := HBAD.out ⟨q, HM.out, HQ.out⟩
          go_ret2
          exact ⟨by rw [e1, e2]; rfl, by (repeat' (first | exact Below.refl _ _ | assumption | refine below_new ?_ _ | refine below_draw ?_ | refine below_tail (by assumption) ?_ | refine below_set ?_ (by first | omega | (simp <;> omega)) _))⟩
        · go_wp2_with (go_at_call 69; refine (plain2_is hqs HQ.out).use ?_; intro w1 hb1 hz1 hc1 hf1; clear hc1 hf1)
          go_roundw
          case rel => exact ⟨j + 1, by omega, by go_num, fun o ho => by rw [HTK.out] at ho; rcases List.mem_append.1 ho with ho | ho; exact hall.out o ho; rw [List.mem_singleton.1 ho]; exact HQ.out, by (repeat' (first | exact Below.refl _ _ | assumption | refine below_new ?_ _ | refine below_draw ?_ | refine below_tail (by assumption) ?_ | refine below_set ?_ (by first | omega | (simp <;> omega)) _))⟩
          case measure => simp [intOf]; omega
      · obtain rfl : j = X := by omega
        have k2 : decide ((j : Int) < (j : Int)) = false := decide_eq_false (by omega)
        have hok : ∀ o ∈ l, okB o.data.toList = true := by have := hall.out; rwa [List.take_of_length_le (by rw [HX.out]; exact Nat.le_refl _)] at this
        have HOK := Lib.hid hok
        obtain ⟨e1, e2⟩ := HOKE.out hok
        have HE := Lib.hid (And.intro e1 e2)
        clear e1 e2 hok
        go_wp2_with (go_at_call 71; refine (rMinutes_calls _ l _ (HT.out.below hb) HOK.out (by rw [HX.out]; exact hl80)).use ?_; intro w1 hb1 hz1 hc1 hf1; clear hc1 hf1)
        go_ret2
        exact ⟨by rw [HE.out.1, HE.out.2]; rfl, by (repeat' (first | exact Below.refl _ _ | assumption | refine below_new ?_ _ | refine below_draw ?_ | refine below_tail (by assumption) ?_ | refine below_set ?_ (by first | omega | (simp <;> omega)) _))⟩
end Go.Proofs.YthooacpfmjpdmaaGreatDoor
