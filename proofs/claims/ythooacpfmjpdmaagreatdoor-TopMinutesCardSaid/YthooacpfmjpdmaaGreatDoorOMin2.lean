/- Minutes written and read by package office. Conditions: the library's variables read as they were laid. -/
import Derived.Test.YthooacpfmjpdmaaGreatDoorOMin
namespace Go.Proofs.YthooacpfmjpdmaaGreatDoor
open Go.RowKit

def cellsS (l : List ByteArray) : List Value := l.map Value.string
theorem cellsS_length (l : List ByteArray) : (cellsS l).length = l.length * 1 := by simp [cellsS]
theorem cellsS_get {l : List ByteArray} {i : Nat} (h : i < l.length) : (cellsS l)[i]? = some (.string (gi l default i)) := by simp [cellsS, gi, h]
theorem cellsS_append (l : List ByteArray) (x : ByteArray) : cellsS (l ++ [x]) = cellsS l ++ [.string x] := by simp [cellsS]
theorem texts0 (w : World) (a : Option Addr) (cap : Nat) (h : cap ≤ 9223372036854775807) : TextsAt w (.slice a 0 cap) [] := ⟨a, cap, rfl, Nat.zero_le _, h, fun i hi => by simp at hi⟩
theorem own_texts {w : World} {base : Nat} {e : TypeId} {v : Value} {l : List ByteArray} (h : w.ownsRow base e 1 v l.length (cellsS l)) : TextsAt w v l := by
  rcases id h with ⟨_, ⟨rfl, h0⟩ | ⟨g, cap, cur, rfl, hb, hg, hn, hm, hs, ht⟩⟩
  · rw [List.length_eq_zero_iff] at h0; subst h0; exact texts0 _ _ _ (by decide)
  · refine ⟨_, cap, rfl, hn, by unfold maxLen at hm; omega, fun i hi => ⟨g, 0, rfl, (Array.getElem?_eq_some_iff.1 hg).1, ?_⟩⟩
    rw [Nat.zero_add, h.cellAt i (by omega), cellsS_get hi]
theorem infoStr : (Tryz.prog.info? 9).map (fun i => (i.zero, i.size, i.bytes)) = some (some (.string ⟨#[]⟩), 1, 16) := by kernel_rfl
theorem one_str (x : ByteArray) : ∀ u ∈ [Value.string x], u.oneCell' = true := by
  intro u hu
  simp only [List.mem_singleton] at hu
  subst hu; rfl
/-- May a list be written? -/
def writeE (l : List ByteArray) : Int := if 80 < l.length then 3 else if l.all (fun o => okB o.data.toList) then 0 else 1
def writeT (l : List ByteArray) : ByteArray := if writeE l = 0 then minF l else ⟨#[]⟩
theorem minF_size {l : List ByteArray} (h : ∀ o ∈ l, okB o.data.toList = true) : (minF l).size ≤ 40 * l.length := by
  unfold minF
  have := book_len (l := l.map (·.data.toList)) (fun o ho => by obtain ⟨y, hy, rfl⟩ := List.mem_map.1 ho; exact h y hy) 0
  rw [List.length_map] at this
  exact (mkB_size _).symm ▸ this
theorem minF_nil : minF [] = ⟨#[]⟩ := rfl
set_option maxRecDepth 100000 in
set_option maxHeartbeats 1000000 in
theorem Write_calls (v : Value) (l : List ByteArray) (w : World) (h : TextsAt w v l) (he : Env w) : Gives Tryz.prog 23 #[v] w (.tuple #[.string (writeT l), .int .i64 (writeE l)]) := by
  have HT := Lib.hid h
  have HE := Lib.hid he
  obtain ⟨a, cap, rfl, hlc, hcm, -⟩ := h
  clear he
  unfold Gives
  obtain ⟨L, hL⟩ : ∃ L, l.length = L := ⟨_, rfl⟩
  have HL := Lib.hid hL
  rw [hL] at HT hlc ⊢
  clear hL
  by_cases hbig : 80 < L
  · have HW : Hid (writeE l = 3) := by show _ = _; unfold writeE; rw [HL.out, if_pos hbig]
    have k1 : decide ((80 : Int) < (L : Int)) = true := decide_eq_true (by omega)
    have k1' : (80 : Int) < (L : Int) := by omega
    go_enter Tryz.func23, Tryz.ntmps23
    go_wp2
    go_ret2
    refine ⟨?_, by (repeat' (first | exact Below.refl _ _ | assumption | refine below_new ?_ _ | refine below_draw ?_ | refine below_tail (by assumption) ?_ | refine below_set ?_ (by first | omega | (simp <;> omega)) _))⟩
    unfold writeT
    rw [HW.out]; rfl
  · have k1 : decide ((80 : Int) < (L : Int)) = false := decide_eq_false (by omega)
    have k1' : ¬ (80 : Int) < (L : Int) := by omega
    go_enter Tryz.func23, Tryz.ntmps23
    go_wp2
    clear k1 k1'
    go_loopw [4, 6, 12] (fun t _ i wr => ∃ k : Nat, k ≤ L ∧ i = .int .i64 k ∧ Hid (Below w.heap.size w wr) ∧ Hid (∀ o ∈ l.take k, okB o.data.toList = true) ∧ t = .string (minF (l.take k))) (fun _ _ i _ => L - (intOf i).toNat)
    case atStart => exact ⟨0, Nat.zero_le _, rfl, by show Below _ _ _; (repeat' (first | exact Below.refl _ _ | assumption | refine below_new ?_ _ | refine below_draw ?_ | refine below_tail (by assumption) ?_ | refine below_set ?_ (by first | omega | (simp <;> omega)) _)), (fun o ho => by cases ho), rfl⟩
    case round =>
      obtain ⟨k, hk, rfl, hb, hok, rfl⟩ := hrel
      by_cases hlt : k < L
      · obtain ⟨b, o, rfl, hB, hcell⟩ := (HT.out.below hb.out).cellAt (m := k) (by rw [HL.out]; exact hlt)
        have hlt' : k < l.length := by rw [HL.out]; exact hlt
        obtain ⟨x, hx⟩ : ∃ x, gi l default k = x := ⟨_, rfl⟩
        have HX : Hid (l.take (k + 1) = l.take k ++ [x]) := by show _ = _; rw [List.take_succ_eq_append_getElem hlt', ← hx, gi_lt hlt']
        have HXM : Hid (x ∈ l) := by show _ ∈ _; rw [← hx, gi_lt hlt']; exact List.getElem_mem _
        rw [hx] at hcell
        obtain ⟨t, ht⟩ : ∃ t, minF (l.take k) = t := ⟨_, rfl⟩
        have hts : t.size ≤ 4000 := by
          rw [← ht]
          have := minF_size hok.out
          rw [List.length_take] at this; omega
        have HTT := Lib.hid ht
        have hw6 : IntKind.i64.wrap ((k : Int) + 1) = (k : Int) + 1 := IntWalk.i64_in _ (by omega)
        rw [ht]
        clear ht hx
        cases hq : okB x.data.toList
        · have HQ := Lib.hid hq
          have HW : Hid (writeE l = 1) := by
            show _ = _
            unfold writeE
            rw [HL.out, if_neg hbig, if_neg]
            intro hall
            rw [List.all_eq_true] at hall
            have := hall x HXM.out
            rw [HQ.out] at this; cases this
          clear hq
          go_wp2_with (go_at_call 53; (with_reducible refine (isOrder_is HQ.out).use ?_))
          go_ret2
          refine ⟨?_, hb.out⟩
          unfold writeT
          rw [HW.out]; rfl
        · have HQ := Lib.hid hq
          have hxs : x.size ≤ 30 := by have := (okB_iff.1 hq).2.1; rwa [size_list] at this
          have HWB : Hid (writeB t x = minF (l.take (k + 1))) := by show _ = _; rw [HX.out, ← HTT.out]; exact writeB_min hok.out x
          have HOK2 : Hid (∀ o ∈ l.take (k + 1), okB o.data.toList = true) := by
            intro o ho
            rw [HX.out] at ho
            rcases List.mem_append.1 ho with ho | ho
            · exact hok.out o ho
            · rw [List.mem_singleton.1 ho]; exact HQ.out
          clear hq
          go_wp2_with (first
            | (go_at_call 53; (with_reducible refine (isOrder_is HQ.out).use ?_))
            | (go_at_call 65; refine (written_calls t x _ (by omega) (by omega) (HE.out.below hb.out)).use ?_; intro w2 hb2 hz2 hc2 hf2; clear hc2 hf2; rw [HWB.out]))
          go_roundw
          case rel => exact ⟨k + 1, by omega, by go_num, by show Below _ _ _; exact hb.out.trans (hb2.mono hb.out.size), HOK2.out, rfl⟩
          case measure => simp [intOf]; omega
      · obtain rfl : k = L := by omega
        have HTK : Hid (l.take k = l) := by show _ = _; rw [List.take_of_length_le (by rw [HL.out]; exact Nat.le_refl _)]
        have HW : Hid (writeE l = 0) := by
          show _ = _
          unfold writeE
          rw [HL.out, if_neg hbig, if_pos]
          rw [List.all_eq_true]
          rw [HTK.out] at hok
          exact hok.out
        go_wp2
        go_ret2
        refine ⟨?_, hb.out⟩
        unfold writeT
        rw [HW.out, HTK.out]; rfl
end Go.Proofs.YthooacpfmjpdmaaGreatDoor
