/- The minutes of package office: the last line, one more line, which texts are orders. Conditions: the library's variables read as they were laid. -/
import Derived.Test.YthooacpfmjpdmaaGreatDoorOOff
namespace Go.Proofs.YthooacpfmjpdmaaGreatDoor
open Go.RowKit

def nl : ByteArray := ⟨#[10]⟩
def mkB (l : List UInt8) : ByteArray := ⟨l.toArray⟩
theorem mkB_data (l : List UInt8) : (mkB l).data.toList = l := rfl
theorem mkB_eq (s : ByteArray) : mkB s.data.toList = s := Lib.mk_data s
theorem mkB_size (l : List UInt8) : (mkB l).size = l.length := by rw [← size_list]; rfl
theorem bytes_ext {a b : ByteArray} (h : a.data.toList = b.data.toList) : a = b := ByteArray.ext (Array.toList_inj.1 h)
theorem last_piece (s : ByteArray) : (gi (Lib.splitB nl 0 (Lib.countB s nl) s) default (Lib.countB s nl)).data.toList = (Lib.splitK [10] 0 (Lib.count s.data.toList [10]) s.data.toList).getLast?.getD [] := by
  have hlen := Lib.splitB_all nl (by decide) 0 _ s rfl
  have e := Lib.splitB_data nl 0 (Lib.countB s nl) s
  have e' : (Lib.splitB nl 0 (Lib.countB s nl) s).map (·.data.toList) = Lib.splitK [10] 0 (Lib.count s.data.toList [10]) s.data.toList := e
  rw [← e', List.getLast?_map, List.getLast?_eq_getElem?, hlen, Nat.add_sub_cancel]
  obtain ⟨x, hx⟩ : ∃ x, (Lib.splitB nl 0 (Lib.countB s nl) s)[Lib.countB s nl]? = some x := ⟨_, List.getElem?_eq_getElem (by rw [hlen]; omega)⟩
  unfold gi
  rw [hx]; rfl
theorem piece_size (s : ByteArray) : (gi (Lib.splitB nl 0 (Lib.countB s nl) s) default (Lib.countB s nl)).size ≤ s.size := by
  have hlen := Lib.splitB_all nl (by decide) 0 _ s rfl
  rw [gi_lt (by rw [hlen]; omega)]
  exact splitB_size nl _ s _ (List.getElem_mem _)
theorem cut_size (s p : List UInt8) : (Lib.cut s p).1.length ≤ s.length ∧ (Lib.cut s p).2.1.length ≤ s.length := by
  unfold Lib.cut
  split
  · simp only [List.length_take, List.length_drop]; omega
  · simp
theorem trim_size (s p : List UInt8) : (Lib.trimSuffix s p).length ≤ s.length := by
  unfold Lib.trimSuffix
  split
  · simp only [List.length_take]; omega
  · exact Nat.le_refl _
theorem atoi_any {s : ByteArray} {w : World} (hs : s.size ≤ 1000000) (he : Env w) :
    Calls Tryz.prog 49 #[.string s] w fun e w' => ∃ x, e = .returned (.tuple #[.int .i64 (atoiN s), x]) ∧ Below w.heap.size w w' := by
  cases h : atoiE s with
  | none =>
    refine (atoi_bad hs h he).mono ?_
    rintro e w' ⟨N, rfl, hb⟩
    exact ⟨_, rfl, hb⟩
  | some v =>
    refine (atoi_ok hs h).mono ?_
    rintro e w' ⟨rfl, hb⟩
    refine ⟨.nilIface, ?_, hb⟩
    have : atoiN s = v := by
      unfold atoiE at h
      unfold atoiN
      split at h
      · rename_i u hu
        injection h with h
        subst h
        rw [hu]
      · cases h
    rw [this]
set_option maxRecDepth 100000 in
set_option maxHeartbeats 1000000 in
theorem last_calls (t : ByteArray) (w : World) (ht : t.size ≤ 1000000) (he : Env w) : Gives Tryz.prog 98 #[.string t] w (.int .i64 (lastN t.data.toList)) := by
  have HE := Lib.hid he
  obtain ⟨t1, ht1⟩ : ∃ t1, mkB (Lib.trimSuffix t.data.toList [10]) = t1 := ⟨_, rfl⟩
  have hs1 : t1.size ≤ 1000000 := by
    have := trim_size t.data.toList [10]
    rw [← ht1, mkB_size]; rw [size_list] at this; omega
  obtain ⟨k, hk⟩ : ∃ k, Lib.countB t1 nl = k := ⟨_, rfl⟩
  obtain ⟨x, hx⟩ : ∃ x, gi (Lib.splitB nl 0 k t1) default k = x := ⟨_, rfl⟩
  have hs2 : x.size ≤ 1000000 := by have := piece_size t1; rw [hk, hx] at this; omega
  obtain ⟨c, hc⟩ : ∃ c, mkB (Lib.cut x.data.toList [32]).1 = c := ⟨_, rfl⟩
  have hs3 : c.size ≤ 1000000 := by have := (cut_size x.data.toList [32]).1; rw [← hc, mkB_size]; rw [size_list] at this; omega
  obtain ⟨n, hn⟩ : ∃ n, atoiN c = n := ⟨_, rfl⟩
  have hk2 : k ≤ 1000000 := by have := Lib.countB_le nl (by decide) _ t1 (Nat.le_refl _); omega
  have HN : Hid (lastN t.data.toList = n) := by
    show lastN _ = _
    have e1 : lastF t.data.toList = c.data.toList := by
      rw [← hc, mkB_data, ← hx, ← hk, last_piece, ← ht1]; rfl
    unfold lastN
    rw [e1, ← hn]; rfl
  have HT : Hid (Same Tryz.prog 128 #[.string t, .string nl] w (.string t1)) := by rw [← ht1]; exact trim_calls t nl w ht
  have HSP : Hid (∀ W, Env W → Calls Tryz.prog 92 #[.string t1, .string nl] W fun e w' => e = .returned (.slice (some ⟨W.heap.size, 0, none⟩) (k + 1) (k + 1)) ∧ w' = W.alloc (.cells ((Lib.splitB nl 0 k t1).map Value.string).toArray 9)) := by
    intro W hW
    rw [← hk]
    exact split_calls t1 nl W hs1 (by decide) hW
  have HX : Hid (∀ W : World, (W.alloc (.cells ((Lib.splitB nl 0 k t1).map Value.string).toArray 9)).cell? ⟨W.heap.size, k, none⟩ = some (.string x)) := by
    intro W
    have hlen := Lib.splitB_all nl (by decide) 0 _ t1 hk
    rw [cell_of_block (alloc_new W _ rfl) k, ← hx, gi_lt (by rw [hlen]; omega)]
    simp [hlen]
  have HCU : Hid (∀ W, Env W → Gives Tryz.prog 52 #[.string x, .string blank] W (.tuple #[.string c, .string ⟨(Lib.cut x.data.toList [32]).2.1.toArray⟩, .bool (Lib.cut x.data.toList [32]).2.2])) := by
    intro W hW
    rw [← hc]
    exact cut_calls x blank W hs2 hW
  have HA : Hid (∀ W, Env W → Calls Tryz.prog 49 #[.string c] W fun e w' => ∃ x, e = .returned (.tuple #[.int .i64 n, x]) ∧ Below W.heap.size W w') := by
    intro W hW
    rw [← hn]
    exact atoi_any hs3 hW
  clear ht1 hk hx hc hn he
  unfold Gives
  have hw1 : IntKind.i64.wrap ((k : Int) + 1 - 1) = (k : Int) := by rw [show (k : Int) + 1 - 1 = k by omega]; exact IntWalk.i64_in _ (by omega)
  go_enter Tryz.func98, Tryz.ntmps98
  go_wp2_with (first
    | (go_at_call 128; refine HT.out.use ?_)
    | (go_at_call 92; refine (HSP.out _ HE.out).mono ?_; rintro e w' ⟨rfl, rfl⟩; have hX := HX.out w)
    | (go_at_call 52; refine (HCU.out _ (HE.out.below (by (repeat' (first | exact Below.refl _ _ | assumption | refine below_new ?_ _ | refine below_draw ?_ | refine below_tail (by assumption) ?_ | refine below_set ?_ (by first | omega | (simp <;> omega)) _))))).use ?_; intro w2 hb2 hz2 hc2 hf2; clear hc2 hf2)
    | (go_at_call 49; refine (HA.out _ (HE.out.below (by (repeat' (first | exact Below.refl _ _ | assumption | refine below_new ?_ _ | refine below_draw ?_ | refine below_tail (by assumption) ?_ | refine below_set ?_ (by first | omega | (simp <;> omega)) _))))).mono ?_; rintro e w3 ⟨y, rfl, hb3⟩))
  go_ret
  exact ⟨ret_int HN.out.symm, by (repeat' (first | exact Below.refl _ _ | assumption | refine below_new ?_ _ | refine below_draw ?_ | refine below_tail (by assumption) ?_ | refine below_set ?_ (by first | omega | (simp <;> omega)) _))⟩
theorem contains_is {s : ByteArray} {b : Bool} {w : World} (h : decide (10 ∈ s.data.toList) = b) : Same Tryz.prog 86 #[.string s, .string ⟨#[10]⟩] w (.bool b) := by
  have := contains_calls s 10 w
  rw [indexByte_mem, h] at this
  exact this
set_option maxHeartbeats 1000000 in
theorem isOrder_calls (s : ByteArray) (w : World) : Same Tryz.prog 53 #[.string s] w (.bool (okB s.data.toList)) := by
  unfold Same
  by_cases h1 : 1 ≤ s.size
  · by_cases h2 : s.size ≤ 30
    · obtain ⟨b, hb⟩ : ∃ b, decide (10 ∈ s.data.toList) = b := ⟨_, rfl⟩
      have H : Hid (okB s.data.toList = !b) := by
        show _ = _
        unfold okB; rw [size_list, decide_eq_true h1, decide_eq_true h2, hb]; rfl
      have HC := Lib.hid (fun w => contains_is (w := w) hb)
      have k1 : decide ((1 : Int) ≤ (s.size : Int)) = true := decide_eq_true (by omega)
      have k2 : decide ((s.size : Int) ≤ 30) = true := decide_eq_true (by omega)
      have k1' : (1 : Int) ≤ (s.size : Int) := by omega
      have k2' : (s.size : Int) ≤ 30 := by omega
      clear h1 h2 hb
      go_enter Tryz.func53, Tryz.ntmps53
      go_wp2_with (go_at_call 86; (with_reducible refine (HC.out _).use ?_))
      go_ret
      exact ⟨ret_bool H.out.symm, rfl⟩
    · have H : Hid (okB s.data.toList = false) := by
        show _ = _
        unfold okB; rw [size_list, decide_eq_false h2]; simp
      have k1 : decide ((1 : Int) ≤ (s.size : Int)) = true := decide_eq_true (by omega)
      have k2 : decide ((s.size : Int) ≤ 30) = false := decide_eq_false (by omega)
      have k1' : (1 : Int) ≤ (s.size : Int) := by omega
      have k2' : ¬ (s.size : Int) ≤ 30 := by omega
      clear h1 h2
      go_enter Tryz.func53, Tryz.ntmps53
      go_wp2
      go_ret
      exact ⟨ret_bool H.out.symm, rfl⟩
  · have H : Hid (okB s.data.toList = false) := by
      show _ = _
      unfold okB; rw [size_list, decide_eq_false h1]; simp
    have k1 : decide ((1 : Int) ≤ (s.size : Int)) = false := decide_eq_false (by omega)
    have k1' : ¬ (1 : Int) ≤ (s.size : Int) := by omega
    clear h1
    go_enter Tryz.func53, Tryz.ntmps53
    go_wp2
    go_ret
    exact ⟨ret_bool H.out.symm, rfl⟩
theorem isOrder_is {s : ByteArray} {b : Bool} {w : World} (h : okB s.data.toList = b) : Same Tryz.prog 53 #[.string s] w (.bool b) := h ▸ isOrder_calls s w
theorem itoa_len {k : Nat} (h : k < 10000000) : (Lib.itoa (k : Int)).length ≤ 7 := by
  rw [itoa_nat, Lib.decDigits_length]
  have s1 : ∀ n, n < 10 → Lib.nDigits n ≤ 1 := fun n hn => by rw [Lib.nDigits_small hn]; omega
  have st : ∀ k m, (∀ n, n < m → Lib.nDigits n ≤ k) → ∀ n, n < m * 10 → Lib.nDigits n ≤ k + 1 := by
    intro k m hk n hn
    by_cases h : n < 10
    · rw [Lib.nDigits_small h]; omega
    · rw [Lib.nDigits_big h]; have := hk (n / 10) (by omega); omega
  exact st 6 1000000 (st 5 100000 (st 4 10000 (st 3 1000 (st 2 100 (st 1 10 s1))))) k (by omega)
/-- Minutes with one more line. -/
def writeB (t o : ByteArray) : ByteArray := mkB (t.data.toList ++ (Lib.itoa (sumF (lastN t.data.toList) o.data.toList : Nat) ++ 32 :: (o.data.toList ++ [10])))
theorem writeB_min {l : List ByteArray} (h : ∀ o ∈ l, okB o.data.toList = true) (o : ByteArray) : writeB (minF l) o = minF (l ++ [o]) := by
  unfold writeB minF
  show mkB (bookF 0 (l.map (·.data.toList)) ++ _) = mkB _
  rw [List.map_append, List.map_cons, List.map_nil, bookF_snoc]
  show mkB (bookF 0 (l.map (·.data.toList)) ++ (Lib.itoa (sumF (lastN (bookF 0 (l.map (·.data.toList)))) o.data.toList : Nat) ++ _)) = _
  rw [lastN_book]
  · rfl
  · intro x hx
    obtain ⟨y, hy, rfl⟩ := List.mem_map.1 hx
    exact (okB_iff.1 (h y hy)).2.2
set_option maxHeartbeats 1000000 in
theorem written_calls (t o : ByteArray) (w : World) (ht : t.size ≤ 1000000) (ho : o.size ≤ 1000000) (he : Env w) : Gives Tryz.prog 65 #[.string t, .string o] w (.string (writeB t o)) := by
  unfold Gives
  have HE := Lib.hid he
  obtain ⟨n, hn⟩ : ∃ n, lastN t.data.toList = n := ⟨_, rfl⟩
  obtain ⟨k, hk⟩ : ∃ k, sumF n o.data.toList = k := ⟨_, rfl⟩
  obtain ⟨d, hd⟩ : ∃ d, mkB (Lib.itoa (k : Nat)) = d := ⟨_, rfl⟩
  have hk1 : k < 1000003 := by rw [← hk]; exact sumF_lt _ _
  have HL : Hid (Gives Tryz.prog 98 #[.string t] w (.int .i64 n)) := by rw [← hn]; exact last_calls t w ht he
  have HD : Hid (writeB t o = mkB (t.data.toList ++ (d.data.toList ++ 32 :: (o.data.toList ++ [10])))) := by
    show _ = _
    unfold writeB; rw [hn, hk, ← hd]; rfl
  have HK := Lib.hid hk
  have HDD := Lib.hid hd
  have hds : d.size ≤ 7 := by
    rw [← hd, mkB_size]; exact itoa_len (by omega)
  have c1 : ¬ 9223372036854775807 < t.size + d.size := by omega
  have c2 : ¬ 9223372036854775807 < t.size + d.size + 1 := by omega
  have c3 : ¬ 9223372036854775807 < t.size + d.size + 1 + o.size := by omega
  have c4 : ¬ 9223372036854775807 < t.size + d.size + 1 + o.size + 1 := by omega
  clear hn hk hd he
  go_enter Tryz.func65, Tryz.ntmps65
  go_wp2_with (first
    | (go_at_call 98; refine HL.out.use ?_; intro w1 hb1 hz1 hc1 hf1; clear hc1 hf1)
    | (go_at_call 27; refine (Sum_is ho HK.out).use ?_; intro w2 hb2 hz2 hc2 hf2; clear hc2 hf2)
    | (go_at_call 54; refine (itoa_is (by omega) (by omega) (HE.out.below (by (repeat' (first | exact Below.refl _ _ | assumption | refine below_new ?_ _ | refine below_draw ?_ | refine below_tail (by assumption) ?_ | refine below_set ?_ (by first | omega | (simp <;> omega)) _)))) HDD.out).use ?_; intro w3 hb3 hz3 hc3 hf3; clear hc3 hf3))
  go_ret
  refine ⟨?_, by (repeat' (first | exact Below.refl _ _ | assumption | refine below_new ?_ _ | refine below_draw ?_ | refine below_tail (by assumption) ?_ | refine below_set ?_ (by first | omega | (simp <;> omega)) _))⟩
  rw [HD.out]
  have e : t ++ d ++ (⟨#[32]⟩ : ByteArray) ++ o ++ (⟨#[10]⟩ : ByteArray) = mkB (t.data.toList ++ (d.data.toList ++ 32 :: (o.data.toList ++ [10]))) := by
    apply bytes_ext
    simp [mkB]
  exact congrArg (fun x => Ending.returned (Value.string x)) e
end Go.Proofs.YthooacpfmjpdmaaGreatDoor
