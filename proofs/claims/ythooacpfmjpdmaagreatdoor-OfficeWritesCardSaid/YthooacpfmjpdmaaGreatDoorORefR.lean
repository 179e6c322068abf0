/- The document's Read: it reads what the office reads. Conditions: the text is not very long. -/
import Derived.Test.YthooacpfmjpdmaaGreatDoorORef
namespace Go.Proofs.YthooacpfmjpdmaaGreatDoor
open Go.RowKit
theorem get_drop {t : ByteArray} {p j : Nat} (h : j < t.size) (hp : p ≤ j) : (t.data.toList.drop p)[j - p]? = some (t[j]'h) := by
  rw [List.getElem?_drop, show p + (j - p) = j by omega, List.getElem?_eq_getElem (by rw [size_list]; exact h), get_list h]
theorem scan_no {t : ByteArray} {p : Nat} {c : UInt8} {a r : List UInt8} (h : t.data.toList.drop p = a ++ r) (hc : c ∉ a) : ∀ j (hj : j < t.size), p ≤ j → j < p + a.length → (t[j]'hj).toNat ≠ c.toNat := by
  intro j hj h1 h2 e
  have := get_drop hj h1
  rw [h, List.getElem?_append_left (by omega)] at this
  exact hc (UInt8.toNat.inj e ▸ List.mem_of_getElem? this)
theorem scan_yes {t : ByteArray} {p : Nat} {c : UInt8} {a r : List UInt8} (h : t.data.toList.drop p = a ++ c :: r) : ∀ hj : p + a.length < t.size, (t[p + a.length]'hj).toNat = c.toNat := by
  intro hj
  have := get_drop hj (Nat.le_add_right _ _)
  rw [h, List.getElem?_append_right (by omega), show p + a.length - p - a.length = 0 by omega] at this
  simp at this
  rw [← this]
theorem ext_data (t : ByteArray) (i j : Nat) : (t.extract i j).data.toList = (t.data.toList.drop i).take (j - i) := by
  rw [ByteArray.data_extract, Array.toList_extract]
/-- What the document's two small loops find, and what it means. -/
structure Scan (t : ByteArray) (p s k E B : Nat) : Prop where
  pB : p ≤ B
  BE : B ≤ E
  En : E ≤ t.size
  n10 : ∀ j (h : j < t.size), p ≤ j → j < E → (t[j]'h).toNat ≠ 10
  y10 : ∀ h : E < t.size, (t[E]'h).toNat = 10
  n32 : ∀ j (h : j < t.size), p ≤ j → j < B → (t[j]'h).toNat ≠ 32
  y32 : B < E → ∀ h : B < t.size, (t[B]'h).toNat = 32
  s1 : E = t.size → readF k s (t.data.toList.drop p) = ([], t.data.toList.drop p)
  s2 : B = E → readF k s (t.data.toList.drop p) = ([], t.data.toList.drop p)
  s3 : E < t.size → B < E → okB (t.extract (B + 1) E).data.toList = false → readF k s (t.data.toList.drop p) = ([], t.data.toList.drop p)
  s4 : E < t.size → B < E → mkB (Lib.itoa (sumF s (t.extract (B + 1) E).data.toList : Nat)) ≠ t.extract p B → readF k s (t.data.toList.drop p) = ([], t.data.toList.drop p)
  nx : E < t.size → B < E → mkB (Lib.itoa (sumF s (t.extract (B + 1) E).data.toList : Nat)) = t.extract p B → t.data.toList.drop p = lineF s (t.extract (B + 1) E).data.toList ++ t.data.toList.drop (E + 1)
theorem scan_of (t : ByteArray) (p s k : Nat) (hp : p ≤ t.size) : ∃ E B, Scan t p s k E B := by
  have hlen : (t.data.toList.drop p).length = t.size - p := by rw [List.length_drop, size_list]
  rcases part_at 10 (t.data.toList.drop p) with hA | ⟨a, r, hM, hA⟩
  · have stop : readF k s (t.data.toList.drop p) = ([], t.data.toList.drop p) := no_line1 (by rw [cut_no hA]) k
    rcases part_at 32 (t.data.toList.drop p) with hB | ⟨n, q, hN, hB⟩
    · exact ⟨t.size, t.size, { pB := hp, BE := Nat.le_refl _, En := Nat.le_refl _, n10 := fun j h h1 _ => scan_no (c := 10) (List.append_nil _).symm hA j h h1 (by omega), y10 := fun h => absurd h (by omega), n32 := fun j h h1 _ => scan_no (c := 32) (List.append_nil _).symm hB j h h1 (by omega), y32 := fun h => absurd h (by omega), s1 := fun _ => stop, s2 := fun _ => stop, s3 := fun _ _ _ => stop, s4 := fun _ _ _ => stop, nx := fun h => absurd h (by omega) }⟩
    · have hl : n.length < t.size - p := by rw [← hlen, hN]; simp
      exact ⟨t.size, p + n.length, { pB := by omega, BE := by omega, En := Nat.le_refl _, n10 := fun j h h1 _ => scan_no (c := 10) (List.append_nil _).symm hA j h h1 (by omega), y10 := fun h => absurd h (by omega), n32 := fun j h h1 h2 => scan_no (c := 32) hN hB j h h1 h2, y32 := fun _ h => scan_yes (c := 32) hN h, s1 := fun _ => stop, s2 := fun _ => stop, s3 := fun _ _ _ => stop, s4 := fun _ _ _ => stop, nx := fun h => absurd h (by omega) }⟩
  · have hl : p + a.length < t.size := by
      have := hlen; rw [hM] at this; simp at this; omega
    rcases part_at 32 a with hB | ⟨n, q, rfl, hB⟩
    · have stop : readF k s (t.data.toList.drop p) = ([], t.data.toList.drop p) := no_line2 (by rw [hM, cut_yes hA, cut_no hB]) k
      exact ⟨p + a.length, p + a.length, { pB := by omega, BE := Nat.le_refl _, En := by omega, n10 := fun j h h1 h2 => scan_no (c := 10) hM hA j h h1 h2, y10 := fun h => scan_yes (c := 10) hM h, n32 := fun j h h1 h2 => scan_no (c := 32) hM hB j h h1 h2, y32 := fun h => absurd h (by omega), s1 := fun h => absurd h (by omega), s2 := fun _ => stop, s3 := fun _ h => absurd h (by omega), s4 := fun _ h => absurd h (by omega), nx := fun _ h => absurd h (by omega) }⟩
    · have hN : t.data.toList.drop p = n ++ 32 :: (q ++ 10 :: r) := by rw [hM]; simp
      have ho : (t.extract (p + n.length + 1) (p + (n ++ 32 :: q).length)).data.toList = q := by
        rw [ext_data, show p + n.length + 1 = p + (n.length + 1) by omega, ← List.drop_drop, hN, show p + (n ++ 32 :: q).length - (p + (n.length + 1)) = q.length by simp; omega]
        rw [List.drop_append, List.drop_of_length_le (by omega), show n.length + 1 - n.length = 1 by omega]
        simp
      have hn : (t.extract p (p + n.length)).data.toList = n := by
        rw [ext_data, hN, show p + n.length - p = n.length by omega]; simp
      have hr : t.data.toList.drop (p + (n ++ 32 :: q).length + 1) = r := by
        rw [show p + (n ++ 32 :: q).length + 1 = p + ((n ++ 32 :: q).length + 1) by omega, ← List.drop_drop, hM, List.drop_append, List.drop_of_length_le (by omega), show (n ++ 32 :: q).length + 1 - (n ++ 32 :: q).length = 1 by omega]
        simp
      have c1 := cut_yes (b := r) hA
      have c2 := cut_yes (b := q) hB
      refine ⟨p + (n ++ 32 :: q).length, p + n.length, { pB := by omega, BE := by simp, En := by omega, n10 := fun j h h1 h2 => scan_no (c := 10) hM hA j h h1 h2, y10 := fun h => scan_yes (c := 10) hM h, n32 := fun j h h1 h2 => scan_no (c := 32) hN hB j h h1 h2, y32 := fun _ h => scan_yes (c := 32) hN h, s1 := fun h => absurd h (by omega), s2 := fun h => absurd h (by simp), s3 := fun _ _ h => ?_, s4 := fun _ _ h => ?_, nx := fun _ _ h => ?_ }⟩
      · rw [ho] at h
        exact no_line3 (by rw [hM, c1, c2]; exact h) k
      · rw [ho] at h
        refine no_line4 (fun e => h ?_) k
        rw [hM, c1, c2] at e
        apply bytes_ext
        rw [hn, mkB_data]; exact e
      · rw [ho] at h
        rw [ho, hr, hM, lineF_eq]
        have : Lib.itoa (sumF s q : Nat) = n := by rw [← hn, ← h]; rfl
        rw [this]
theorem rest_eq {t : ByteArray} {p : Nat} : t.extract p t.size = mkB (t.data.toList.drop p) := by
  apply bytes_ext
  rw [ext_data, mkB_data, List.take_of_length_le (by rw [List.length_drop, size_list]; exact Nat.le_refl _)]
theorem ReadEnd.rest {t : ByteArray} {p : Nat} {acc : List ByteArray} (h : ReadEnd t acc (mkB (t.data.toList.drop p))) : ReadEnd t acc (t.extract p t.size) := rest_eq ▸ h
set_option maxRecDepth 100000 in
set_option maxHeartbeats 4000000 in
theorem rRead_calls (t : ByteArray) (w : World) (hs : t.size ≤ 100000) : Calls Tryz.prog 38 #[.string t] w (ReadR t w) := by
  obtain ⟨i0, hi0, hz0, hi1, hi2⟩ := info_parts infoStr
  go_enter Tryz.func38, Tryz.ntmps38
  go_wp2
  go_loopw [4, 5, 6, 7, 8, 9] (fun v p b _ _ _ wr => ∃ (k p0 : Nat) (s : Nat) (va : Option Addr) (vc : Nat), k ≤ 80 ∧ p0 ≤ t.size ∧ p = .int .i64 p0 ∧ v = .slice va k vc ∧ b = .int .i64 s ∧ s < 1000003 ∧ Hid (Below w.heap.size w wr) ∧ ∃ acc : List ByteArray, Hid (acc.length = k) ∧ Hid (ReadAt t k acc s (mkB (t.data.toList.drop p0))) ∧ Hid (wr.ownsRow w.heap.size 9 1 (.slice va k vc) k (cellsS acc))) (fun v _ _ _ _ _ _ => 80 - sliceLen v)
  case atStart => exact ⟨0, 0, 0, none, 0, by omega, by omega, rfl, rfl, rfl, by omega, by show Below _ _ _; (repeat' (first | exact Below.refl _ _ | assumption | refine below_new ?_ _ | refine below_draw ?_ | refine below_tail (by assumption) ?_ | refine below_set ?_ (by first | omega | (simp <;> omega)) _)), [], rfl, by show readF 80 0 _ = _; simp [mkB_data], World.ownsRow_nil _ _ _ _⟩
  case round =>
    obtain ⟨k, p, s, va, vc, hk, hp, rfl, rfl, rfl, hss, hb, acc, hacc, hat, how⟩ := hrel
    by_cases hlt : k < 80
    · obtain ⟨E, B, hsc⟩ := scan_of t p s (80 - k) hp
      have HSC := Lib.hid hsc
      obtain ⟨hpB, hBE, hEn⟩ : p ≤ B ∧ B ≤ E ∧ E ≤ t.size := ⟨hsc.pB, hsc.BE, hsc.En⟩
      clear hsc
      have klt : decide ((k : Int) < 80) = true := decide_eq_true (by omega)
      go_wp2
      go_loop [7] (fun i => ∃ e : Nat, p ≤ e ∧ e ≤ E ∧ i = .int .i64 e) (fun i => E - (intOf i).toNat)
      case atStart => exact ⟨p, Nat.le_refl _, by omega, rfl⟩
      case round =>
        obtain ⟨e, he1, he2, rfl⟩ := hrel
        have hwe : IntKind.i64.wrap ((e : Int) + 1) = (e : Int) + 1 := IntWalk.i64_in _ (by omega)
        by_cases heE : e = E
        · subst heE
          by_cases hEn2 : e = t.size
          · have kle : decide ((e : Int) < (t.size : Int)) = false := decide_eq_false (by omega)
            have kl2 : ((e : Int) == (t.size : Int)) = true := by simp; omega
            have hstop := HSC.out.s1 hEn2
            go_wp2
            go_loop [8] (fun i => ∃ e : Nat, p ≤ e ∧ e ≤ B ∧ i = .int .i64 e) (fun i => B - (intOf i).toNat)
            case atStart => exact ⟨p, Nat.le_refl _, hpB, rfl⟩
            case round =>
              obtain ⟨f, hf1, hf2, rfl⟩ := hrel
              have hwf : IntKind.i64.wrap ((f : Int) + 1) = (f : Int) + 1 := IntWalk.i64_in _ (by omega)
              by_cases hfB : f = B
              · subst hfB
                by_cases hBE2 : f = e
                · have kbe : decide ((f : Int) < (e : Int)) = false := decide_eq_false (by omega)
                  have kb2 : ((f : Int) == (e : Int)) = true := by simp; omega
                  have HEND : Hid (ReadEnd t acc (mkB (t.data.toList.drop p))) := hat.out.stop (hstop)
                  go_wp2
                  refine region_q mixed (by kernel_rfl) ?_
                  repeat (go_big_quiet_step (fail))
                  refine wpQuiet_nil ?_
                  intro wz hbz
                  go_wp2
                  go_ret2
                  exact ReadR.mk HEND.out.rest hacc.out how.out hb.out (by (repeat' (first | exact Below.refl _ _ | assumption | refine below_new ?_ _ | refine below_draw ?_ | refine below_tail (by assumption) ?_ | refine below_set ?_ (by first | omega | (simp <;> omega)) _)))
                · have kbe : decide ((f : Int) < (e : Int)) = true := decide_eq_true (by omega)
                  have kb2 : ((f : Int) == (e : Int)) = false := by simp; omega
                  have hft : f < t.size := by omega
                  have hfe : f < e := by omega
                  have hcf : (t[f]'hft).toNat = 32 := HSC.out.y32 (by omega) hft
                  have HEND : Hid (ReadEnd t acc (mkB (t.data.toList.drop p))) := hat.out.stop (hstop)
                  go_wp2
                  refine region_q mixed (by kernel_rfl) ?_
                  repeat (go_big_quiet_step (fail))
                  refine wpQuiet_nil ?_
                  intro wz hbz
                  go_wp2
                  go_ret2
                  exact ReadR.mk HEND.out.rest hacc.out how.out hb.out (by (repeat' (first | exact Below.refl _ _ | assumption | refine below_new ?_ _ | refine below_draw ?_ | refine below_tail (by assumption) ?_ | refine below_set ?_ (by first | omega | (simp <;> omega)) _)))
              · have hft : f < t.size := by omega
                have kbe : decide ((f : Int) < (e : Int)) = true := decide_eq_true (by omega)
                obtain ⟨c, hce⟩ : ∃ c, (t[f]'hft).toNat = c := ⟨_, rfl⟩
                have k32 : ((c : Int) != 32) = true := by have := HSC.out.n32 f hft hf1 (by omega); simp; omega
                go_wp2
                go_round
                case rel => exact ⟨f + 1, by omega, by omega, by go_num⟩
                case measure => simp [intOf]; omega
          · have het : e < t.size := by omega
            have kle : decide ((e : Int) < (t.size : Int)) = true := decide_eq_true (by omega)
            have kl2 : ((e : Int) == (t.size : Int)) = false := by simp; omega
            have hce : (t[e]'het).toNat = 10 := HSC.out.y10 het
            go_wp2
            go_loop [8] (fun i => ∃ e : Nat, p ≤ e ∧ e ≤ B ∧ i = .int .i64 e) (fun i => B - (intOf i).toNat)
            case atStart => exact ⟨p, Nat.le_refl _, hpB, rfl⟩
            case round =>
              obtain ⟨f, hf1, hf2, rfl⟩ := hrel
              have hwf : IntKind.i64.wrap ((f : Int) + 1) = (f : Int) + 1 := IntWalk.i64_in _ (by omega)
              by_cases hfB : f = B
              · subst hfB
                by_cases hBE2 : f = e
                · have kbe : decide ((f : Int) < (e : Int)) = false := decide_eq_false (by omega)
                  have kb2 : ((f : Int) == (e : Int)) = true := by simp; omega
                  have HEND : Hid (ReadEnd t acc (mkB (t.data.toList.drop p))) := hat.out.stop (HSC.out.s2 hBE2)
                  go_wp2
                  refine region_q mixed (by kernel_rfl) ?_
                  repeat (go_big_quiet_step (fail))
                  refine wpQuiet_nil ?_
                  intro wz hbz
                  go_wp2
                  go_ret2
                  exact ReadR.mk HEND.out.rest hacc.out how.out hb.out (by (repeat' (first | exact Below.refl _ _ | assumption | refine below_new ?_ _ | refine below_draw ?_ | refine below_tail (by assumption) ?_ | refine below_set ?_ (by first | omega | (simp <;> omega)) _)))
                · have kbe : decide ((f : Int) < (e : Int)) = true := decide_eq_true (by omega)
                  have kb2 : ((f : Int) == (e : Int)) = false := by simp; omega
                  have hft : f < t.size := by omega
                  have hfe : f < e := by omega
                  have hcf : (t[f]'hft).toNat = 32 := HSC.out.y32 (by omega) hft
                  obtain ⟨ord, hord⟩ : ∃ x, t.extract (f + 1) e = x := ⟨_, rfl⟩
                  obtain ⟨num, hnum⟩ : ∃ x, t.extract p f = x := ⟨_, rfl⟩
                  have hs3 := HSC.out.s3 (by omega) (by omega)
                  have hs4 := HSC.out.s4 (by omega) (by omega)
                  have hnx := HSC.out.nx (by omega) (by omega)
                  rw [hord] at hs3 hs4 hnx
                  rw [hnum] at hs4 hnx
                  have hos : ord.size ≤ 1000000 := by rw [← hord, ByteArray.size_extract]; omega
                  obtain ⟨n, hn⟩ : ∃ n, sumF s ord.data.toList = n := ⟨_, rfl⟩
                  have hn1 : n < 1000003 := by rw [← hn]; exact sumF_lt _ _
                  have hn7 : n < 10000000 := by omega
                  obtain ⟨d, hd⟩ : ∃ d, mkB (Lib.itoa (n : Nat)) = d := ⟨_, rfl⟩
                  obtain ⟨b3, hb3_⟩ : ∃ x, okB ord.data.toList = x := ⟨_, rfl⟩
                  rw [hn, hd] at hs4 hnx
                  rw [hb3_] at hs3
                  have HSU : Hid (∀ W, Gives Tryz.prog 28 #[.int .i64 s, .string ord] W (.int .i64 n)) := fun W => rSum_is hos hn
                  have HQ := Lib.hid hb3_
                  have HDD := Lib.hid hd
                  have HNN := Lib.hid hn
                  have HS3 := Lib.hid hs3
                  have HS4 := Lib.hid hs4
                  have HNX := Lib.hid hnx
                  have hwb : IntKind.i64.wrap ((e : Int) + 1) = (e : Int) + 1 := IntWalk.i64_in _ (by omega)
                  clear hs3 hs4 hnx hn hd hb3_
                  cases b3
                  · have HEND : Hid (ReadEnd t acc (mkB (t.data.toList.drop p))) := hat.out.stop (HS3.out rfl)
                    go_wp2
                    refine region_q mixed (by kernel_rfl) ?_
                    repeat (go_big_quiet_step ((first | (go_at_call 69; exact Gives.regrown (plain_is hos HQ.out)) | (go_at_call 28; exact Gives.regrown (HSU.out _)) | (go_at_call 70; exact Gives.regrown (Digits_is hn7 HDD.out)))))
                    refine wpQuiet_nil ?_
                    intro wy hby
                    go_wp2
                    refine region_q mixed (by kernel_rfl) ?_
                    repeat (go_big_quiet_step (fail))
                    refine wpQuiet_nil ?_
                    intro wz hbz
                    go_wp2
                    go_ret2
                    exact ReadR.mk HEND.out.rest hacc.out how.out hb.out (by (repeat' (first | exact Below.refl _ _ | assumption | refine below_new ?_ _ | refine below_draw ?_ | refine below_tail (by assumption) ?_ | refine below_set ?_ (by first | omega | (simp <;> omega)) _)))
                  · by_cases hdn : d = num
                    · have HL := Lib.hid (HNX.out hdn)
                      subst hdn
                      go_wp2
                      refine region_q mixed (by kernel_rfl) ?_
                      repeat (go_big_quiet_step ((first | (go_at_call 69; exact Gives.regrown (plain_is hos HQ.out)) | (go_at_call 28; exact Gives.regrown (HSU.out _)) | (go_at_call 70; exact Gives.regrown (Digits_is hn7 HDD.out)))))
                      refine wpQuiet_nil ?_
                      intro wy hby
                      have HBY := Lib.hid hby
                      go_wp2_with (first | (go_at_call 28; refine (HSU.out _).use ?_; intro w3 hb3 hz3 hc3 hf3; clear hc3 hf3) | (at_builtin; refine wpList_append_own _ rfl _ _ 28 rfl w.heap.size 9 i0 (.string ⟨#[]⟩) 1 16 Tryz.underlying28 hi0 hz0 hi1 hi2 rfl (by decide) _ _ _ rfl ((own_below how.out (hby.trans (hb3.mono hby.size))).alloc _) ⟨w3.heap.size, 0, none⟩ 1 1 [.string ord] rfl rfl (app_src1 _ _ _) (one_str _) (by unfold maxLen; omega) (by omega) (by have := (hb.out.trans ((hby.trans (hb3.mono hby.size)).mono hb.out.size)).size; simp; omega) ?_; intro v' w5 hown4 hgrow _))
                      obtain ⟨va', vc', rfl⟩ := own_slice hown4
                      go_roundw
                      case rel => exact ⟨k + 1, e + 1, n, va', vc', by omega, by omega, by go_num, rfl, rfl, hn1, below_app (hb.out.trans ((hby.trans (hb3.mono hby.size)).mono hb.out.size)) (Nat.le_refl _) hgrow (fun j hj => (how.out.lt j hj).1), acc ++ [ord], by unfold Hid; rw [List.length_append, hacc.out]; rfl, by show ReadAt _ _ _ _ _; rw [← HNN.out]; exact hat.out.next hlt HQ.out (by rw [mkB_data, mkB_data]; exact HL.out), by unfold Hid; rw [cellsS_append]; exact hown4⟩
                      case measure => simp [sliceLen]; omega
                    · have HEND : Hid (ReadEnd t acc (mkB (t.data.toList.drop p))) := hat.out.stop (HS4.out hdn)
                      have hdn1 : (d.toList == num.toList) = false := beq_eq_false_iff_ne.2 (fun e => hdn (list_inj e))
                      clear hdn
                      go_wp2
                      refine region_q mixed (by kernel_rfl) ?_
                      repeat (go_big_quiet_step ((first | (go_at_call 69; exact Gives.regrown (plain_is hos HQ.out)) | (go_at_call 28; exact Gives.regrown (HSU.out _)) | (go_at_call 70; exact Gives.regrown (Digits_is hn7 HDD.out)))))
                      refine wpQuiet_nil ?_
                      intro wy hby
                      go_wp2
                      refine region_q mixed (by kernel_rfl) ?_
                      repeat (go_big_quiet_step (fail))
                      refine wpQuiet_nil ?_
                      intro wz hbz
                      go_wp2
                      go_ret2
                      exact ReadR.mk HEND.out.rest hacc.out how.out hb.out (by (repeat' (first | exact Below.refl _ _ | assumption | refine below_new ?_ _ | refine below_draw ?_ | refine below_tail (by assumption) ?_ | refine below_set ?_ (by first | omega | (simp <;> omega)) _)))
              · have hft : f < t.size := by omega
                have kbe : decide ((f : Int) < (e : Int)) = true := decide_eq_true (by omega)
                obtain ⟨c, hce⟩ : ∃ c, (t[f]'hft).toNat = c := ⟨_, rfl⟩
                have k32 : ((c : Int) != 32) = true := by have := HSC.out.n32 f hft hf1 (by omega); simp; omega
                go_wp2
                go_round
                case rel => exact ⟨f + 1, by omega, by omega, by go_num⟩
                case measure => simp [intOf]; omega
        · have het : e < t.size := by omega
          have kle : decide ((e : Int) < (t.size : Int)) = true := decide_eq_true (by omega)
          obtain ⟨c, hce⟩ : ∃ c, (t[e]'het).toNat = c := ⟨_, rfl⟩
          have k10 : ((c : Int) != 10) = true := by have := HSC.out.n10 e het he1 (by omega); simp; omega
          go_wp2
          go_round
          case rel => exact ⟨e + 1, by omega, by omega, by go_num⟩
          case measure => simp [intOf]; omega
    · obtain rfl : k = 80 := by omega
      have HEND : Hid (ReadEnd t acc (mkB (t.data.toList.drop p))) := hat.out.stop (readF_zero _ _)
      go_wp2
      refine region_q mixed (by kernel_rfl) ?_
      repeat (go_big_quiet_step (fail))
      refine wpQuiet_nil ?_
      intro wz hbz
      go_wp2
      go_ret2
      exact ReadR.mk HEND.out.rest hacc.out how.out hb.out (by (repeat' (first | exact Below.refl _ _ | assumption | refine below_new ?_ _ | refine below_draw ?_ | refine below_tail (by assumption) ?_ | refine below_set ?_ (by first | omega | (simp <;> omega)) _)))
end Go.Proofs.YthooacpfmjpdmaaGreatDoor
