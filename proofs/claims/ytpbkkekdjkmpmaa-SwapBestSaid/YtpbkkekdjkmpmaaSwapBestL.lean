/- For all lists the law SwapBest returns true. Conditions: the lists lie in memory as said. -/
import Derived.Test.YtpbkkekdjkmpmaaSwBestM
import Derived.Deep.RegionHeld3
namespace Go.Proofs.Ytpbkkekdjkmpmaa
open Go.RowKit

theorem equal_is {a b : Value} {l m : List Int} {t : Bool} {w : World} (ha : IntsAt w a l) (hb : IntsAt w b m) (ht : decide (l = m) = t) :
    Gives Try.prog 48 #[a, b] w (.bool t) := ht ▸ equal_calls a b l m w ha hb
theorem ip_enters : ∀ args w, (callFunc 47 args).run Try.prog w = .ok (.enter 47 args) w := fun args w => enters_of Try.func47 (by kernel_rfl) rfl args w
set_option maxHeartbeats 2000000 in
theorem ip_calls (u : Value) (l D : List Int) (L : List (List Int)) (B1 B2 : Nat) (a1 a2 : Option Addr) (c1 c2 : Nat) (w : World) (hu : IntsAt w u l) (h : TableAt w (.slice a1 L.length c1) L) (hd : IntsAt w (.slice a2 D.length c2) D)
    (h1 : w.cell? ⟨B1, 0, none⟩ = some (.slice a1 L.length c1)) (h2 : w.cell? ⟨B2, 0, none⟩ = some (.slice a2 D.length c2)) (hv : vB L = true) (hl : ordB l L.length = true) :
    Gives Try.prog 47 #[u, .pointer (some ⟨B1, 0, none⟩), .pointer (some ⟨B2, 0, none⟩)] w (.bool (decide (pickL L l = D))) := by
  have HU := Lib.hid hu
  have HT := Lib.hid h
  have HD := Lib.hid hd
  have HV := Lib.hid hv
  have HL := Lib.hid hl
  have hB1 : B1 < w.heap.size := block_lt_of_cell h1
  have hB2 : B2 < w.heap.size := block_lt_of_cell h2
  obtain ⟨ua, uc, rfl, -⟩ := hu
  clear h hd hv hl
  unfold Gives
  go_enter Try.func47, Try.ntmps47
  go_wp2
  go_region_held3 (fun w' => w'.cell? ⟨B1, 0, none⟩ = some (.slice a1 L.length c1) ∧ w'.cell? ⟨B2, 0, none⟩ = some (.slice a2 D.length c2)) (first | go_keep | exact ⟨k1, k2⟩ | exact ⟨k3, k4⟩)
    ((first
      | (go_at_call 49; refine (pick_calls _ _ L l _ (HT.out.below (by (repeat' (first | exact Below.refl _ _ | assumption | refine below_new ?_ _ | refine below_draw ?_ | refine below_tail (by assumption) ?_ | refine below_set ?_ (by first | omega | (simp <;> omega)) _)))) HV.out (HU.out.below (by (repeat' (first | exact Below.refl _ _ | assumption | refine below_new ?_ _ | refine below_draw ?_ | refine below_tail (by assumption) ?_ | refine below_set ?_ (by first | omega | (simp <;> omega)) _)))) HL.out).mono ?_; rintro e w1 ⟨v1, rfl, hi1, hb1⟩; have HI1 := Lib.hid hi1; obtain ⟨pa, pc, rfl, -⟩ := hi1; have HB1 : Below w.heap.size w w1 := (by (repeat' (first | exact Below.refl _ _ | assumption | refine below_new ?_ _ | refine below_draw ?_ | refine below_tail (by assumption) ?_ | refine below_set ?_ (by first | omega | (simp <;> omega)) _))); have k1 := (HB1.cell (p := ⟨B1, 0, none⟩) hB1).trans h1; have k2 := (HB1.cell (p := ⟨B2, 0, none⟩) hB2).trans h2)
      | (go_at_call 48; refine (equal_is (HI1.out.below (by (repeat' (first | exact Below.refl _ _ | assumption | refine below_new ?_ _ | refine below_draw ?_ | refine below_tail (by assumption) ?_ | refine below_set ?_ (by first | omega | (simp <;> omega)) _)))) (HD.out.below (by (repeat' (first | exact Below.refl _ _ | assumption | refine below_new ?_ _ | refine below_draw ?_ | refine below_tail (by assumption) ?_ | refine below_set ?_ (by first | omega | (simp <;> omega)) _)))) rfl).use ?_; intro w2 hb2 hz2 hc2 hf2; clear hc2 hf2; have HB2 : Below w.heap.size w w2 := (by (repeat' (first | exact Below.refl _ _ | assumption | refine below_new ?_ _ | refine below_draw ?_ | refine below_tail (by assumption) ?_ | refine below_set ?_ (by first | omega | (simp <;> omega)) _))); have k3 := (HB2.cell (p := ⟨B1, 0, none⟩) hB1).trans h1; have k4 := (HB2.cell (p := ⟨B2, 0, none⟩) hB2).trans h2)))
  go_wp2
  go_ret
  exact ⟨rfl, by (repeat' (first | exact Below.refl _ _ | assumption | refine below_new ?_ _ | refine below_draw ?_ | refine below_tail (by assumption) ?_ | refine below_set ?_ (by first | omega | (simp <;> omega)) _))⟩

set_option maxHeartbeats 2000000 in
theorem IsPick_calls (v u : Value) (L : List (List Int)) (D : List Int) (w : World) (h : TableAt w v L) (hu : IntsAt w u D) (he : oE L D = 0) :
    Gives Try.prog 26 #[v, u] w (.tuple #[.bool (pkB L D), .int .i64 0]) := by
  have HT := Lib.hid h
  have HU := Lib.hid hu
  have HE := Lib.hid he
  have HV := Lib.hid (oE_0 he).1
  have h5 := (vB_len (oE_0 he).1).2
  obtain ⟨sa, cap, rfl, hlc, hcm, -⟩ := h
  obtain ⟨ua, uc, rfl, huc, hum, -⟩ := hu
  clear he
  obtain ⟨R, hR⟩ : ∃ r, ordF L.length (List.range L.length) = r := ⟨_, rfl⟩
  have HR := Lib.hid hR
  have HPB : Hid (pkB L D = (R.map numsL).any fun l => decide (pickL L l = D)) := by show _ = _; unfold pkB; rw [hR]
  have HOR : Hid (∀ i, i < (R.map numsL).length → ordB (gi (R.map numsL) [] i) L.length = true) := by
    show ∀ i, _ → _
    intro i hi
    rw [List.length_map] at hi
    rw [gi_lt (by rw [List.length_map]; exact hi), List.getElem_map]
    exact perm_ord ((ordF_perm (k := L.length) (l := List.range L.length) (by simp)).1 (by rw [hR]; exact List.getElem_mem _))
  clear hR
  unfold Gives
  go_enter Try.func26, Try.ntmps26
  go_wp2_with (first
    | (go_at_call 42; refine (ordered_is (HT.out.below (by (repeat' (first | exact Below.refl _ _ | assumption | refine below_new ?_ _ | refine below_draw ?_ | refine below_tail (by assumption) ?_ | refine below_set ?_ (by first | omega | (simp <;> omega)) _)))) (HU.out.below (by (repeat' (first | exact Below.refl _ _ | assumption | refine below_new ?_ _ | refine below_draw ?_ | refine below_tail (by assumption) ?_ | refine below_set ?_ (by first | omega | (simp <;> omega)) _)))) HE.out).use ?_; intro w1 hb1 hz1 hc1 hf1; have x1 := (hc1 w.heap.size 0 (by simp; omega)).trans (show _ = some (.slice sa L.length cap) by simp); have x2 := (hc1 (w.heap.size + 1) 0 (by simp)).trans (show _ = some (.slice ua D.length uc) by simp); have y1 : w.heap.size + 1 < w1.heap.size := (by simp at hz1; omega); clear hc1 hf1)
    | (go_at_call 46; refine (everybody_calls _ _ _ _ h5).mono ?_; rintro e w2 ⟨v2, rfl, hi2, hb2⟩; have HI := Lib.hid hi2.1; obtain ⟨⟨va, vc, rfl, -⟩, -⟩ := hi2; rw [numsL_length, List.length_range] at HI; rw [numsL_length, List.length_range])
    | (go_at_call 45; refine (orders_calls L.length (List.range L.length) _ _ (by simp) h5 HI.out).mono ?_; rintro e w3 ⟨v3, rfl, ht3, hb3⟩; rw [HR.out] at ht3; have HTR := Lib.hid ht3.table; obtain ⟨ra, rc, rfl, hrc, hrm⟩ := ht3.form'; rw [List.length_map] at HTR hrc; rw [List.length_map]; clear ht3; have HB13 : Below w1.heap.size w1 w3 := (by (repeat' (first | exact Below.refl _ _ | assumption | refine below_new ?_ _ | refine below_draw ?_ | refine below_tail (by assumption) ?_ | refine below_set ?_ (by first | omega | (simp <;> omega)) _))); have z1 := (HB13.cell (p := ⟨w.heap.size, 0, none⟩) (by show w.heap.size < _; omega)).trans x1; have z2 := (HB13.cell (p := ⟨w.heap.size + 1, 0, none⟩) (by show w.heap.size + 1 < _; omega)).trans x2; have HBW3 : Hid (Below w.heap.size w w3) := (by show Below _ _ _; (repeat' (first | exact Below.refl _ _ | assumption | refine below_new ?_ _ | refine below_draw ?_ | refine below_tail (by assumption) ?_ | refine below_set ?_ (by first | omega | (simp <;> omega)) _))); have hsz3 : w.heap.size + 1 < w3.heap.size := Nat.lt_of_lt_of_le y1 HB13.size)
    | (go_at_call 32; refine (containsFunc_rowsG _ (R.map numsL) 47 #[.pointer (some ⟨w.heap.size, 0, none⟩), .pointer (some ⟨w.heap.size + 1, 0, none⟩)] (fun l => decide (pickL L l = D)) w3 HTR.out ip_enters (fun i x w' hi hx hb => ip_calls x _ D L w.heap.size (w.heap.size + 1) sa ua cap uc w' hx (HT.out.below (HBW3.out.trans (hb.mono HBW3.out.size))) (HU.out.below (HBW3.out.trans (hb.mono HBW3.out.size))) ((hb.cell (p := ⟨w.heap.size, 0, none⟩) (by show w.heap.size < _; omega)).trans z1) ((hb.cell (p := ⟨w.heap.size + 1, 0, none⟩) (by show w.heap.size + 1 < _; omega)).trans z2) HV.out (HOR.out i hi))).use ?_; intro w4 hb4 hz4 hc4 hf4; clear hc4 hf4))
  refine bodyPost_ret (v := .tuple #[.bool ((R.map numsL).any fun l => decide (pickL L l = D)), .int .i64 0]) (by simp [results, Try.f26, go_sem]) rfl ?_
  exact ⟨by rw [HPB.out], HBW3.out.trans (hb4.mono HBW3.out.size)⟩

theorem IsWilling_is {v u : Value} {L : List (List Int)} {D : List Int} {t : Bool} {w : World} (h : TableAt w v L) (hu : IntsAt w u D) (he : oE L D = 0) (ht : willB L D 0 = t) :
    Gives Try.prog 24 #[v, u] w (.tuple #[.bool t, .int .i64 0]) := ht ▸ IsWilling_calls v u L D w h hu he
theorem Improve_is {v u : Value} {L : List (List Int)} {D : List Int} {t : Bool} {w : World} (h : TableAt w v L) (hu : IntsAt w u D) (he : oE L D = 0) (ht : impB L D = t) :
    Calls Try.prog 25 #[v, u] w fun e w' => ∃ x, e = .returned (.tuple #[x, .bool t, .int .i64 0]) ∧ Below w.heap.size w w' := ht ▸ Improve_calls v u L D w h hu he
theorem IsPick_is {v u : Value} {L : List (List Int)} {D : List Int} {t : Bool} {w : World} (h : TableAt w v L) (hu : IntsAt w u D) (he : oE L D = 0) (ht : pkB L D = t) :
    Gives Try.prog 26 #[v, u] w (.tuple #[.bool t, .int .i64 0]) := ht ▸ IsPick_calls v u L D w h hu he

set_option maxHeartbeats 4000000 in
set_option maxRecDepth 100000 in
theorem swapBest_calls (v : Value) (L : List (List Int)) (w : World) (h : TableAt w v L) :
    Gives Try.prog 7 #[v] w (.bool true) := by
  have HP := Lib.hid h
  obtain ⟨sa, cap, rfl, hlc, hcm, -⟩ := h
  unfold Gives
  obtain ⟨lg, hlg⟩ : ∃ t, longB L 0 = t := ⟨_, rfl⟩
  have HLO := Lib.hid hlg
  clear hlg
  cases lg
  · obtain ⟨e, he⟩ : ∃ t, vE L = t := ⟨_, rfl⟩
    have HE := Lib.hid he
    obtain ⟨lo, hlo⟩ : ∃ l, tradeR L = l := ⟨_, rfl⟩
    have HO := Lib.hid hlo
    by_cases hz : e = 0
    · subst hz
      have hlo' : lo = tradeL L := by rw [← hlo]; exact if_pos he
      have HOE : Hid (oE L lo = 0) := by show _ = _; rw [hlo']; exact trade_oE he
      have HWI : Hid (willB L lo 0 = true) := by show _ = _; rw [hlo']; exact trade_will (vE_0 he)
      have HIM : Hid (impB L lo = false) := by show _ = _; rw [hlo']; exact trade_imp (vE_0 he)
      have HPK : Hid (pkB L lo = true) := by show _ = _; rw [hlo']; exact trade_pk (vE_0 he)
      clear he hlo hlo'
      go_enter Try.func7, Try.ntmps7
      go_wp2_with (first | (go_at_call 8; (with_reducible refine (long_is (HP.out.below (by (repeat' (first | exact Below.refl _ _ | assumption | refine below_new ?_ _ | refine below_draw ?_ | refine below_tail (by assumption) ?_ | refine below_set ?_ (by first | omega | (simp <;> omega)) _)))) HLO.out).use ?_)) | (go_at_call 9; (with_reducible refine (known_calls _).use ?_); intro wk hbk hzk hck hfk; clear hck hfk) | (go_at_call 16; (with_reducible refine (Trade_is (HP.out.below (by (repeat' (first | exact Below.refl _ _ | assumption | refine below_new ?_ _ | refine below_draw ?_ | refine below_tail (by assumption) ?_ | refine below_set ?_ (by first | omega | (simp <;> omega)) _)))) HO.out HE.out).calls.mono ?_); rintro e w1 ⟨v1, rfl, hi1, hb1⟩; have HI1 := Lib.hid hi1; clear hi1) | (go_at_call 24; (with_reducible refine (IsWilling_is (HP.out.below (by (repeat' (first | exact Below.refl _ _ | assumption | refine below_new ?_ _ | refine below_draw ?_ | refine below_tail (by assumption) ?_ | refine below_set ?_ (by first | omega | (simp <;> omega)) _)))) (HI1.out.below (by (repeat' (first | exact Below.refl _ _ | assumption | refine below_new ?_ _ | refine below_draw ?_ | refine below_tail (by assumption) ?_ | refine below_set ?_ (by first | omega | (simp <;> omega)) _)))) HOE.out HWI.out).use ?_); intro w2 hb2 hz2 hc2 hf2; clear hc2 hf2) | (go_at_call 25; (with_reducible refine (Improve_is (HP.out.below (by (repeat' (first | exact Below.refl _ _ | assumption | refine below_new ?_ _ | refine below_draw ?_ | refine below_tail (by assumption) ?_ | refine below_set ?_ (by first | omega | (simp <;> omega)) _)))) (HI1.out.below (by (repeat' (first | exact Below.refl _ _ | assumption | refine below_new ?_ _ | refine below_draw ?_ | refine below_tail (by assumption) ?_ | refine below_set ?_ (by first | omega | (simp <;> omega)) _)))) HOE.out HIM.out).mono ?_); rintro e w3 ⟨x3, rfl, hb3⟩) | (go_at_call 26; (with_reducible refine (IsPick_is (HP.out.below (by (repeat' (first | exact Below.refl _ _ | assumption | refine below_new ?_ _ | refine below_draw ?_ | refine below_tail (by assumption) ?_ | refine below_set ?_ (by first | omega | (simp <;> omega)) _)))) (HI1.out.below (by (repeat' (first | exact Below.refl _ _ | assumption | refine below_new ?_ _ | refine below_draw ?_ | refine below_tail (by assumption) ?_ | refine below_set ?_ (by first | omega | (simp <;> omega)) _)))) HOE.out HPK.out).use ?_); intro w4 hb4 hz4 hc4 hf4; clear hc4 hf4))
      go_ret
      exact ⟨rfl, by (repeat' (first | exact Below.refl _ _ | assumption | refine below_new ?_ _ | refine below_draw ?_ | refine below_tail (by assumption) ?_ | refine below_set ?_ (by first | omega | (simp <;> omega)) _))⟩
    · have h1 : (e == 0) = false := by simpa using hz
      have h2 : (e != 0) = true := by simpa using hz
      clear he hlo hz
      go_enter Try.func7, Try.ntmps7
      go_wp2_with (first | (go_at_call 8; (with_reducible refine (long_is (HP.out.below (by (repeat' (first | exact Below.refl _ _ | assumption | refine below_new ?_ _ | refine below_draw ?_ | refine below_tail (by assumption) ?_ | refine below_set ?_ (by first | omega | (simp <;> omega)) _)))) HLO.out).use ?_)) | (go_at_call 9; (with_reducible refine (known_calls _).use ?_); intro wk hbk hzk hck hfk; clear hck hfk) | (go_at_call 16; (with_reducible refine (Trade_is (HP.out.below (by (repeat' (first | exact Below.refl _ _ | assumption | refine below_new ?_ _ | refine below_draw ?_ | refine below_tail (by assumption) ?_ | refine below_set ?_ (by first | omega | (simp <;> omega)) _)))) HO.out HE.out).calls.mono ?_); rintro e w1 ⟨v1, rfl, hi1, hb1⟩; have HI1 := Lib.hid hi1; clear hi1))
      go_ret
      exact ⟨rfl, by (repeat' (first | exact Below.refl _ _ | assumption | refine below_new ?_ _ | refine below_draw ?_ | refine below_tail (by assumption) ?_ | refine below_set ?_ (by first | omega | (simp <;> omega)) _))⟩
  · go_enter Try.func7, Try.ntmps7
    go_wp2_with (first | (go_at_call 8; (with_reducible refine (long_is (HP.out.below (by (repeat' (first | exact Below.refl _ _ | assumption | refine below_new ?_ _ | refine below_draw ?_ | refine below_tail (by assumption) ?_ | refine below_set ?_ (by first | omega | (simp <;> omega)) _)))) HLO.out).use ?_)) | (go_at_call 9; (with_reducible refine (known_calls _).use ?_); intro wk hbk hzk hck hfk; clear hck hfk))
    go_ret
    exact ⟨rfl, by (repeat' (first | exact Below.refl _ _ | assumption | refine below_new ?_ _ | refine below_draw ?_ | refine below_tail (by assumption) ?_ | refine below_set ?_ (by first | omega | (simp <;> omega)) _))⟩
end Go.Proofs.Ytpbkkekdjkmpmaa
