/- Groups, deals that are better, willing deals, deals that some order makes. Conditions: the lists lie in memory as said. -/
import Derived.Test.YtpbkkekdjkmpmaaSwOrd
namespace Go.Proofs.Ytpbkkekdjkmpmaa
open Go.RowKit

/-- The call gives a list in memory that it has made. -/
def GivesT' (P : Program) (f : FuncId) (args : Array Value) (w : World) (l : List Int) : Prop :=
  Calls P f args w fun e w' => ∃ v, e = .returned v ∧ IntsT w.heap.size w' v l ∧ Below w.heap.size w w'
set_option maxHeartbeats 1000000 in
theorem membersC_calls (n : Nat) (g : Nat) (cap : Array Value) (p : Nat → Bool) (w : World) (hn : n ≤ 5)
    (eg : ∀ args w, (callFunc g args).run Try.prog w = .ok (.enter g args) w)
    (hp : ∀ i w', i < n → Below w.heap.size w w' → Gives Try.prog g (#[.int .i64 i] ++ cap) w' (.bool (p i))) :
    GivesT' Try.prog 61 #[.int .i64 n, .func (.func g) #[] cap] w (numsL ((List.range n).filter p)) := by
  have HP := Lib.hid hp
  obtain ⟨i0, hi0, hz0, hi1, hi2⟩ := info_parts infoInt
  clear hp
  unfold GivesT'
  go_enter Try.func61, Try.ntmps61
  go_wp2
  go_loopw [5, 8] (fun v i wr => ∃ k : Nat, k ≤ n ∧ i = .int .i64 k ∧ Hid (Below w.heap.size w wr) ∧ ∃ m, m ≤ k ∧ Hid (((List.range k).filter p).length = m) ∧ Hid (wr.ownsRow w.heap.size 3 1 v m (cells1 (numsL ((List.range k).filter p))))) (fun v i _ => n - (intOf i).toNat)
  case atStart => exact ⟨0, Nat.zero_le _, rfl, Below.refl _ _, 0, Nat.le_refl _, rfl, World.ownsRow_nil _ _ _ _⟩
  case round =>
    obtain ⟨k, hk, rfl, hb, m, hmk, hm, how⟩ := hrel
    by_cases hlt : k < n
    · have HW := Lib.hid (HP.out k wr hlt hb.out)
      cases hx : p k
      · rw [hx] at HW
        have HF : Hid ((List.range (k + 1)).filter p = (List.range k).filter p) := by show _ = _; rw [List.range_succ, List.filter_append, List.filter_cons_of_neg (by simp [hx])]; simp
        clear hx
        go_wp2_with (refine HW.out.use ?_; intro w1 hb1 hz1 hc1 hf1; clear hc1 hf1)
        go_roundw
        case rel => exact ⟨k + 1, by omega, by go_num, below_tail hb1 hb.out, m, by omega, by unfold Hid; rw [HF.out]; exact hm.out, by unfold Hid; rw [HF.out]; exact own_keep how.out (Nat.le_refl _) (KeepT.of_below hb1)⟩
        case measure => simp [intOf]; omega
      · rw [hx] at HW
        have HF : Hid ((List.range (k + 1)).filter p = (List.range k).filter p ++ [k]) := by show _ = _; rw [List.range_succ, List.filter_append, List.filter_cons_of_pos (by simp [hx])]; simp
        clear hx
        go_wp2_with (first | (refine HW.out.use ?_; intro w1 hb1 hz1 hc1 hf1; clear hc1 hf1; have how1 := own_keep how.out (Nat.le_refl _) (KeepT.of_below hb1); have HBW : Hid (Below w.heap.size w w1) := below_tail hb1 hb.out) | (at_builtin; refine wpList_append_own _ rfl _ _ 35 rfl w.heap.size 3 i0 (.int .i64 0) 1 8 Try.underlying35 hi0 hz0 hi1 hi2 rfl (by decide) _ _ _ rfl (how1.alloc _) ⟨w1.heap.size, 0, none⟩ 1 1 [.int .i64 (k : Nat)] rfl rfl (app_src1 _ _ _) (one_int _) (by unfold maxLen; omega) (by omega) (by have := HBW.out.size; simp; omega) ?_; intro v' w4 hown4 hgrow _))
        go_roundw
        case rel => exact ⟨k + 1, by omega, by go_num, below_app HBW.out (Nat.le_refl _) hgrow (fun j hj => (how1.lt j hj).1), m + 1, by omega, by unfold Hid; rw [HF.out, List.length_append, hm.out]; rfl, by unfold Hid; rw [HF.out]; unfold numsL at hown4 ⊢; rw [List.map_append, cells1_append]; exact hown4⟩
        case measure => simp [intOf]; omega
    · obtain rfl : k = n := by omega
      obtain ⟨va, vc, rfl⟩ := own_slice how.out
      have HI : Hid (IntsT w.heap.size wr (.slice va m vc) (numsL ((List.range k).filter p))) := own_intsT (by rw [numsL_length, hm.out]; exact how.out) (Nat.le_refl _)
      go_wp2
      refine bodyPost_ret (v := .slice va m vc) (by simp [results, Try.f61, go_sem]) rfl ?_
      exact ⟨_, rfl, HI.out, hb.out⟩
set_option maxHeartbeats 1000000 in
theorem membersB_calls (n : Nat) (g : Nat) (cap : Array Value) (p : Nat → Bool) (w : World) (hn : n ≤ 5)
    (eg : ∀ args w, (callFunc g args).run Try.prog w = .ok (.enter g args) w)
    (hp : ∀ i w', i < n → Below w.heap.size w w' → Gives Try.prog g (cap ++ #[.int .i64 i]) w' (.bool (p i))) :
    GivesT' Try.prog 61 #[.int .i64 n, .func (.func g) cap #[]] w (numsL ((List.range n).filter p)) := by
  have HP := Lib.hid hp
  obtain ⟨i0, hi0, hz0, hi1, hi2⟩ := info_parts infoInt
  clear hp
  unfold GivesT'
  go_enter Try.func61, Try.ntmps61
  go_wp2
  go_loopw [5, 8] (fun v i wr => ∃ k : Nat, k ≤ n ∧ i = .int .i64 k ∧ Hid (Below w.heap.size w wr) ∧ ∃ m, m ≤ k ∧ Hid (((List.range k).filter p).length = m) ∧ Hid (wr.ownsRow w.heap.size 3 1 v m (cells1 (numsL ((List.range k).filter p))))) (fun v i _ => n - (intOf i).toNat)
  case atStart => exact ⟨0, Nat.zero_le _, rfl, Below.refl _ _, 0, Nat.le_refl _, rfl, World.ownsRow_nil _ _ _ _⟩
  case round =>
    obtain ⟨k, hk, rfl, hb, m, hmk, hm, how⟩ := hrel
    by_cases hlt : k < n
    · have HW := Lib.hid (HP.out k wr hlt hb.out)
      cases hx : p k
      · rw [hx] at HW
        have HF : Hid ((List.range (k + 1)).filter p = (List.range k).filter p) := by show _ = _; rw [List.range_succ, List.filter_append, List.filter_cons_of_neg (by simp [hx])]; simp
        clear hx
        go_wp2_with (refine HW.out.use ?_; intro w1 hb1 hz1 hc1 hf1; clear hc1 hf1)
        go_roundw
        case rel => exact ⟨k + 1, by omega, by go_num, below_tail hb1 hb.out, m, by omega, by unfold Hid; rw [HF.out]; exact hm.out, by unfold Hid; rw [HF.out]; exact own_keep how.out (Nat.le_refl _) (KeepT.of_below hb1)⟩
        case measure => simp [intOf]; omega
      · rw [hx] at HW
        have HF : Hid ((List.range (k + 1)).filter p = (List.range k).filter p ++ [k]) := by show _ = _; rw [List.range_succ, List.filter_append, List.filter_cons_of_pos (by simp [hx])]; simp
        clear hx
        go_wp2_with (first | (refine HW.out.use ?_; intro w1 hb1 hz1 hc1 hf1; clear hc1 hf1; have how1 := own_keep how.out (Nat.le_refl _) (KeepT.of_below hb1); have HBW : Hid (Below w.heap.size w w1) := below_tail hb1 hb.out) | (at_builtin; refine wpList_append_own _ rfl _ _ 35 rfl w.heap.size 3 i0 (.int .i64 0) 1 8 Try.underlying35 hi0 hz0 hi1 hi2 rfl (by decide) _ _ _ rfl (how1.alloc _) ⟨w1.heap.size, 0, none⟩ 1 1 [.int .i64 (k : Nat)] rfl rfl (app_src1 _ _ _) (one_int _) (by unfold maxLen; omega) (by omega) (by have := HBW.out.size; simp; omega) ?_; intro v' w4 hown4 hgrow _))
        go_roundw
        case rel => exact ⟨k + 1, by omega, by go_num, below_app HBW.out (Nat.le_refl _) hgrow (fun j hj => (how1.lt j hj).1), m + 1, by omega, by unfold Hid; rw [HF.out, List.length_append, hm.out]; rfl, by unfold Hid; rw [HF.out]; unfold numsL at hown4 ⊢; rw [List.map_append, cells1_append]; exact hown4⟩
        case measure => simp [intOf]; omega
    · obtain rfl : k = n := by omega
      obtain ⟨va, vc, rfl⟩ := own_slice how.out
      have HI : Hid (IntsT w.heap.size wr (.slice va m vc) (numsL ((List.range k).filter p))) := own_intsT (by rw [numsL_length, hm.out]; exact how.out) (Nat.le_refl _)
      go_wp2
      refine bodyPost_ret (v := .slice va m vc) (by simp [results, Try.f61, go_sem]) rfl ?_
      exact ⟨_, rfl, HI.out, hb.out⟩

theorem all_enters : ∀ args w, (callFunc 65 args).run Try.prog w = .ok (.enter 65 args) w := fun args w => enters_of Try.func65 (by kernel_rfl) rfl args w
theorem all_is (i : Int) (w : World) : Same Try.prog 65 #[.int .i64 i] w (.bool true) := by
  unfold Same
  go_enter Try.func65, Try.ntmps65
  go_wp2
  go_ret
  exact ⟨rfl, rfl⟩
set_option maxHeartbeats 1000000 in
theorem everybody_calls (a : Option Addr) (n c : Nat) (w : World) (hn : n ≤ 5) : GivesT' Try.prog 46 #[.slice a n c] w (numsL (List.range n)) := by
  have H := membersC_calls n 65 #[] (fun _ => true) w hn all_enters (fun i w' _ _ => (all_is i w').gives)
  rw [List.filter_eq_self.2 (fun _ _ => rfl)] at H
  unfold GivesT' at H ⊢
  have HH := Lib.hid H
  clear H
  go_enter Try.func46, Try.ntmps46
  go_wp2_with (go_at_call 61; refine HH.out.mono ?_; rintro e w1 ⟨v1, rfl, hi1, hb1⟩; have HI := Lib.hid hi1; obtain ⟨⟨va, vc, rfl, -⟩, -⟩ := hi1)
  refine bodyPost_ret (v := .slice va (numsL (List.range n)).length vc) (by simp [results, Try.f46, go_sem]) rfl ?_
  exact ⟨_, rfl, HI.out, by (repeat' (first | exact Below.refl _ _ | assumption | refine below_new ?_ _ | refine below_draw ?_ | refine below_tail (by assumption) ?_ | refine below_set ?_ (by first | omega | (simp <;> omega)) _))⟩

/-- Nobody would rather have his own plot, from k on. -/
def willB (L : List (List Int)) (D : List Int) (k : Nat) : Bool := decide (∀ i, i < D.length → k ≤ i → likB L i i (gi D 0 i) = false)
theorem willB_yes {L : List (List Int)} {D : List Int} {k : Nat} (h : likB L k k (gi D 0 k) = false) : willB L D k = willB L D (k + 1) := by
  unfold willB
  rw [decide_eq_decide]
  refine ⟨fun H i hi hk => H i hi (by omega), fun H i hi hk => ?_⟩
  by_cases e : i = k
  · subst e; exact h
  · exact H i hi (by omega)
theorem willB_no {L : List (List Int)} {D : List Int} {k : Nat} (hk : k < D.length) (h : likB L k k (gi D 0 k) = true) : willB L D k = false := by
  unfold willB
  rw [decide_eq_false_iff_not]
  intro H
  rw [H k hk (Nat.le_refl _)] at h; cases h
theorem willB_end {L : List (List Int)} {D : List Int} : willB L D D.length = true := by
  unfold willB
  rw [decide_eq_true_iff]
  intro i h1 h2; omega
theorem oE_len {L : List (List Int)} {D : List Int} (h : oE L D = 0) : D.length = L.length := (ordB_iff.1 (oE_0 h).2).1
set_option maxHeartbeats 2000000 in
/-- Of a right deal. -/
theorem IsWilling_calls (v u : Value) (L : List (List Int)) (D : List Int) (w : World) (h : TableAt w v L) (hu : IntsAt w u D) (he : oE L D = 0) :
    Gives Try.prog 24 #[v, u] w (.tuple #[.bool (willB L D 0), .int .i64 0]) := by
  have HT := Lib.hid h
  have HU := Lib.hid hu
  have HE := Lib.hid he
  have HDL := Lib.hid (oE_len he)
  have h5 := (vB_len (oE_0 he).1).2
  obtain ⟨sa, cap, rfl, hlc, hcm, -⟩ := h
  obtain ⟨ua, uc, rfl, huc, hum, -⟩ := hu
  clear he
  unfold Gives
  go_enter Try.func24, Try.ntmps24
  go_wp2_with (go_at_call 42; refine (ordered_is HT.out HU.out HE.out).use ?_; intro w1 hb1 hz1 hc1 hf1; clear hc1 hf1)
  go_loopw [17] (fun i wr => ∃ k : Nat, k ≤ D.length ∧ i = .int .i64 k ∧ Hid (willB L D 0 = willB L D k) ∧ Hid (Below w.heap.size w wr)) (fun i _ => D.length - (intOf i).toNat)
  case atStart => exact ⟨0, Nat.zero_le _, rfl, rfl, hb1⟩
  case round =>
    obtain ⟨k, hk, rfl, hr, hb⟩ := hrel
    by_cases hlt : k < D.length
    · obtain ⟨b, o, rfl, hB, hcell⟩ := (HU.out.below hb.out).cellAt hlt
      have hkn : k < L.length := by rw [← HDL.out]; exact hlt
      cases hx : likB L k k (gi D 0 k)
      · have H1 := Lib.hid (willB_yes hx)
        have HX := Lib.hid hx
        clear hx
        go_wp2_with (go_at_call 29; refine (likes_is (HT.out.below hb.out) hkn HX.out).use ?_; intro w2 hb2 hz2 hc2 hf2; clear hc2 hf2)
        go_roundw
        case rel => exact ⟨k + 1, by omega, by go_num, by unfold Hid; rw [hr.out, H1.out], below_tail hb2 hb.out⟩
        case measure => simp [intOf]; omega
      · have H1 := Lib.hid (willB_no hlt hx)
        have HX := Lib.hid hx
        clear hx
        go_wp2_with (go_at_call 29; refine (likes_is (HT.out.below hb.out) hkn HX.out).use ?_; intro w2 hb2 hz2 hc2 hf2; clear hc2 hf2)
        refine bodyPost_ret (v := .tuple #[.bool false, .int .i64 0]) (by simp [results, Try.f24, go_sem]) rfl ?_
        exact ⟨by rw [hr.out, H1.out], below_tail hb2 hb.out⟩
    · obtain rfl : k = D.length := by omega
      have H1 := Lib.hid (willB_end (L := L) (D := D))
      go_wp2
      refine bodyPost_ret (v := .tuple #[.bool true, .int .i64 0]) (by simp [results, Try.f24, go_sem]) rfl ?_
      exact ⟨by rw [hr.out, H1.out], hb.out⟩

/-- Some of the lists from k on is such. -/
def anyFrom (R : List (List Nat)) (q : List Nat → Bool) (k : Nat) : Bool := decide (∃ i, i < R.length ∧ k ≤ i ∧ q (gi R [] i) = true)
theorem anyFrom_no {R : List (List Nat)} {q : List Nat → Bool} {k : Nat} (h : q (gi R [] k) = false) : anyFrom R q k = anyFrom R q (k + 1) := by
  unfold anyFrom
  rw [decide_eq_decide]
  refine ⟨fun ⟨i, h1, h2, h3⟩ => ⟨i, h1, ?_, h3⟩, fun ⟨i, h1, h2, h3⟩ => ⟨i, h1, by omega, h3⟩⟩
  have : i ≠ k := fun e => by subst e; rw [h3] at h; cases h
  omega
theorem anyFrom_yes {R : List (List Nat)} {q : List Nat → Bool} {k : Nat} (hk : k < R.length) (h : q (gi R [] k) = true) : anyFrom R q k = true := by
  unfold anyFrom
  rw [decide_eq_true_iff]
  exact ⟨k, hk, Nat.le_refl _, h⟩
theorem anyFrom_end {R : List (List Nat)} {q : List Nat → Bool} : anyFrom R q R.length = false := by
  unfold anyFrom
  rw [decide_eq_false_iff_not]
  rintro ⟨i, h1, h2, _⟩; omega
theorem anyFrom_iff {R : List (List Nat)} {q : List Nat → Bool} : anyFrom R q 0 = true ↔ ∃ r ∈ R, q r = true := by
  unfold anyFrom
  rw [decide_eq_true_iff]
  constructor
  · rintro ⟨i, h1, _, h3⟩
    rw [gi_lt h1] at h3
    exact ⟨_, List.getElem_mem _, h3⟩
  · rintro ⟨r, hr, h3⟩
    obtain ⟨i, hi, rfl⟩ := List.mem_iff_getElem.1 hr
    exact ⟨i, hi, Nat.zero_le _, by rw [gi_lt hi]; exact h3⟩
/-- Is there a deal that is better for some and worse for nobody? -/
def impB (L : List (List Int)) (D : List Int) : Bool := anyFrom (ordF L.length (List.range L.length)) (fun r => gainF L D (List.range L.length) (numsL r)) 0
theorem ordF_get {k : Nat} {l : List Nat} (hl : l.length = k) {i : Nat} (hi : i < (ordF k l).length) : (gi (ordF k l) [] i).length = k := by
  rw [gi_lt hi]
  have := ((ordF_perm hl).1 (List.getElem_mem hi)).length_eq
  omega
set_option maxHeartbeats 4000000 in
theorem improve_calls (v u : Value) (L : List (List Int)) (D : List Int) (w : World) (h : TableAt w v L) (hu : IntsAt w u D) (he : oE L D = 0) :
    Calls Try.prog 44 #[v, u] w fun e w' => ∃ x, e = .returned (.tuple #[x, .bool (impB L D)]) ∧ Below w.heap.size w w' := by
  have HT := Lib.hid h
  have HU := Lib.hid hu
  have HDL := Lib.hid (oE_len he)
  have h5 := (vB_len (oE_0 he).1).2
  obtain ⟨sa, cap, rfl, hlc, hcm, -⟩ := h
  obtain ⟨ua, uc, rfl, huc, hum, -⟩ := hu
  clear he
  obtain ⟨R, hR⟩ : ∃ r, ordF L.length (List.range L.length) = r := ⟨_, rfl⟩
  have HR := Lib.hid hR
  have HLR : Hid (∀ i, i < R.length → (gi R [] i).length = L.length) := by show ∀ i, _ → _; rw [← hR]; exact fun i hi => ordF_get (by simp) hi
  have HIM : Hid (impB L D = anyFrom R (fun r => gainF L D (List.range L.length) (numsL r)) 0) := by show _ = _; unfold impB; rw [hR]
  clear hR
  go_enter Try.func44, Try.ntmps44
  go_wp2_with (first
    | (go_at_call 46; refine (everybody_calls _ _ _ _ h5).mono ?_; rintro e w1 ⟨v1, rfl, hi1, hb1⟩; have HI := Lib.hid hi1.1; obtain ⟨⟨va, vc, rfl, -⟩, -⟩ := hi1; rw [numsL_length, List.length_range] at HI; rw [numsL_length, List.length_range])
    | (go_at_call 45; refine (orders_calls L.length (List.range L.length) _ _ (by simp) h5 HI.out).mono ?_; rintro e w2 ⟨v2, rfl, ht2, hb2⟩; rw [HR.out] at ht2; have HTR := Lib.hid ht2.table; obtain ⟨ra, rc, rfl, hrc, hrm⟩ := ht2.form'; rw [List.length_map] at HTR hrc; rw [List.length_map]; clear ht2))
  have HBW : Hid (Below w.heap.size w w2) := by show Below _ _ _; (repeat' (first | exact Below.refl _ _ | assumption | refine below_new ?_ _ | refine below_draw ?_ | refine below_tail (by assumption) ?_ | refine below_set ?_ (by first | omega | (simp <;> omega)) _))
  have HI2 : Hid (IntsAt w2 (.slice va L.length vc) (numsL (List.range L.length))) := HI.out.below hb2
  clear HI
  go_loopw [14] (fun i wr => ∃ k : Nat, k ≤ R.length ∧ i = .int .i64 k ∧ Hid (impB L D = anyFrom R (fun r => gainF L D (List.range L.length) (numsL r)) k) ∧ Hid (Below w2.heap.size w2 wr)) (fun i _ => R.length - (intOf i).toNat)
  case atStart => exact ⟨0, Nat.zero_le _, rfl, HIM, Below.refl _ _⟩
  case round =>
    obtain ⟨k, hk, rfl, hr, hb⟩ := hrel
    by_cases hlt : k < R.length
    · obtain ⟨b, o, x, rfl, hB, hcell, hx⟩ := (HTR.out.below hb.out).row (m := k) (by rw [List.length_map]; exact hlt)
      have hgx : gi (R.map numsL) [] k = numsL (gi R [] k) := by rw [gi_lt (by rw [List.length_map]; exact hlt), List.getElem_map, gi_lt hlt]
      rw [hgx] at hx
      have hlen := HLR.out k hlt
      have HX := Lib.hid hx
      obtain ⟨xa, xc, rfl, -⟩ := hx
      have HG0 : Hid (∀ t, gainF L D (List.range L.length) (numsL (gi R [] k)) = t → Gives Try.prog 63 #[.slice sa L.length cap, .slice ua D.length uc, .slice va L.length vc, .slice xa (numsL (gi R [] k)).length xc] wr (.bool t)) := fun t ht =>
        gains_is (HT.out.below (HBW.out.trans (hb.out.mono HBW.out.size))) (HU.out.below (HBW.out.trans (hb.out.mono HBW.out.size))) (HI2.out.below hb.out) HX.out (fun q hq => by rw [List.length_range] at hq; simp [gi, hq]) HDL.out (by rw [numsL_length, List.length_range]; exact hlen) ht
      clear hgx hlen
      cases hq : gainF L D (List.range L.length) (numsL (gi R [] k))
      · have H1 := Lib.hid (anyFrom_no (R := R) (q := fun r => gainF L D (List.range L.length) (numsL r)) hq)
        have HG := Lib.hid (HG0.out _ hq)
        clear hq
        go_wp2_with (go_at_call 63; refine HG.out.use ?_; intro w3 hb3 hz3 hc3 hf3; clear hc3 hf3)
        go_roundw
        case rel => exact ⟨k + 1, by omega, by go_num, by unfold Hid; rw [hr.out, H1.out], below_tail hb3 hb.out⟩
        case measure => simp [intOf]; omega
      · have H1 := Lib.hid (anyFrom_yes (q := fun r => gainF L D (List.range L.length) (numsL r)) hlt hq)
        have HG := Lib.hid (HG0.out _ hq)
        clear hq
        go_wp2_with (go_at_call 63; refine HG.out.use ?_; intro w3 hb3 hz3 hc3 hf3; clear hc3 hf3)
        refine bodyPost_ret (v := .tuple #[.slice xa (numsL (gi R [] k)).length xc, .bool true]) (by simp [results, Try.f44, go_sem]) rfl ?_
        exact ⟨_, by rw [hr.out, H1.out], HBW.out.trans ((below_tail hb3 hb.out).mono HBW.out.size)⟩
    · obtain rfl : k = R.length := by omega
      have H1 := Lib.hid (anyFrom_end (R := R) (q := fun r => gainF L D (List.range L.length) (numsL r)))
      go_wp2
      refine bodyPost_ret (v := .tuple #[.slice none 0 0, .bool false]) (by simp [results, Try.f44, go_sem]) rfl ?_
      exact ⟨_, by rw [hr.out, H1.out], HBW.out.trans (hb.out.mono HBW.out.size)⟩
set_option maxHeartbeats 1000000 in
theorem Improve_calls (v u : Value) (L : List (List Int)) (D : List Int) (w : World) (h : TableAt w v L) (hu : IntsAt w u D) (he : oE L D = 0) :
    Calls Try.prog 25 #[v, u] w fun e w' => ∃ x, e = .returned (.tuple #[x, .bool (impB L D), .int .i64 0]) ∧ Below w.heap.size w w' := by
  have HT := Lib.hid h
  have HU := Lib.hid hu
  have HE := Lib.hid he
  obtain ⟨sa, cap, rfl, hlc, hcm, -⟩ := h
  obtain ⟨ua, uc, rfl, huc, hum, -⟩ := hu
  clear he
  go_enter Try.func25, Try.ntmps25
  go_wp2_with (first | (go_at_call 42; refine (ordered_is HT.out HU.out HE.out).use ?_; intro w1 hb1 hz1 hc1 hf1; clear hc1 hf1) | (go_at_call 44; refine (improve_calls _ _ L D _ (HT.out.below (by (repeat' (first | exact Below.refl _ _ | assumption | refine below_new ?_ _ | refine below_draw ?_ | refine below_tail (by assumption) ?_ | refine below_set ?_ (by first | omega | (simp <;> omega)) _)))) (HU.out.below (by (repeat' (first | exact Below.refl _ _ | assumption | refine below_new ?_ _ | refine below_draw ?_ | refine below_tail (by assumption) ?_ | refine below_set ?_ (by first | omega | (simp <;> omega)) _)))) HE.out).mono ?_; rintro e w2 ⟨x2, rfl, hb2⟩))
  refine bodyPost_ret (v := .tuple #[x2, .bool (impB L D), .int .i64 0]) (by simp [results, Try.f25, go_sem]) rfl ?_
  exact ⟨_, rfl, by (repeat' (first | exact Below.refl _ _ | assumption | refine below_new ?_ _ | refine below_draw ?_ | refine below_tail (by assumption) ?_ | refine below_set ?_ (by first | omega | (simp <;> omega)) _))⟩
set_option maxHeartbeats 1000000 in
theorem equal_calls (a b : Value) (l m : List Int) (w : World) (ha : IntsAt w a l) (hb : IntsAt w b m) :
    Gives Try.prog 48 #[a, b] w (.bool (decide (l = m))) := by
  have HA := Lib.hid ha
  have HB := Lib.hid hb
  obtain ⟨aa, ac, rfl, hal, ham, _⟩ := ha
  obtain ⟨ba, bc, rfl, hbl, hbm, _⟩ := hb
  unfold Gives
  by_cases hlm : l.length = m.length
  · have H0 := Lib.hid (eq_from hlm)
    have HLM := Lib.hid hlm
    have h1 : ((l.length : Int) != (m.length : Int)) = false := by simp; omega
    clear hlm
    go_enter Try.func48, Try.ntmps48
    go_wp2
    go_loopw [13] (fun i wr => ∃ k : Nat, k ≤ l.length ∧ i = .int .i64 k ∧ Hid (eqFrom l m 0 = eqFrom l m k) ∧ Below w.heap.size w wr) (fun i _ => l.length - (intOf i).toNat)
    case atStart => exact ⟨0, Nat.zero_le _, rfl, rfl, Below.refl _ _⟩
    case round =>
      obtain ⟨k, hk, rfl, hr, hb⟩ := hrel
      by_cases hlt : k < l.length
      · obtain ⟨ab, ao, rfl, hA, hcella⟩ := (HA.out.below hb).cellAt hlt
        obtain ⟨bb, bo, rfl, hB, hcellb⟩ := (HB.out.below hb).cellAt (m := k) (by rw [← HLM.out]; exact hlt)
        have hkm : k < m.length := by rw [← HLM.out]; exact hlt
        have q0 := fun d os => cell_regrown hcella d os
        have q1 := fun d os => cell_regrown hcellb d os
        cases hs : (gi l 0 k != gi m 0 k)
        · have H1 := Lib.hid (eqFrom_yes hs)
          go_wp2
          refine region_q mixed (by kernel_rfl) ?_
          repeat (go_big_quiet_step (fail))
          refine wpQuiet_nil ?_
          intro wq hbq
          clear q0 q1
          go_wp2
          go_roundw
          case rel => exact ⟨k + 1, by omega, by go_num, by unfold Hid; rw [hr.out, H1.out], by (repeat' (first | exact Below.refl _ _ | assumption | refine below_new ?_ _ | refine below_draw ?_ | refine below_tail (by assumption) ?_ | refine below_set ?_ (by first | omega | (simp <;> omega)) _))⟩
          case measure => simp [intOf]; omega
        · have H1 := Lib.hid (eqFrom_no hlt hs)
          go_wp2
          refine region_q mixed (by kernel_rfl) ?_
          repeat (go_big_quiet_step (fail))
          refine wpQuiet_nil ?_
          intro wq hbq
          clear q0 q1
          go_wp2
          go_ret
          exact ⟨ret_bool (by rw [H0.out, hr.out, H1.out]), by (repeat' (first | exact Below.refl _ _ | assumption | refine below_new ?_ _ | refine below_draw ?_ | refine below_tail (by assumption) ?_ | refine below_set ?_ (by first | omega | (simp <;> omega)) _))⟩
      · obtain rfl : k = l.length := by omega
        have H1 := Lib.hid (eqFrom_end (a := l) (b := m))
        go_wp2
        go_ret
        exact ⟨ret_bool (by rw [H0.out, hr.out, H1.out]), hb⟩
  · have H0 : Hid (decide (l = m) = false) := decide_eq_false (fun e => hlm (by rw [e]))
    have h1 : ((l.length : Int) != (m.length : Int)) = true := by simp; omega
    clear hlm
    go_enter Try.func48, Try.ntmps48
    go_wp2
    go_ret
    exact ⟨ret_bool H0.out.symm, by (repeat' (first | exact Below.refl _ _ | assumption | refine below_new ?_ _ | refine below_draw ?_ | refine below_tail (by assumption) ?_ | refine below_set ?_ (by first | omega | (simp <;> omega)) _))⟩
set_option maxHeartbeats 400000 in
theorem indexFunc_rowsG (v : Value) (L : List (List Int)) (g : Nat) (cap : Array Value) (p : List Int → Bool) (w : World) (h : TableAt w v L)
    (eg : ∀ args w, (callFunc g args).run Try.prog w = .ok (.enter g args) w)
    (hp : ∀ i u w', i < L.length → IntsAt w' u (gi L [] i) → Below w.heap.size w w' → Gives Try.prog g (#[u] ++ cap) w' (.bool (p (gi L [] i)))) :
    Gives Try.prog 51 #[v, .func (.func g) #[] cap] w (.int .i64 (idxFrom L p [] 0)) := by
  have HTT := Lib.hid h
  obtain ⟨a, cp, rfl, hlc, hcm, hc⟩ := h
  have HP := Lib.hid hp
  clear hc hp
  unfold Gives
  go_enter Try.func51, Try.ntmps51
  go_wp2
  go_loopw [8] (fun i wr => ∃ k : Nat, k ≤ L.length ∧ i = .int .i64 k ∧ Hid (idxFrom L p [] 0 = idxFrom L p [] k) ∧ Hid (Below w.heap.size w wr)) (fun i _ => L.length - (intOf i).toNat)
  case atStart => exact ⟨0, Nat.zero_le _, rfl, rfl, Below.refl _ _⟩
  case round =>
    obtain ⟨k, hk, rfl, hr, hb⟩ := hrel
    by_cases hlt : k < L.length
    · obtain ⟨b, o, u, rfl, hB, hcell, hu⟩ := (HTT.out.below hb.out).row hlt
      obtain ⟨ua, uc, rfl, -⟩ := id hu
      have HW := Lib.hid (HP.out k _ wr hlt hu hb.out)
      clear hu
      cases hx : p (gi L [] k)
      · have H1 := Lib.hid (idxFrom_no (d := ([] : List Int)) (p := p) hlt hx)
        rw [hx] at HW
        go_wp2_with (refine HW.out.use ?_; intro w1 hb1 hz1 hc1 hf1; clear hc1 hf1)
        go_roundw
        case rel => exact ⟨k + 1, by omega, by go_num, by unfold Hid; rw [hr.out, H1.out], below_tail hb1 hb.out⟩
        case measure => simp [intOf]; omega
      · have H1 := Lib.hid (idxFrom_yes (d := ([] : List Int)) (p := p) hlt hx)
        rw [hx] at HW
        go_wp2_with (refine HW.out.use ?_; intro w1 hb1 hz1 hc1 hf1; clear hc1 hf1)
        go_ret
        exact ⟨ret_int (by rw [hr.out, H1.out]), below_tail hb1 hb.out⟩
    · have H1 := Lib.hid (idxFrom_end (d := ([] : List Int)) (p := p) hlt)
      go_wp2
      go_ret
      exact ⟨ret_int (by rw [hr.out, H1.out]), hb.out⟩

set_option maxHeartbeats 400000 in
theorem containsFunc_rowsG (v : Value) (L : List (List Int)) (g : Nat) (cap : Array Value) (p : List Int → Bool) (w : World) (h : TableAt w v L)
    (eg : ∀ args w, (callFunc g args).run Try.prog w = .ok (.enter g args) w)
    (hp : ∀ i u w', i < L.length → IntsAt w' u (gi L [] i) → Below w.heap.size w w' → Gives Try.prog g (#[u] ++ cap) w' (.bool (p (gi L [] i)))) :
    Gives Try.prog 32 #[v, .func (.func g) #[] cap] w (.bool (L.any p)) := by
  have H := Lib.hid (idxFrom_nonneg L p [] 0)
  have HP := Lib.hid (indexFunc_rowsG v L g cap p w h eg hp)
  clear hp
  unfold Gives
  go_enter Try.func32, Try.ntmps32
  go_wp2_with (refine HP.out.use ?_; intro w1 hb1 hz1 hc1 hf1; clear hc1 hf1)
  go_ret
  exact ⟨ret_bool (by rw [H.out, List.drop_zero]), hb1⟩
end Go.Proofs.Ytpbkkekdjkmpmaa
