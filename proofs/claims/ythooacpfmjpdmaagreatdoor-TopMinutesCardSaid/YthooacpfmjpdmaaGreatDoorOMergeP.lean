/- What is read of a text, and the office's merge: the longer one of two minutes. Conditions: the texts are not very long. -/
import Derived.Test.YthooacpfmjpdmaaGreatDoorOKnown
namespace Go.Proofs.YthooacpfmjpdmaaGreatDoor
open Go.RowKit
theorem read_parts (t : ByteArray) : (∀ o ∈ readO t, okB o.data.toList = true) ∧ (readO t).length ≤ 80 ∧ minF (readO t) ++ readT t = t := by
  obtain ⟨h1, h2, h3⟩ := readF_spec 80 0 t.data.toList
  refine ⟨fun o ho => ?_, ?_, ?_⟩
  · obtain ⟨y, hy, rfl⟩ := List.mem_map.1 ho
    exact h3 y hy
  · unfold readO; rw [List.length_map]; exact h2
  · apply bytes_ext
    rw [ByteArray.data_append, Array.toList_append]
    show bookF 0 ((readO t).map (·.data.toList)) ++ _ = _
    unfold readO readT
    rw [map_mk, mkB_data, h1]
theorem writeE_ok {l : List ByteArray} (h : ∀ o ∈ l, okB o.data.toList = true) (hl : l.length ≤ 80) : writeE l = 0 ∧ writeT l = minF l := by
  have h0 : writeE l = 0 := by
    unfold writeE
    rw [if_neg (by omega), if_pos (List.all_eq_true.2 h)]
  exact ⟨h0, by unfold writeT; rw [if_pos h0]⟩
/-- How far two lists agree. -/
def cp : List ByteArray → List ByteArray → Nat
  | x :: l, y :: m => if x = y then cp l m + 1 else 0
  | _, _ => 0
theorem cp_le : ∀ l m : List ByteArray, cp l m ≤ l.length ∧ cp l m ≤ m.length
  | [], _ => by simp [cp]
  | _ :: _, [] => by simp [cp]
  | x :: l, y :: m => by
    have := cp_le l m
    unfold cp
    split <;> simp <;> omega
theorem cp_comm : ∀ l m : List ByteArray, cp l m = cp m l
  | [], [] => rfl
  | [], _ :: _ => rfl
  | _ :: _, [] => rfl
  | x :: l, y :: m => by
    unfold cp
    by_cases h : x = y
    · rw [if_pos h, if_pos h.symm, cp_comm l m]
    · rw [if_neg h, if_neg (fun e => h e.symm)]
theorem cp_eq : ∀ (l m : List ByteArray) (j : Nat), j < cp l m → gi l default j = gi m default j
  | [], _, j, h => by simp [cp] at h
  | _ :: _, [], j, h => by simp [cp] at h
  | x :: l, y :: m, j, h => by
    unfold cp at h
    split at h
    · rename_i e
      cases j with
      | zero => simpa [gi] using e
      | succ j => have := cp_eq l m j (by omega); simpa [gi] using this
    · omega
theorem cp_ne : ∀ (l m : List ByteArray), cp l m < l.length → cp l m < m.length → gi l default (cp l m) ≠ gi m default (cp l m)
  | [], _, h, _ => by simp at h
  | _ :: _, [], _, h => by simp at h
  | x :: l, y :: m, h1, h2 => by
    unfold cp at h1 h2 ⊢
    by_cases e : x = y
    · rw [if_pos e] at h1 h2 ⊢
      have := cp_ne l m (by simpa using h1) (by simpa using h2)
      simpa [gi] using this
    · rw [if_neg e]
      simpa [gi] using e
theorem cp_all : ∀ (l m : List ByteArray), cp l m = l.length → l.length = m.length → l = m
  | [], m, _, h => by simpa using h.symm
  | x :: l, [], _, h => by simp at h
  | x :: l, y :: m, h, hl => by
    unfold cp at h
    split at h
    · rename_i e
      rw [e, cp_all l m (by simpa using h) (by simpa using hl)]
    · simp at h
/-- What a merge is. -/
inductive MergeIs (a b : ByteArray) : ByteArray → Nat → Int → Prop
  | torn (h : readT a ≠ ⟨#[]⟩ ∨ readT b ≠ ⟨#[]⟩) : MergeIs a b ⟨#[]⟩ 0 11
  | odd (ha : readT a = ⟨#[]⟩) (hb : readT b = ⟨#[]⟩) (h1 : cp (readO a) (readO b) < (readO a).length) (h2 : cp (readO a) (readO b) < (readO b).length) : MergeIs a b ⟨#[]⟩ (cp (readO a) (readO b)) 7
  | right (ha : readT a = ⟨#[]⟩) (hb : readT b = ⟨#[]⟩) (h : (readO a).length < (readO b).length) (hc : cp (readO a) (readO b) = (readO a).length) : MergeIs a b b (readO b).length 0
  | left (ha : readT a = ⟨#[]⟩) (hb : readT b = ⟨#[]⟩) (h : (readO b).length ≤ (readO a).length) (hc : cp (readO a) (readO b) = (readO b).length) : MergeIs a b a (readO a).length 0
theorem read_empty {t : ByteArray} (h : readT t = ⟨#[]⟩) : t = minF (readO t) := by
  have := (read_parts t).2.2
  rw [h] at this
  apply bytes_ext
  have h2 := congrArg (fun z : ByteArray => z.data.toList) this.symm
  simpa [ByteArray.data_append, Array.toList_append] using h2
theorem merge_ex (a b : ByteArray) : ∃ S N E, MergeIs a b S N E ∧ MergeIs b a S N E := by
  by_cases h : readT a ≠ ⟨#[]⟩ ∨ readT b ≠ ⟨#[]⟩
  · exact ⟨_, _, _, .torn h, .torn h.symm⟩
  · have ha : readT a = ⟨#[]⟩ := Classical.byContradiction fun e => h (.inl e)
    have hb : readT b = ⟨#[]⟩ := Classical.byContradiction fun e => h (.inr e)
    have hle := cp_le (readO a) (readO b)
    have hcm := cp_comm (readO a) (readO b)
    by_cases h1 : cp (readO a) (readO b) < (readO a).length
    · by_cases h2 : cp (readO a) (readO b) < (readO b).length
      · refine ⟨_, _, _, .odd ha hb h1 h2, ?_⟩
        rw [hcm]
        exact .odd hb ha (by omega) (by omega)
      · exact ⟨_, _, _, .left ha hb (by omega) (by omega), .right hb ha (by omega) (by omega)⟩
    · by_cases h2 : (readO a).length < (readO b).length
      · exact ⟨_, _, _, .right ha hb h2 (by omega), .left hb ha (by omega) (by omega)⟩
      · have e : readO a = readO b := cp_all _ _ (by omega) (by omega)
        have e2 : a = b := by rw [read_empty ha, read_empty hb, e]
        subst e2
        exact ⟨_, _, _, .left ha hb (by omega) (by omega), .left ha hb (by omega) (by omega)⟩
theorem ne_empty {r : ByteArray} (h : r ≠ ⟨#[]⟩) : r.toList.isEmpty = false := by
  cases he : r.toList with
  | nil => exact absurd (list_inj (he.trans (by kernel_rfl : ([] : List UInt8) = ByteArray.toList ⟨#[]⟩))) h
  | cons _ _ => rfl
set_option maxRecDepth 100000 in
set_option maxHeartbeats 4000000 in
theorem pMerge_calls {a b S : ByteArray} {N : Nat} {E : Int} {w : World} (hm : MergeIs a b S N E) (has : a.size ≤ 100000) (hbs : b.size ≤ 100000) (he : Base w) : Gives Tryz.prog 22 #[.string a, .string b] w (.tuple #[.string S, .int .i64 N, .int .i64 E]) := by
  have HB := Lib.hid he
  clear he
  have BW : Hid (Below w.heap.size w w) := Below.refl _ _
  unfold Gives
  obtain ⟨ra, hra⟩ : ∃ r, readT a = r := ⟨_, rfl⟩
  obtain ⟨rb, hrb⟩ : ∃ r, readT b = r := ⟨_, rfl⟩
  have HRA := Lib.hid hra
  have HRB := Lib.hid hrb
  by_cases hor : readT a ≠ ⟨#[]⟩ ∨ readT b ≠ ⟨#[]⟩
  · obtain ⟨rfl, rfl, rfl⟩ : S = ⟨#[]⟩ ∧ N = 0 ∧ E = 11 := by
      cases hm with
      | torn h => exact ⟨rfl, rfl, rfl⟩
      | odd h1 h2 => rcases hor with h | h; exact absurd h1 h; exact absurd h2 h
      | right h1 h2 => rcases hor with h | h; exact absurd h1 h; exact absurd h2 h
      | left h1 h2 => rcases hor with h | h; exact absurd h1 h; exact absurd h2 h
    clear hm
    by_cases h1 : ra = ⟨#[]⟩
    · have h2 : rb ≠ ⟨#[]⟩ := by
        rcases hor with h | h
        · exact absurd (hra.trans h1) h
        · rw [← hrb]; exact h
      have n1 := ne_empty h2
      subst h1
      clear hor hra hrb h2
      go_enter Tryz.func22, Tryz.ntmps22
      go_wp2_with (first | (go_at_call 16; (with_reducible refine Calls.mono (Read_calls a _ has (HB.out.below BW.out).env) ?_); rintro e w1 ⟨v1, rfl, hi1, hb1⟩; rw [HRA.out]; have HT1 := Lib.hid (own_texts hi1); clear hi1; replace BW := Lib.hid (Below.trans BW.out (hb1.mono BW.out.size)); clear hb1) | (go_at_call 16; (with_reducible refine Calls.mono (Read_calls b _ hbs (HB.out.below BW.out).env) ?_); rintro e w2 ⟨v2, rfl, hi2, hb2⟩; rw [HRB.out]; have HT2 := Lib.hid (own_texts hi2); clear hi2; replace HT1 := Lib.hid (HT1.out.below hb2); replace BW := Lib.hid (Below.trans BW.out (hb2.mono BW.out.size)); clear hb2))
      refine bodyPost_ret (v := .tuple #[.string ⟨#[]⟩, .int .i64 0, .int .i64 11]) (by simp [results, Tryz.f22, go_sem]) rfl ?_
      exact ⟨rfl, BW.out⟩
    · have n1 := ne_empty h1
      clear hor hra hrb h1
      go_enter Tryz.func22, Tryz.ntmps22
      go_wp2_with (first | (go_at_call 16; (with_reducible refine Calls.mono (Read_calls a _ has (HB.out.below BW.out).env) ?_); rintro e w1 ⟨v1, rfl, hi1, hb1⟩; rw [HRA.out]; have HT1 := Lib.hid (own_texts hi1); clear hi1; replace BW := Lib.hid (Below.trans BW.out (hb1.mono BW.out.size)); clear hb1) | (go_at_call 16; (with_reducible refine Calls.mono (Read_calls b _ hbs (HB.out.below BW.out).env) ?_); rintro e w2 ⟨v2, rfl, hi2, hb2⟩; rw [HRB.out]; have HT2 := Lib.hid (own_texts hi2); clear hi2; replace HT1 := Lib.hid (HT1.out.below hb2); replace BW := Lib.hid (Below.trans BW.out (hb2.mono BW.out.size)); clear hb2))
      refine bodyPost_ret (v := .tuple #[.string ⟨#[]⟩, .int .i64 0, .int .i64 11]) (by simp [results, Tryz.f22, go_sem]) rfl ?_
      exact ⟨rfl, BW.out⟩
  · have ha : ra = ⟨#[]⟩ := Classical.byContradiction fun e => hor (.inl (by rw [hra]; exact e))
    have hb : rb = ⟨#[]⟩ := Classical.byContradiction fun e => hor (.inr (by rw [hrb]; exact e))
    subst ha hb
    have hno : ∀ h : readT a ≠ ⟨#[]⟩ ∨ readT b ≠ ⟨#[]⟩, False := hor
    clear hor
    obtain ⟨x, hx⟩ : ∃ x, readO a = x := ⟨_, rfl⟩
    obtain ⟨y, hy⟩ : ∃ y, readO b = y := ⟨_, rfl⟩
    have hx80 : x.length ≤ 80 := by rw [← hx]; exact (read_parts a).2.1
    have hy80 : y.length ≤ 80 := by rw [← hy]; exact (read_parts b).2.1
    have hM : (cp x y < x.length ∧ cp x y < y.length ∧ ⟨#[]⟩ = S ∧ cp x y = N ∧ 7 = E) ∨ (x.length < y.length ∧ x.length ≤ cp x y ∧ b = S ∧ y.length = N ∧ 0 = E) ∨ (y.length ≤ x.length ∧ y.length ≤ cp x y ∧ a = S ∧ x.length = N ∧ 0 = E) := by
      rw [← hx, ← hy]
      cases hm with
      | torn h => exact (hno h).elim
      | odd _ _ h1 h2 => exact .inl ⟨h1, h2, rfl, rfl, rfl⟩
      | right _ _ h hc => exact .inr (.inl ⟨h, Nat.le_of_eq hc.symm, rfl, rfl, rfl⟩)
      | left _ _ h hc => exact .inr (.inr ⟨h, Nat.le_of_eq hc.symm, rfl, rfl, rfl⟩)
    have HXA := Lib.hid hx
    have HYB := Lib.hid hy
    have hle := cp_le x y
    have HEQ := Lib.hid (cp_eq x y)
    have HNE := Lib.hid (cp_ne x y)
    clear hm hno hra hrb hx hy
    obtain ⟨C, hC⟩ : ∃ C, cp x y = C := ⟨_, rfl⟩
    rw [hC] at hM hle HEQ HNE
    clear hC
    obtain ⟨X, hX⟩ : ∃ X, x.length = X := ⟨_, rfl⟩
    obtain ⟨Y, hY⟩ : ∃ Y, y.length = Y := ⟨_, rfl⟩
    have HX := Lib.hid hX
    have HY := Lib.hid hY
    rw [hX] at hM hle hx80
    rw [hY] at hM hle hy80
    rw [hX, hY] at HNE
    clear hX hY
    rcases hM with ⟨h1, h2, rfl, rfl, rfl⟩ | ⟨h1, h2, rfl, rfl, rfl⟩ | ⟨h1, h2, rfl, rfl, rfl⟩
    · have hXY : X < Y ∨ (X ≤ Y ∧ Y ≤ X) ∨ Y < X := by omega
      rcases hXY with hXY | hXY | hXY
      · have hmin : min (X : Int) (Y : Int) = X := by omega
        have kXY : decide ((X : Int) < (Y : Int)) = true := decide_eq_true (by omega)
        have kYX : decide ((Y : Int) < (X : Int)) = false := decide_eq_false (by omega)
        go_enter Tryz.func22, Tryz.ntmps22
        go_wp2_with (first | (go_at_call 16; (with_reducible refine Calls.mono (Read_calls a _ has (HB.out.below BW.out).env) ?_); rintro e w1 ⟨v1, rfl, hi1, hb1⟩; rw [HRA.out]; rw [HXA.out] at hi1; have HT1 := Lib.hid (own_texts hi1); obtain ⟨aa, ac, e1, -⟩ := id HT1.out; rw [HX.out] at e1; subst e1; clear hi1; replace BW := Lib.hid (Below.trans BW.out (hb1.mono BW.out.size)); clear hb1) | (go_at_call 16; (with_reducible refine Calls.mono (Read_calls b _ hbs (HB.out.below BW.out).env) ?_); rintro e w2 ⟨v2, rfl, hi2, hb2⟩; rw [HRB.out]; rw [HYB.out] at hi2; have HT2 := Lib.hid (own_texts hi2); obtain ⟨ba, bc, e2, -⟩ := id HT2.out; rw [HY.out] at e2; subst e2; clear hi2; replace HT1 := Lib.hid (HT1.out.below hb2); replace BW := Lib.hid (Below.trans BW.out (hb2.mono BW.out.size)); clear hb2))
        go_loopw [33, 11] (fun i _ wr => ∃ j : Nat, j ≤ C ∧ i = .int .i64 j ∧ Below w2.heap.size w2 wr) (fun i _ _ => C - (intOf i).toNat)
        case atStart => exact ⟨0, Nat.zero_le _, rfl, Below.refl _ _⟩
        case round =>
          obtain ⟨j, hj, rfl, hb⟩ := hrel
          have hw6 : IntKind.i64.wrap ((j : Int) + 1) = (j : Int) + 1 := IntWalk.i64_in _ (by omega)
          by_cases hlt : j < C
          · have k1 : decide ((j : Int) < (X : Int)) = true := decide_eq_true (by omega)
            have k2 : decide ((j : Int) < (Y : Int)) = true := decide_eq_true (by omega)
            have hjX : j < X := by omega
            have hjY : j < Y := by omega
            have hq := HEQ.out j hlt
            obtain ⟨xb, xo, rfl, hxB, hcx⟩ := (HT1.out.below hb).cellAt (m := j) (by rw [HX.out]; omega)
            obtain ⟨yb, yo, rfl, hyB, hcy⟩ := (HT2.out.below hb).cellAt (m := j) (by rw [HY.out]; omega)
            have q0 := fun d os => cell_regrown hcx d os
            have q1 := fun d os => cell_regrown hcy d os
            clear hcx hcy
            rw [← hq] at q1
            obtain ⟨g, hg⟩ : ∃ g, gi x default j = g := ⟨_, rfl⟩
            rw [hg] at q0 q1
            clear hq hg
            go_wp2
            refine region_q mixed (by kernel_rfl) ?_
            repeat (go_big_quiet_step (fail))
            refine wpQuiet_nil ?_
            intro wq hbq
            clear q0 q1
            go_wp2
            go_roundw
            case rel => exact ⟨j + 1, by omega, by go_num, by (repeat' (first | exact Below.refl _ _ | assumption | refine below_new ?_ _ | refine below_draw ?_ | refine below_tail (by assumption) ?_ | refine below_set ?_ (by first | omega | (simp <;> omega)) _))⟩
            case measure => simp [intOf]; omega
          · obtain rfl : j = C := by omega
            have k1 : decide ((j : Int) < (X : Int)) = true := decide_eq_true (by omega)
            have k2 : decide ((j : Int) < (Y : Int)) = true := decide_eq_true (by omega)
            have hq := HNE.out (by omega) (by omega)
            obtain ⟨xb, xo, rfl, hxB, hcx⟩ := (HT1.out.below hb).cellAt (m := j) (by rw [HX.out]; omega)
            obtain ⟨yb, yo, rfl, hyB, hcy⟩ := (HT2.out.below hb).cellAt (m := j) (by rw [HY.out]; omega)
            have q0 := fun d os => cell_regrown hcx d os
            have q1 := fun d os => cell_regrown hcy d os
            clear hcx hcy
            obtain ⟨g, hg⟩ : ∃ g, gi x default j = g := ⟨_, rfl⟩
            obtain ⟨g2, hg2⟩ : ∃ g, gi y default j = g := ⟨_, rfl⟩
            rw [hg] at q0 hq
            rw [hg2] at q1 hq
            have hdn1 : (g.toList == g2.toList) = false := beq_eq_false_iff_ne.2 (fun e => hq (list_inj e))
            clear hq hg hg2
            go_wp2
            refine region_q mixed (by kernel_rfl) ?_
            repeat (go_big_quiet_step (fail))
            refine wpQuiet_nil ?_
            intro wq hbq
            clear q0 q1
            go_wp2
            refine bodyPost_ret (v := .tuple #[.string ⟨#[]⟩, .int .i64 j, .int .i64 7]) (by simp [results, Tryz.f22, go_sem]) rfl ?_
            exact ⟨rfl, BW.out.trans (Below.mono (by (repeat' (first | exact Below.refl _ _ | assumption | refine below_new ?_ _ | refine below_draw ?_ | refine below_tail (by assumption) ?_ | refine below_set ?_ (by first | omega | (simp <;> omega)) _))) BW.out.size)⟩
      · obtain ⟨hXY1, hXY2⟩ := hXY
        have hmin : min (X : Int) (Y : Int) = X := by omega
        have kXY : decide ((X : Int) < (Y : Int)) = false := decide_eq_false (by omega)
        have kYX : decide ((Y : Int) < (X : Int)) = false := decide_eq_false (by omega)
        go_enter Tryz.func22, Tryz.ntmps22
        go_wp2_with (first | (go_at_call 16; (with_reducible refine Calls.mono (Read_calls a _ has (HB.out.below BW.out).env) ?_); rintro e w1 ⟨v1, rfl, hi1, hb1⟩; rw [HRA.out]; rw [HXA.out] at hi1; have HT1 := Lib.hid (own_texts hi1); obtain ⟨aa, ac, e1, -⟩ := id HT1.out; rw [HX.out] at e1; subst e1; clear hi1; replace BW := Lib.hid (Below.trans BW.out (hb1.mono BW.out.size)); clear hb1) | (go_at_call 16; (with_reducible refine Calls.mono (Read_calls b _ hbs (HB.out.below BW.out).env) ?_); rintro e w2 ⟨v2, rfl, hi2, hb2⟩; rw [HRB.out]; rw [HYB.out] at hi2; have HT2 := Lib.hid (own_texts hi2); obtain ⟨ba, bc, e2, -⟩ := id HT2.out; rw [HY.out] at e2; subst e2; clear hi2; replace HT1 := Lib.hid (HT1.out.below hb2); replace BW := Lib.hid (Below.trans BW.out (hb2.mono BW.out.size)); clear hb2))
        go_loopw [33, 11] (fun i _ wr => ∃ j : Nat, j ≤ C ∧ i = .int .i64 j ∧ Below w2.heap.size w2 wr) (fun i _ _ => C - (intOf i).toNat)
        case atStart => exact ⟨0, Nat.zero_le _, rfl, Below.refl _ _⟩
        case round =>
          obtain ⟨j, hj, rfl, hb⟩ := hrel
          have hw6 : IntKind.i64.wrap ((j : Int) + 1) = (j : Int) + 1 := IntWalk.i64_in _ (by omega)
          by_cases hlt : j < C
          · have k1 : decide ((j : Int) < (X : Int)) = true := decide_eq_true (by omega)
            have k2 : decide ((j : Int) < (Y : Int)) = true := decide_eq_true (by omega)
            have hjX : j < X := by omega
            have hjY : j < Y := by omega
            have hq := HEQ.out j hlt
            obtain ⟨xb, xo, rfl, hxB, hcx⟩ := (HT1.out.below hb).cellAt (m := j) (by rw [HX.out]; omega)
            obtain ⟨yb, yo, rfl, hyB, hcy⟩ := (HT2.out.below hb).cellAt (m := j) (by rw [HY.out]; omega)
            have q0 := fun d os => cell_regrown hcx d os
            have q1 := fun d os => cell_regrown hcy d os
            clear hcx hcy
            rw [← hq] at q1
            obtain ⟨g, hg⟩ : ∃ g, gi x default j = g := ⟨_, rfl⟩
            rw [hg] at q0 q1
            clear hq hg
            go_wp2
            refine region_q mixed (by kernel_rfl) ?_
            repeat (go_big_quiet_step (fail))
            refine wpQuiet_nil ?_
            intro wq hbq
            clear q0 q1
            go_wp2
            go_roundw
            case rel => exact ⟨j + 1, by omega, by go_num, by (repeat' (first | exact Below.refl _ _ | assumption | refine below_new ?_ _ | refine below_draw ?_ | refine below_tail (by assumption) ?_ | refine below_set ?_ (by first | omega | (simp <;> omega)) _))⟩
            case measure => simp [intOf]; omega
          · obtain rfl : j = C := by omega
            have k1 : decide ((j : Int) < (X : Int)) = true := decide_eq_true (by omega)
            have k2 : decide ((j : Int) < (Y : Int)) = true := decide_eq_true (by omega)
            have hq := HNE.out (by omega) (by omega)
            obtain ⟨xb, xo, rfl, hxB, hcx⟩ := (HT1.out.below hb).cellAt (m := j) (by rw [HX.out]; omega)
            obtain ⟨yb, yo, rfl, hyB, hcy⟩ := (HT2.out.below hb).cellAt (m := j) (by rw [HY.out]; omega)
            have q0 := fun d os => cell_regrown hcx d os
            have q1 := fun d os => cell_regrown hcy d os
            clear hcx hcy
            obtain ⟨g, hg⟩ : ∃ g, gi x default j = g := ⟨_, rfl⟩
            obtain ⟨g2, hg2⟩ : ∃ g, gi y default j = g := ⟨_, rfl⟩
            rw [hg] at q0 hq
            rw [hg2] at q1 hq
            have hdn1 : (g.toList == g2.toList) = false := beq_eq_false_iff_ne.2 (fun e => hq (list_inj e))
            clear hq hg hg2
            go_wp2
            refine region_q mixed (by kernel_rfl) ?_
            repeat (go_big_quiet_step (fail))
            refine wpQuiet_nil ?_
            intro wq hbq
            clear q0 q1
            go_wp2
            refine bodyPost_ret (v := .tuple #[.string ⟨#[]⟩, .int .i64 j, .int .i64 7]) (by simp [results, Tryz.f22, go_sem]) rfl ?_
            exact ⟨rfl, BW.out.trans (Below.mono (by (repeat' (first | exact Below.refl _ _ | assumption | refine below_new ?_ _ | refine below_draw ?_ | refine below_tail (by assumption) ?_ | refine below_set ?_ (by first | omega | (simp <;> omega)) _))) BW.out.size)⟩
      · have hmin : min (X : Int) (Y : Int) = Y := by omega
        have kXY : decide ((X : Int) < (Y : Int)) = false := decide_eq_false (by omega)
        have kYX : decide ((Y : Int) < (X : Int)) = true := decide_eq_true (by omega)
        go_enter Tryz.func22, Tryz.ntmps22
        go_wp2_with (first | (go_at_call 16; (with_reducible refine Calls.mono (Read_calls a _ has (HB.out.below BW.out).env) ?_); rintro e w1 ⟨v1, rfl, hi1, hb1⟩; rw [HRA.out]; rw [HXA.out] at hi1; have HT1 := Lib.hid (own_texts hi1); obtain ⟨aa, ac, e1, -⟩ := id HT1.out; rw [HX.out] at e1; subst e1; clear hi1; replace BW := Lib.hid (Below.trans BW.out (hb1.mono BW.out.size)); clear hb1) | (go_at_call 16; (with_reducible refine Calls.mono (Read_calls b _ hbs (HB.out.below BW.out).env) ?_); rintro e w2 ⟨v2, rfl, hi2, hb2⟩; rw [HRB.out]; rw [HYB.out] at hi2; have HT2 := Lib.hid (own_texts hi2); obtain ⟨ba, bc, e2, -⟩ := id HT2.out; rw [HY.out] at e2; subst e2; clear hi2; replace HT1 := Lib.hid (HT1.out.below hb2); replace BW := Lib.hid (Below.trans BW.out (hb2.mono BW.out.size)); clear hb2))
        go_loopw [33, 11] (fun i _ wr => ∃ j : Nat, j ≤ C ∧ i = .int .i64 j ∧ Below w2.heap.size w2 wr) (fun i _ _ => C - (intOf i).toNat)
        case atStart => exact ⟨0, Nat.zero_le _, rfl, Below.refl _ _⟩
        case round =>
          obtain ⟨j, hj, rfl, hb⟩ := hrel
          have hw6 : IntKind.i64.wrap ((j : Int) + 1) = (j : Int) + 1 := IntWalk.i64_in _ (by omega)
          by_cases hlt : j < C
          · have k1 : decide ((j : Int) < (X : Int)) = true := decide_eq_true (by omega)
            have k2 : decide ((j : Int) < (Y : Int)) = true := decide_eq_true (by omega)
            have hjX : j < X := by omega
            have hjY : j < Y := by omega
            have hq := HEQ.out j hlt
            obtain ⟨xb, xo, rfl, hxB, hcx⟩ := (HT1.out.below hb).cellAt (m := j) (by rw [HX.out]; omega)
            obtain ⟨yb, yo, rfl, hyB, hcy⟩ := (HT2.out.below hb).cellAt (m := j) (by rw [HY.out]; omega)
            have q0 := fun d os => cell_regrown hcx d os
            have q1 := fun d os => cell_regrown hcy d os
            clear hcx hcy
            rw [← hq] at q1
            obtain ⟨g, hg⟩ : ∃ g, gi x default j = g := ⟨_, rfl⟩
            rw [hg] at q0 q1
            clear hq hg
            go_wp2
            refine region_q mixed (by kernel_rfl) ?_
            repeat (go_big_quiet_step (fail))
            refine wpQuiet_nil ?_
            intro wq hbq
            clear q0 q1
            go_wp2
            go_roundw
            case rel => exact ⟨j + 1, by omega, by go_num, by (repeat' (first | exact Below.refl _ _ | assumption | refine below_new ?_ _ | refine below_draw ?_ | refine below_tail (by assumption) ?_ | refine below_set ?_ (by first | omega | (simp <;> omega)) _))⟩
            case measure => simp [intOf]; omega
          · obtain rfl : j = C := by omega
            have k1 : decide ((j : Int) < (X : Int)) = true := decide_eq_true (by omega)
            have k2 : decide ((j : Int) < (Y : Int)) = true := decide_eq_true (by omega)
            have hq := HNE.out (by omega) (by omega)
            obtain ⟨xb, xo, rfl, hxB, hcx⟩ := (HT1.out.below hb).cellAt (m := j) (by rw [HX.out]; omega)
            obtain ⟨yb, yo, rfl, hyB, hcy⟩ := (HT2.out.below hb).cellAt (m := j) (by rw [HY.out]; omega)
            have q0 := fun d os => cell_regrown hcx d os
            have q1 := fun d os => cell_regrown hcy d os
            clear hcx hcy
            obtain ⟨g, hg⟩ : ∃ g, gi x default j = g := ⟨_, rfl⟩
            obtain ⟨g2, hg2⟩ : ∃ g, gi y default j = g := ⟨_, rfl⟩
            rw [hg] at q0 hq
            rw [hg2] at q1 hq
            have hdn1 : (g.toList == g2.toList) = false := beq_eq_false_iff_ne.2 (fun e => hq (list_inj e))
            clear hq hg hg2
            go_wp2
            refine region_q mixed (by kernel_rfl) ?_
            repeat (go_big_quiet_step (fail))
            refine wpQuiet_nil ?_
            intro wq hbq
            clear q0 q1
            go_wp2
            refine bodyPost_ret (v := .tuple #[.string ⟨#[]⟩, .int .i64 j, .int .i64 7]) (by simp [results, Tryz.f22, go_sem]) rfl ?_
            exact ⟨rfl, BW.out.trans (Below.mono (by (repeat' (first | exact Below.refl _ _ | assumption | refine below_new ?_ _ | refine below_draw ?_ | refine below_tail (by assumption) ?_ | refine below_set ?_ (by first | omega | (simp <;> omega)) _))) BW.out.size)⟩
    · have hmin : min (X : Int) (Y : Int) = X := by omega
      have kXY : decide ((X : Int) < (Y : Int)) = true := decide_eq_true (by omega)
      have kYX : decide ((Y : Int) < (X : Int)) = false := decide_eq_false (by omega)
      go_enter Tryz.func22, Tryz.ntmps22
      go_wp2_with (first | (go_at_call 16; (with_reducible refine Calls.mono (Read_calls a _ has (HB.out.below BW.out).env) ?_); rintro e w1 ⟨v1, rfl, hi1, hb1⟩; rw [HRA.out]; rw [HXA.out] at hi1; have HT1 := Lib.hid (own_texts hi1); obtain ⟨aa, ac, e1, -⟩ := id HT1.out; rw [HX.out] at e1; subst e1; clear hi1; replace BW := Lib.hid (Below.trans BW.out (hb1.mono BW.out.size)); clear hb1) | (go_at_call 16; (with_reducible refine Calls.mono (Read_calls b _ hbs (HB.out.below BW.out).env) ?_); rintro e w2 ⟨v2, rfl, hi2, hb2⟩; rw [HRB.out]; rw [HYB.out] at hi2; have HT2 := Lib.hid (own_texts hi2); obtain ⟨ba, bc, e2, -⟩ := id HT2.out; rw [HY.out] at e2; subst e2; clear hi2; replace HT1 := Lib.hid (HT1.out.below hb2); replace BW := Lib.hid (Below.trans BW.out (hb2.mono BW.out.size)); clear hb2))
      go_loopw [33, 11] (fun i _ wr => ∃ j : Nat, j ≤ C ∧ i = .int .i64 j ∧ Below w2.heap.size w2 wr) (fun i _ _ => C - (intOf i).toNat)
      case atStart => exact ⟨0, Nat.zero_le _, rfl, Below.refl _ _⟩
      case round =>
        obtain ⟨j, hj, rfl, hb⟩ := hrel
        have hw6 : IntKind.i64.wrap ((j : Int) + 1) = (j : Int) + 1 := IntWalk.i64_in _ (by omega)
        by_cases hlt : j < C
        · have k1 : decide ((j : Int) < (X : Int)) = true := decide_eq_true (by omega)
          have k2 : decide ((j : Int) < (Y : Int)) = true := decide_eq_true (by omega)
          have hjX : j < X := by omega
          have hjY : j < Y := by omega
          have hq := HEQ.out j hlt
          obtain ⟨xb, xo, rfl, hxB, hcx⟩ := (HT1.out.below hb).cellAt (m := j) (by rw [HX.out]; omega)
          obtain ⟨yb, yo, rfl, hyB, hcy⟩ := (HT2.out.below hb).cellAt (m := j) (by rw [HY.out]; omega)
          have q0 := fun d os => cell_regrown hcx d os
          have q1 := fun d os => cell_regrown hcy d os
          clear hcx hcy
          rw [← hq] at q1
          obtain ⟨g, hg⟩ : ∃ g, gi x default j = g := ⟨_, rfl⟩
          rw [hg] at q0 q1
          clear hq hg
          go_wp2
          refine region_q mixed (by kernel_rfl) ?_
          repeat (go_big_quiet_step (fail))
          refine wpQuiet_nil ?_
          intro wq hbq
          clear q0 q1
          go_wp2
          go_roundw
          case rel => exact ⟨j + 1, by omega, by go_num, by (repeat' (first | exact Below.refl _ _ | assumption | refine below_new ?_ _ | refine below_draw ?_ | refine below_tail (by assumption) ?_ | refine below_set ?_ (by first | omega | (simp <;> omega)) _))⟩
          case measure => simp [intOf]; omega
        · obtain rfl : j = C := by omega
          have k1 : decide ((j : Int) < (X : Int)) = false := decide_eq_false (by omega)
          have k2 : decide ((j : Int) < (Y : Int)) = true := decide_eq_true (by omega)
          have hjX : ¬ j < X := by omega
          have hjY :  j < Y := by omega
          go_wp2
          refine bodyPost_ret (v := .tuple #[.string b, .int .i64 Y, .int .i64 0]) (by simp [results, Tryz.f22, go_sem]) rfl ?_
          exact ⟨rfl, BW.out.trans (Below.mono (by (repeat' (first | exact Below.refl _ _ | assumption | refine below_new ?_ _ | refine below_draw ?_ | refine below_tail (by assumption) ?_ | refine below_set ?_ (by first | omega | (simp <;> omega)) _))) BW.out.size)⟩
    · have hXY : (X ≤ Y ∧ Y ≤ X) ∨ Y < X := by omega
      rcases hXY with hXY | hXY
      · obtain ⟨hXY1, hXY2⟩ := hXY
        have hmin : min (X : Int) (Y : Int) = X := by omega
        have kXY : decide ((X : Int) < (Y : Int)) = false := decide_eq_false (by omega)
        have kYX : decide ((Y : Int) < (X : Int)) = false := decide_eq_false (by omega)
        go_enter Tryz.func22, Tryz.ntmps22
        go_wp2_with (first | (go_at_call 16; (with_reducible refine Calls.mono (Read_calls a _ has (HB.out.below BW.out).env) ?_); rintro e w1 ⟨v1, rfl, hi1, hb1⟩; rw [HRA.out]; rw [HXA.out] at hi1; have HT1 := Lib.hid (own_texts hi1); obtain ⟨aa, ac, e1, -⟩ := id HT1.out; rw [HX.out] at e1; subst e1; clear hi1; replace BW := Lib.hid (Below.trans BW.out (hb1.mono BW.out.size)); clear hb1) | (go_at_call 16; (with_reducible refine Calls.mono (Read_calls b _ hbs (HB.out.below BW.out).env) ?_); rintro e w2 ⟨v2, rfl, hi2, hb2⟩; rw [HRB.out]; rw [HYB.out] at hi2; have HT2 := Lib.hid (own_texts hi2); obtain ⟨ba, bc, e2, -⟩ := id HT2.out; rw [HY.out] at e2; subst e2; clear hi2; replace HT1 := Lib.hid (HT1.out.below hb2); replace BW := Lib.hid (Below.trans BW.out (hb2.mono BW.out.size)); clear hb2))
        go_loopw [33, 11] (fun i _ wr => ∃ j : Nat, j ≤ C ∧ i = .int .i64 j ∧ Below w2.heap.size w2 wr) (fun i _ _ => C - (intOf i).toNat)
        case atStart => exact ⟨0, Nat.zero_le _, rfl, Below.refl _ _⟩
        case round =>
          obtain ⟨j, hj, rfl, hb⟩ := hrel
          have hw6 : IntKind.i64.wrap ((j : Int) + 1) = (j : Int) + 1 := IntWalk.i64_in _ (by omega)
          by_cases hlt : j < C
          · have k1 : decide ((j : Int) < (X : Int)) = true := decide_eq_true (by omega)
            have k2 : decide ((j : Int) < (Y : Int)) = true := decide_eq_true (by omega)
            have hjX : j < X := by omega
            have hjY : j < Y := by omega
            have hq := HEQ.out j hlt
            obtain ⟨xb, xo, rfl, hxB, hcx⟩ := (HT1.out.below hb).cellAt (m := j) (by rw [HX.out]; omega)
            obtain ⟨yb, yo, rfl, hyB, hcy⟩ := (HT2.out.below hb).cellAt (m := j) (by rw [HY.out]; omega)
            have q0 := fun d os => cell_regrown hcx d os
            have q1 := fun d os => cell_regrown hcy d os
            clear hcx hcy
            rw [← hq] at q1
            obtain ⟨g, hg⟩ : ∃ g, gi x default j = g := ⟨_, rfl⟩
            rw [hg] at q0 q1
            clear hq hg
            go_wp2
            refine region_q mixed (by kernel_rfl) ?_
            repeat (go_big_quiet_step (fail))
            refine wpQuiet_nil ?_
            intro wq hbq
            clear q0 q1
            go_wp2
            go_roundw
            case rel => exact ⟨j + 1, by omega, by go_num, by (repeat' (first | exact Below.refl _ _ | assumption | refine below_new ?_ _ | refine below_draw ?_ | refine below_tail (by assumption) ?_ | refine below_set ?_ (by first | omega | (simp <;> omega)) _))⟩
            case measure => simp [intOf]; omega
          · obtain rfl : j = C := by omega
            have k1 : decide ((j : Int) < (X : Int)) = false := decide_eq_false (by omega)
            have k2 : decide ((j : Int) < (Y : Int)) = false := decide_eq_false (by omega)
            have hjX : ¬ j < X := by omega
            have hjY : ¬ j < Y := by omega
            go_wp2
            refine bodyPost_ret (v := .tuple #[.string a, .int .i64 X, .int .i64 0]) (by simp [results, Tryz.f22, go_sem]) rfl ?_
            exact ⟨rfl, BW.out.trans (Below.mono (by (repeat' (first | exact Below.refl _ _ | assumption | refine below_new ?_ _ | refine below_draw ?_ | refine below_tail (by assumption) ?_ | refine below_set ?_ (by first | omega | (simp <;> omega)) _))) BW.out.size)⟩
      · have hmin : min (X : Int) (Y : Int) = Y := by omega
        have kXY : decide ((X : Int) < (Y : Int)) = false := decide_eq_false (by omega)
        have kYX : decide ((Y : Int) < (X : Int)) = true := decide_eq_true (by omega)
        go_enter Tryz.func22, Tryz.ntmps22
        go_wp2_with (first | (go_at_call 16; (with_reducible refine Calls.mono (Read_calls a _ has (HB.out.below BW.out).env) ?_); rintro e w1 ⟨v1, rfl, hi1, hb1⟩; rw [HRA.out]; rw [HXA.out] at hi1; have HT1 := Lib.hid (own_texts hi1); obtain ⟨aa, ac, e1, -⟩ := id HT1.out; rw [HX.out] at e1; subst e1; clear hi1; replace BW := Lib.hid (Below.trans BW.out (hb1.mono BW.out.size)); clear hb1) | (go_at_call 16; (with_reducible refine Calls.mono (Read_calls b _ hbs (HB.out.below BW.out).env) ?_); rintro e w2 ⟨v2, rfl, hi2, hb2⟩; rw [HRB.out]; rw [HYB.out] at hi2; have HT2 := Lib.hid (own_texts hi2); obtain ⟨ba, bc, e2, -⟩ := id HT2.out; rw [HY.out] at e2; subst e2; clear hi2; replace HT1 := Lib.hid (HT1.out.below hb2); replace BW := Lib.hid (Below.trans BW.out (hb2.mono BW.out.size)); clear hb2))
        go_loopw [33, 11] (fun i _ wr => ∃ j : Nat, j ≤ C ∧ i = .int .i64 j ∧ Below w2.heap.size w2 wr) (fun i _ _ => C - (intOf i).toNat)
        case atStart => exact ⟨0, Nat.zero_le _, rfl, Below.refl _ _⟩
        case round =>
          obtain ⟨j, hj, rfl, hb⟩ := hrel
          have hw6 : IntKind.i64.wrap ((j : Int) + 1) = (j : Int) + 1 := IntWalk.i64_in _ (by omega)
          by_cases hlt : j < C
          · have k1 : decide ((j : Int) < (X : Int)) = true := decide_eq_true (by omega)
            have k2 : decide ((j : Int) < (Y : Int)) = true := decide_eq_true (by omega)
            have hjX : j < X := by omega
            have hjY : j < Y := by omega
            have hq := HEQ.out j hlt
            obtain ⟨xb, xo, rfl, hxB, hcx⟩ := (HT1.out.below hb).cellAt (m := j) (by rw [HX.out]; omega)
            obtain ⟨yb, yo, rfl, hyB, hcy⟩ := (HT2.out.below hb).cellAt (m := j) (by rw [HY.out]; omega)
            have q0 := fun d os => cell_regrown hcx d os
            have q1 := fun d os => cell_regrown hcy d os
            clear hcx hcy
            rw [← hq] at q1
            obtain ⟨g, hg⟩ : ∃ g, gi x default j = g := ⟨_, rfl⟩
            rw [hg] at q0 q1
            clear hq hg
            go_wp2
            refine region_q mixed (by kernel_rfl) ?_
            repeat (go_big_quiet_step (fail))
            refine wpQuiet_nil ?_
            intro wq hbq
            clear q0 q1
            go_wp2
            go_roundw
            case rel => exact ⟨j + 1, by omega, by go_num, by (repeat' (first | exact Below.refl _ _ | assumption | refine below_new ?_ _ | refine below_draw ?_ | refine below_tail (by assumption) ?_ | refine below_set ?_ (by first | omega | (simp <;> omega)) _))⟩
            case measure => simp [intOf]; omega
          · obtain rfl : j = C := by omega
            have k1 : decide ((j : Int) < (X : Int)) = true := decide_eq_true (by omega)
            have k2 : decide ((j : Int) < (Y : Int)) = false := decide_eq_false (by omega)
            have hjX :  j < X := by omega
            have hjY : ¬ j < Y := by omega
            go_wp2
            refine bodyPost_ret (v := .tuple #[.string a, .int .i64 X, .int .i64 0]) (by simp [results, Tryz.f22, go_sem]) rfl ?_
            exact ⟨rfl, BW.out.trans (Below.mono (by (repeat' (first | exact Below.refl _ _ | assumption | refine below_new ?_ _ | refine below_draw ?_ | refine below_tail (by assumption) ?_ | refine below_set ?_ (by first | omega | (simp <;> omega)) _))) BW.out.size)⟩
end Go.Proofs.YthooacpfmjpdmaaGreatDoor
