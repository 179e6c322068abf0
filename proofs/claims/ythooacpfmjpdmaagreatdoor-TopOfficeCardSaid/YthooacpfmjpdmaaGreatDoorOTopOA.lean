/- TopOffice in plain: what an office and the last hearing agree in; how the texts of hearings and objections read. Conditions: as said. -/
import Derived.Test.YthooacpfmjpdmaaGreatDoorOTell
import Derived.Test.YthooacpfmjpdmaaGreatDoorOBeside
import Derived.Test.YthooacpfmjpdmaaGreatDoorOAudit
namespace Go.Proofs.YthooacpfmjpdmaaGreatDoor
open Go.RowKit
theorem splitK_pos (k : Nat) (s : List UInt8) : 1 ≤ (Lib.splitK [32] 0 k s).length := by
  cases k with
  | zero => simp [Lib.splitK]
  | succ k => unfold Lib.splitK; split <;> simp
theorem splitK_one {k : Nat} {s : List UInt8} (h : (Lib.splitK [32] 0 k s).length = 1) : Lib.splitK [32] 0 k s = [s] := by
  cases k with
  | zero => rfl
  | succ k =>
    unfold Lib.splitK at h ⊢
    split
    · rfl
    · rename_i hx
      rw [if_neg hx, List.length_cons] at h
      have := splitK_pos k (s.drop ((Lib.index s [32]).toNat + [32].length))
      omega
theorem splitK_hit (k : Nat) {a b : List UInt8} (h : (32 : UInt8) ∉ a) : Lib.splitK [32] 0 (k + 1) (a ++ 32 :: b) = a :: Lib.splitK [32] 0 k b := by
  have hd : (a ++ (32 : UInt8) :: b).drop (a.length + 1) = b := by rw [List.drop_append]; simp
  conv => lhs; unfold Lib.splitK
  rw [index_yes h, if_neg (by simp)]
  simp only [Int.toNat_natCast, List.length_cons, List.length_nil, Nat.zero_add, Nat.add_zero]
  rw [hd, List.take_left' rfl]
theorem splitK_miss (k : Nat) {s : List UInt8} (h : (32 : UInt8) ∉ s) : Lib.splitK [32] 0 k s = [s] := by
  cases k with
  | zero => rfl
  | succ k => unfold Lib.splitK; rw [index_no h, if_pos (by decide)]
theorem words_list (o : ByteArray) : (wordsF o).map (·.data.toList) = Lib.splitK [32] 0 (Lib.countB o blank) o.data.toList := Lib.splitB_data blank 0 (Lib.countB o blank) o
theorem gi_map0 {l : List ByteArray} (h : 1 ≤ l.length) : (gi l default 0).data.toList = gi (l.map (·.data.toList)) [] 0 := by
  cases l with
  | nil => simp at h
  | cons x l => rfl
theorem formsF_no32 {y : List UInt8} {f : Frm} (h : formsF y = some f) : (32 : UInt8) ∉ y := by
  unfold formsF at h
  repeat' (split at h)
  all_goals first | (rename_i hy; subst hy; decide) | cases h | (rename_i hy _; subst hy; decide)
/-- An order of a word and one number. -/
theorem parse_word {o : ByteArray} {t : Frm} {l : List Int} (h : parseF o = some (t, l)) {W : List UInt8} {f : Frm} (hW : (32 : UInt8) ∉ W) (hf : formsF W = some f) (hinj : ∀ V, formsF V = some f → V = W) (h1 : 1 ≤ f.2.1) :
    ((W ++ [32]) <+: o.data.toList ↔ t = f) := by
  obtain ⟨-, -, -, hl, -, hfm, hn⟩ := parseF_facts h
  have hp := words_pos o
  rw [gi_map0 (by omega), words_list] at hfm
  have hlen : (l.length : Int) + 1 = (Lib.splitK [32] 0 (Lib.countB o blank) o.data.toList).length := by
    rw [← words_list, List.length_map, (numsF_range hn).1, List.length_tail]; omega
  constructor
  · rintro ⟨r, hr⟩
    have e : o.data.toList = W ++ 32 :: r := by rw [← hr]; simp
    rw [e] at hfm hlen
    cases hk : Lib.countB o blank with
    | zero =>
      rw [hk] at hfm hlen
      exfalso
      have h2 : formsF (W ++ 32 :: r) = some t := hfm
      exact formsF_no32 h2 (by simp)
    | succ k =>
      rw [hk, splitK_hit k hW] at hfm
      have h2 : formsF W = some t := hfm
      rw [hf] at h2
      injection h2 with h2
      exact h2.symm
  · rintro rfl
    rcases part_at 32 o.data.toList with hno | ⟨a, b, e, ha⟩
    · rw [splitK_miss _ hno] at hlen
      simp at hlen
      omega
    · rw [e] at hfm hlen
      cases hk : Lib.countB o blank with
      | zero =>
        rw [hk] at hlen
        have : (l.length : Int) + 1 = 1 := hlen
        omega
      | succ k =>
        rw [hk, splitK_hit k ha] at hfm
        have h2 := hinj a hfm
        subst h2
        exact ⟨b, by rw [e]; simp⟩
/-- What stands behind the word. -/
theorem parse_rest {o : ByteArray} {t : Frm} {l : List Int} (h : parseF o = some (t, l)) {W b : List UInt8} (hW : (32 : UInt8) ∉ W) (he : o.data.toList = W ++ 32 :: b) (h1 : t.2.1 = 1) : ∃ v : Int, l = [v] ∧ numF (mkB b) = some v := by
  obtain ⟨-, -, -, hl, -, hfm, hn⟩ := parseF_facts h
  have hwl := words_list o
  rw [he] at hwl
  have hlen : (wordsF o).length = 2 := by
    have := (numsF_range hn).1
    rw [List.length_tail] at this
    have := words_pos o
    omega
  have hk : ∃ k, Lib.countB o blank = k + 1 := by
    cases hk : Lib.countB o blank with
    | zero => rw [hk] at hwl; have := congrArg List.length hwl; rw [List.length_map, hlen] at this; cases this
    | succ k => exact ⟨k, rfl⟩
  obtain ⟨k, hk⟩ := hk
  rw [hk, splitK_hit k hW] at hwl
  have hone : Lib.splitK [32] 0 k b = [b] := splitK_one (by have := congrArg List.length hwl; rw [List.length_map, hlen, List.length_cons] at this; omega)
  rw [hone] at hwl
  match hw : wordsF o, hlen with
  | [y, z], _ =>
    rw [hw] at hwl hn
    simp only [List.map_cons, List.map_nil, List.cons.injEq, and_true] at hwl
    have hz : z = mkB b := by
      have : z = mkB z.data.toList := rfl
      rw [this, hwl.2]
    rw [← hz]
    have hn : numsF [z] = some l := hn
    cases hz2 : numF z with
    | none => simp [numsF, hz2] at hn
    | some v => simp [numsF, hz2] at hn; exact ⟨v, hn.symm, rfl⟩
/-- What the orders heard so far have made of the end. -/
structure Track (c : Cal) (x : Off) (h d : Int) : Prop where
  cal : x.c = c
  hd : x.s.heard = true → askedF c [h] [d] = 0 ∧ x.s.stop = endsR c h d ∧ h ≤ x.s.day
  en : x.s.ent = true → x.s.heard = true ∧ x.s.stop < x.s.day
theorem Track.new (n : Nat) (c : Cal) : Track c (newO n c) 0 0 := ⟨rfl, fun h => (by cases h), fun h => (by cases h)⟩
/-- An order that is done. -/
structure Step (x : Off) (t : Frm) (l : List Int) : Prop where
  own : ((l.take t.2.2.toNat).any fun y => decide ((x.s.strips.length : Int) ≤ y)) = false
  ok : kindE x.c x.s t.1 l = 0
theorem step_of {x : Off} {o : ByteArray} (h : stepE x o = 0) : ∃ t l, parseF o = some (t, l) ∧ Step x t l ∧ (stepO x o).s = kindS x.c x.s t.1 l ∧ (stepO x o).c = x.c := by
  cases hp : parseF o with
  | none => unfold stepE at h; rw [hp] at h; cases h
  | some p =>
    obtain ⟨t, l⟩ := p
    have hs : (stepO x o).s = kindS x.c x.s t.1 l := by
      rw [stepO_ok h]
      show stepS x o = _
      unfold stepS; rw [hp]; rfl
    refine ⟨t, l, rfl, ?_, hs, stepO_c x o⟩
    unfold stepE at h
    rw [hp] at h
    simp only [] at h
    split at h
    · cases h
    · unfold doE at h
      split at h
      · cases h
      · rename_i hown
        exact ⟨by simpa using hown, h⟩
theorem hear_ok {c : Cal} {s : St} {l : List Int} (h : kindE c s 4 l = 0) : s.heard = false ∧ askedF c [s.day] [gi l 0 0] = 0 := by
  have h : (if orFrom [whenE (decide (400 < gi l 0 0)) 1, whenE (!s.fixed) 10, whenE s.heard 6, whenE (sumI s.laid != sumI (clmF s)) 8] 0 = 0 then askedF c [s.day] [gi l 0 0]
    else orFrom [whenE (decide (400 < gi l 0 0)) 1, whenE (!s.fixed) 10, whenE s.heard 6, whenE (sumI s.laid != sumI (clmF s)) 8] 0) = 0 := h
  split at h
  · rename_i h0
    exact ⟨w0 (err4 h0).2.2.1 (by decide), h⟩
  · rename_i h0
    exact absurd h h0
theorem enter_ok {c : Cal} {s : St} {l : List Int} (he : kindE c s 8 l = 0) : s.heard = true ∧ s.stop < s.day := by
  have he : (if orFrom [whenE (!s.heard || decide (s.day ≤ s.stop)) 10, whenE s.ent 6] 0 = 0 then whenE (offB s) 8
    else orFrom [whenE (!s.heard || decide (s.day ≤ s.stop)) 10, whenE s.ent 6] 0) = 0 := he
  split at he
  · rename_i h0
    have e0 := w0 (err2 h0).1 (by decide)
    rw [Bool.or_eq_false_iff] at e0
    exact ⟨by simpa using e0.1, by have := of_decide_eq_false e0.2; omega⟩
  · rename_i h0
    exact absurd he h0
theorem object_ok {c : Cal} {s : St} {l : List Int} (h : kindE c s 5 l = 0) : s.heard = true ∧ s.day ≤ s.stop ∧ gi s.opn false (gi l 0 0).toNat = false := by
  have h : orFrom [whenE (!s.heard) 10, whenE (decide (s.stop < s.day)) 8, whenE (gi s.opn false (gi l 0 0).toNat) 6] 0 = 0 := h
  obtain ⟨h1, h2, h3⟩ := err3 h
  exact ⟨by simpa using w0 h1 (by decide), by have := of_decide_eq_false (w0 h2 (by decide)); omega, w0 h3 (by decide)⟩
/-- An order that is refused. -/
theorem Track.no {c : Cal} {x : Off} {h d : Int} {o : ByteArray} (ht : Track c x h d) (he : stepE x o ≠ 0) : Track c (stepO x o) h d := by rw [stepO_no he]; exact ht
/-- A hearing. -/
theorem Track.hear {c : Cal} {x : Off} {h d : Int} {o : ByteArray} {l : List Int} (ht : Track c x h d) (he : stepE x o = 0) (hp : parseF o = some ((4, 1, 0), l)) : Track c (stepO x o) x.s.day (gi l 0 0) := by
  obtain ⟨t, l', hp', hs, hS, hC⟩ := step_of he
  rw [hp] at hp'
  injection hp' with hp'
  injection hp' with e1 e2
  subst e1 e2
  have hk : kindE x.c x.s 4 l = 0 := hs.ok
  have h4 := hear_ok hk
  rw [ht.cal] at h4
  have hS : (stepO x o).s = { x.s with stop := endsR x.c x.s.day (gi l 0 0), heard := true } := hS
  refine ⟨hC.trans ht.cal, fun _ => ?_, fun hh => ?_⟩
  · rw [hS]
    exact ⟨h4.2, by show endsR x.c _ _ = _; rw [ht.cal], Int.le_refl _⟩
  · rw [hS] at hh
    have := (ht.en hh).1
    rw [h4.1] at this
    cases this
/-- Another order. -/
theorem Track.other {c : Cal} {x : Off} {h d : Int} {o : ByteArray} {t : Frm} {l : List Int} (ht : Track c x h d) (he : stepE x o = 0) (hp : parseF o = some (t, l)) (hne : t ≠ (4, 1, 0)) : Track c (stepO x o) h d := by
  obtain ⟨t', l', hp', hs, hS, hC⟩ := step_of he
  rw [hp] at hp'
  injection hp' with hp'
  injection hp' with e1 e2
  subst e1 e2
  obtain ⟨-, -, hfs, -, hr, -⟩ := parseF_facts hp
  have hC := hC.trans ht.cal
  have keep : (stepO x o).s.heard = x.s.heard → (stepO x o).s.stop = x.s.stop → (stepO x o).s.day = x.s.day → (stepO x o).s.ent = x.s.ent → Track c (stepO x o) h d := fun k1 k2 k3 k4 =>
    ⟨hC, fun hh => by rw [k1] at hh; rw [k2, k3]; exact ht.hd hh, fun hh => by rw [k4] at hh; rw [k1, k2, k3]; exact ht.en hh⟩
  rcases hfs with rfl | rfl | rfl | rfl | rfl | rfl | rfl | rfl | rfl
  · have hS : (stepO x o).s = { x.s with day := x.s.day + gi l 0 0 } := hS
    have h0 : 0 ≤ gi l 0 0 := by
      cases l with
      | nil => exact Int.le_refl _
      | cons a l => exact (hr a (by simp)).1
    refine ⟨hC, fun hh => ?_, fun hh => ?_⟩
    · rw [hS] at hh ⊢
      obtain ⟨a1, a2, a3⟩ := ht.hd hh
      exact ⟨a1, a2, by show h ≤ x.s.day + _; omega⟩
    · rw [hS] at hh ⊢
      obtain ⟨a1, a2⟩ := ht.en hh
      exact ⟨a1, by show x.s.stop < x.s.day + _; omega⟩
  · exact keep (by rw [hS]; rfl) (by rw [hS]; rfl) (by rw [hS]; rfl) (by rw [hS]; rfl)
  · exact keep (by rw [hS]; rfl) (by rw [hS]; rfl) (by rw [hS]; rfl) (by rw [hS]; rfl)
  · exact keep (by rw [hS]; rfl) (by rw [hS]; rfl) (by rw [hS]; rfl) (by rw [hS]; rfl)
  · exact absurd rfl hne
  · exact keep (by rw [hS]; rfl) (by rw [hS]; rfl) (by rw [hS]; rfl) (by rw [hS]; rfl)
  · exact keep (by rw [hS]; rfl) (by rw [hS]; rfl) (by rw [hS]; rfl) (by rw [hS]; rfl)
  · exact keep (by rw [hS]; rfl) (by rw [hS]; rfl) (by rw [hS]; rfl) (by rw [hS]; rfl)
  · have hS : (stepO x o).s = { x.s with ent := true } := hS
    refine ⟨hC, fun hh => ?_, fun _ => ?_⟩
    · rw [hS] at hh ⊢; exact ht.hd hh
    · rw [hS]; exact enter_ok (c := x.c) (s := x.s) (l := l) hs.ok
theorem opnF_len (l : List Bool) : (opnF l).length = l.count true := by
  have : ∀ k, k ≤ l.length → (opnK l k).length = (l.take k).count true := by
    intro k
    induction k with
    | zero => intro _; simp [opnK]
    | succ k ih =>
      intro hk
      have ht : l.take (k + 1) = l.take k ++ [l[k]] := List.take_succ_eq_append_getElem (by omega)
      rw [ht, List.count_append]
      cases hb : l[k] with
      | true => rw [opnK_yes (by rw [gi_lt (by omega)]; exact hb), List.length_append, ih (by omega)]; rfl
      | false => rw [opnK_no (by rw [gi_lt (by omega)]; exact hb), ih (by omega)]; rfl
  have h := this l.length (Nat.le_refl _)
  rwa [List.take_of_length_le (Nat.le_refl _)] at h
theorem count_set : ∀ (l : List Bool) (i : Nat), i < l.length → gi l false i = false → (l.set i true).count true = l.count true + 1
  | [], i, h, _ => by simp at h
  | y :: l, 0, _, h => by
    have : y = false := h
    subst this
    simp
  | y :: l, i + 1, h, h2 => by
    have := count_set l i (by simpa using h) (by simpa [gi] using h2)
    rw [List.set_cons_succ, List.count_cons, List.count_cons, this]
    omega
/-- An objection that is done: it was in time, and one more is open. -/
theorem Track.object {c : Cal} {x : Off} {n : Nat} {h d : Int} {o : ByteArray} {l : List Int} (ht : Track c x h d) (hm : Made n x) (he : stepE x o = 0) (hp : parseF o = some ((5, 1, 1), l)) :
    askedF c [h, x.s.day] [d] = 0 ∧ inR c h d x.s.day = true ∧ (opnF (stepO x o).s.opn).length = (opnF x.s.opn).length + 1 := by
  obtain ⟨t, l', hp', hs, hS, hC⟩ := step_of he
  rw [hp] at hp'
  injection hp' with hp'
  injection hp' with e1 e2
  subst e1 e2
  obtain ⟨-, -, -, hl, hr, -⟩ := parseF_facts hp
  obtain ⟨a, rfl⟩ := len1 (l := l) (by have : (l.length : Int) = 1 := hl; omega)
  have ha0 := (hr a (by simp)).1
  have hk : kindE x.c x.s 5 [a] = 0 := hs.ok
  obtain ⟨h1, h2, h3⟩ := object_ok hk
  obtain ⟨a1, a2, a3⟩ := ht.hd h1
  have hg := hm.good
  have hlo := hm.long
  have hal : a < n := by have := hs.own; rw [hlo.l1] at this; simpa using this
  have hask : askedF c [h, x.s.day] [d] = 0 := by
    obtain ⟨b1, b2, b3⟩ := asked_all a1
    have hd1 := hg.day0
    have hd2 := hg.day1
    unfold askedF
    have e1 : daysF [h, x.s.day] = 0 := by
      have hb := daysF_all b2 h (by simp)
      unfold daysF
      rw [if_neg]
      simp only [List.any_cons, List.any_nil, Bool.or_false, Bool.or_eq_true, not_or]
      exact ⟨by simp [dayB, withinB]; omega, by simp [dayB, withinB]; omega⟩
    rw [if_pos b1, if_pos e1]
    exact b3
  refine ⟨hask, ?_, ?_⟩
  · unfold inR
    rw [if_pos hask]
    unfold inF
    unfold endsR at a2
    rw [if_pos a1] at a2
    rw [← a2]
    simp [withinB]
    omega
  · have hS : (stepO x o).s = { x.s with opn := x.s.opn.set a.toNat true } := hS
    rw [hS, opnF_len, opnF_len]
    show (x.s.opn.set a.toNat true).count true = _
    exact count_set _ _ (by rw [hlo.l3]; omega) h3
end Go.Proofs.YthooacpfmjpdmaaGreatDoor
/- What the law of villages checks after each order: always so. Conditions: the village and the office lie as said, the office agrees with the last hearing. -/
namespace Go.Proofs.YthooacpfmjpdmaaGreatDoor
open Go.RowKit
/-- A village in memory. -/
def VillageAt (w : World) (v : Value) (k : Int) (c : Cal) (l : List ByteArray) (pr : Int) : Prop :=
  ∃ fv sv uv, v = .agg #[.int .i64 k, .int .i64 c.first, fv, sv, uv, .int .i64 pr] ∧ CalAt w (.agg #[.int .i64 c.first, fv, sv]) c ∧ TextsAt w uv l
theorem VillageAt.below {w w' : World} {v : Value} {k : Int} {c : Cal} {l : List ByteArray} {pr : Int} (h : VillageAt w v k c l pr) (hb : Below w.heap.size w w') : VillageAt w' v k c l pr := by
  obtain ⟨fv, sv, uv, e, h1, h2⟩ := h
  exact ⟨fv, sv, uv, e, h1.below hb, h2.below hb⟩

set_option maxRecDepth 100000 in
set_option maxHeartbeats 4000000 in
theorem settled_open {m : Nat} {w : World} {B n : Nat} {x : Off} {v : Value} {c : Cal} {l : List ByteArray} {pr h d : Int} (hv : VillageAt w v (n : Int) c l pr) (ho : OffS m w B n x) (hf : x.s.fixed = false) :
    Gives Tryz.prog 51 #[v, .pointer (some ⟨B, 0, none⟩), .int .i64 h, .int .i64 d] w (.bool true) := by
  obtain ⟨fv, sv, uv, rfl, hcal, htx⟩ := hv
  obtain ⟨fa, fc, sa, sc, e0, -⟩ := hcal.cells
  simp only [Value.agg.injEq, Array.mk.injEq, List.cons.injEq, and_true, true_and] at e0
  obtain ⟨rfl, rfl⟩ := e0
  obtain ⟨ua, uc, rfl, -⟩ := htx
  have HC := Lib.hid hcal
  have hmk := ho.2
  have hg := hmk.good
  have hl := hmk.long
  have n1 := hmk.n1
  have n8 := hmk.n8
  have HO := Lib.hid ho
  have hM := money_of hmk pr
  have HLA : Hid (x.s.strips.length = n) := hl.l1
  have HLB : Hid (x.s.laid.length = n) := hl.l2
  obtain ⟨NC, hNC⟩ : ∃ N, (clmF x.s).length = N := ⟨_, rfl⟩
  have HLC := Lib.hid hNC
  obtain ⟨pt, hpt⟩ : ∃ d, x.s.part = d := ⟨_, rfl⟩
  obtain ⟨st, hst⟩ : ∃ d, x.s.stop = d := ⟨_, rfl⟩
  have hQ : Hid (Below w.heap.size w (w.alloc (.cells #[.int .i64 (n : Int), .int .i64 c.first, .slice fa c.free.length fc, .slice sa c.still.length sc, .slice ua l.length uc, .int .i64 pr] 70))) := (Below.refl _ _).alloc (Nat.le_refl _) _
  have e4q : Hid (∀ o, (w.alloc (.cells #[.int .i64 (n : Int), .int .i64 c.first, .slice fa c.free.length fc, .slice sa c.still.length sc, .slice ua l.length uc, .int .i64 pr] 70)).cell? ⟨w.heap.size, o, none⟩ = (w.alloc (.cells #[.int .i64 (n : Int), .int .i64 c.first, .slice fa c.free.length fc, .slice sa c.still.length sc, .slice ua l.length uc, .int .i64 pr] 70)).cell? ⟨w.heap.size, o, none⟩) := fun o => rfl
  have hxq : w.heap.size < (w.alloc (.cells #[.int .i64 (n : Int), .int .i64 c.first, .slice fa c.free.length fc, .slice sa c.still.length sc, .slice ua l.length uc, .int .i64 pr] 70)).heap.size := by simp
  replace HO := Lib.hid (HO.out.below hQ.out)
  have hh : x.s.heard = false := by
    cases hh : x.s.heard
    · rfl
    · have := hg.hfix hh; rw [hf] at this; cases this
  have hc0 : clmF x.s = [] := clm_unfixed hf
  have hNC0 : NC = 0 := by rw [← hNC, hc0]; rfl
  subst hNC0
  have HPT : Hid (x.s.part = pt ∧ x.s.fixed = false) := ⟨hpt, hf⟩
  have HED : Hid (x.s.stop = st ∧ x.s.heard = false) := ⟨hst, hh⟩
  have HNO : Hid (opnF x.s.opn = []) := (hM.no hh).1
  have HEN : Hid (x.s.ent = false) := (hM.no hh).2
  have HPE : Hid (payE x pr = 10) := by show _ = _; unfold payE; rw [hf]; rfl
  have HPL : Hid (payL x pr = []) := by show _ = _; unfold payL; rw [HPE.out]; rfl
  have HFB : Hid (Few x.s.laid) := hM.fb
  have HSB : Hid (sumI x.s.laid = 0) := by
    show _ = _
    have h1 := hM.lo
    have h2 := hM.l0
    rw [hc0] at h1
    have : sumI ([] : List Int) = 0 := rfl
    omega
  clear hg hl hM hmk hNC hpt hst hc0 hf hh hcal ho
  unfold Gives
  go_enter Tryz.func51, Tryz.ntmps51

  go_wp2_with (first
    | (go_at_call 44; (with_reducible refine (HO.out.strips).use ?_); intro vIA w1 hi hb1; have IA := Lib.hid hi.1; clear hi; obtain ⟨aIA, pIA, eIA, -⟩ := id IA.out; rw [HLA.out] at eIA; subst eIA; replace HO := Lib.hid (HO.out.below hb1); replace e4q : Hid (∀ o, w1.cell? ⟨w.heap.size, o, none⟩ = (w.alloc (.cells #[.int .i64 (n : Int), .int .i64 c.first, .slice fa c.free.length fc, .slice sa c.still.length sc, .slice ua l.length uc, .int .i64 pr] 70)).cell? ⟨w.heap.size, o, none⟩) := fun o => (hb1.cell (p := ⟨w.heap.size, o, none⟩) hxq).trans (e4q.out o); replace hxq : w.heap.size < w1.heap.size := Nat.lt_of_lt_of_le hxq hb1.size; replace hQ := Lib.hid (Below.trans hQ.out (hb1.mono hQ.out.size)); clear hb1; (try clear e4x); have e4x := e4q.out)
    | (go_at_call 31; (with_reducible refine (HO.out.laid).use ?_); intro vIB w2 hi hb2; have IB := Lib.hid hi.1; clear hi; obtain ⟨aIB, pIB, eIB, -⟩ := id IB.out; rw [HLB.out] at eIB; subst eIB; replace HO := Lib.hid (HO.out.below hb2); replace IA := Lib.hid (IA.out.below hb2); replace e4q : Hid (∀ o, w2.cell? ⟨w.heap.size, o, none⟩ = (w.alloc (.cells #[.int .i64 (n : Int), .int .i64 c.first, .slice fa c.free.length fc, .slice sa c.still.length sc, .slice ua l.length uc, .int .i64 pr] 70)).cell? ⟨w.heap.size, o, none⟩) := fun o => (hb2.cell (p := ⟨w.heap.size, o, none⟩) hxq).trans (e4q.out o); replace hxq : w.heap.size < w2.heap.size := Nat.lt_of_lt_of_le hxq hb2.size; replace hQ := Lib.hid (Below.trans hQ.out (hb2.mono hQ.out.size)); clear hb2; (try clear e4x); have e4x := e4q.out)
    | (go_at_call 30; (with_reducible refine (HO.out.clm).use ?_); intro vIC w3 hi hb3; have IC := Lib.hid hi.1; clear hi; obtain ⟨aIC, pIC, eIC, -⟩ := id IC.out; rw [HLC.out] at eIC; subst eIC; replace HO := Lib.hid (HO.out.below hb3); replace IA := Lib.hid (IA.out.below hb3); replace IB := Lib.hid (IB.out.below hb3); replace e4q : Hid (∀ o, w3.cell? ⟨w.heap.size, o, none⟩ = (w.alloc (.cells #[.int .i64 (n : Int), .int .i64 c.first, .slice fa c.free.length fc, .slice sa c.still.length sc, .slice ua l.length uc, .int .i64 pr] 70)).cell? ⟨w.heap.size, o, none⟩) := fun o => (hb3.cell (p := ⟨w.heap.size, o, none⟩) hxq).trans (e4q.out o); replace hxq : w.heap.size < w3.heap.size := Nat.lt_of_lt_of_le hxq hb3.size; replace hQ := Lib.hid (Below.trans hQ.out (hb3.mono hQ.out.size)); clear hb3; (try clear e4x); have e4x := e4q.out)
    | (go_at_call 32; (with_reducible refine (HO.out.part HPT.out).use ?_); intro w4 hb4 hz4 hc4 hf4; clear hc4 hf4 hz4; replace HO := Lib.hid (HO.out.below hb4); replace IA := Lib.hid (IA.out.below hb4); replace IB := Lib.hid (IB.out.below hb4); replace IC := Lib.hid (IC.out.below hb4); replace e4q : Hid (∀ o, w4.cell? ⟨w.heap.size, o, none⟩ = (w.alloc (.cells #[.int .i64 (n : Int), .int .i64 c.first, .slice fa c.free.length fc, .slice sa c.still.length sc, .slice ua l.length uc, .int .i64 pr] 70)).cell? ⟨w.heap.size, o, none⟩) := fun o => (hb4.cell (p := ⟨w.heap.size, o, none⟩) hxq).trans (e4q.out o); replace hxq : w.heap.size < w4.heap.size := Nat.lt_of_lt_of_le hxq hb4.size; replace hQ := Lib.hid (Below.trans hQ.out (hb4.mono hQ.out.size)); clear hb4; (try clear e4x); have e4x := e4q.out)
    | (go_at_call 33; (with_reducible refine (HO.out.stop HED.out).use ?_); intro w5 hb5 hz5 hc5 hf5; clear hc5 hf5 hz5; replace HO := Lib.hid (HO.out.below hb5); replace IA := Lib.hid (IA.out.below hb5); replace IB := Lib.hid (IB.out.below hb5); replace IC := Lib.hid (IC.out.below hb5); replace e4q : Hid (∀ o, w5.cell? ⟨w.heap.size, o, none⟩ = (w.alloc (.cells #[.int .i64 (n : Int), .int .i64 c.first, .slice fa c.free.length fc, .slice sa c.still.length sc, .slice ua l.length uc, .int .i64 pr] 70)).cell? ⟨w.heap.size, o, none⟩) := fun o => (hb5.cell (p := ⟨w.heap.size, o, none⟩) hxq).trans (e4q.out o); replace hxq : w.heap.size < w5.heap.size := Nat.lt_of_lt_of_le hxq hb5.size; replace hQ := Lib.hid (Below.trans hQ.out (hb5.mono hQ.out.size)); clear hb5; (try clear e4x); have e4x := e4q.out)
    | (go_at_call 37; (with_reducible refine (HO.out.pay HPE.out HPL.out).mono ?_); rintro e w7 ⟨vIP, rfl, hi, hb7⟩; have IP := Lib.hid hi; clear hi; replace HO := Lib.hid (HO.out.below hb7); replace IA := Lib.hid (IA.out.below hb7); replace IB := Lib.hid (IB.out.below hb7); replace IC := Lib.hid (IC.out.below hb7); replace e4q : Hid (∀ o, w7.cell? ⟨w.heap.size, o, none⟩ = (w.alloc (.cells #[.int .i64 (n : Int), .int .i64 c.first, .slice fa c.free.length fc, .slice sa c.still.length sc, .slice ua l.length uc, .int .i64 pr] 70)).cell? ⟨w.heap.size, o, none⟩) := fun o => (hb7.cell (p := ⟨w.heap.size, o, none⟩) hxq).trans (e4q.out o); replace hxq : w.heap.size < w7.heap.size := Nat.lt_of_lt_of_le hxq hb7.size; replace hQ := Lib.hid (Below.trans hQ.out (hb7.mono hQ.out.size)); clear hb7; (try clear e4x); have e4x := e4q.out)
    | (go_at_call 82; (with_reducible refine (tsum_is IB.out HFB.out HSB.out).use ?_))
    | (go_at_call 35; (with_reducible refine (HO.out.opn0 HNO.out).use ?_); intro vO w11 hi hb11; obtain ⟨aO, pO, eO⟩ := ints_none hi.1; subst eO; clear hi; replace HO := Lib.hid (HO.out.below hb11); replace IA := Lib.hid (IA.out.below hb11); replace IB := Lib.hid (IB.out.below hb11); replace IC := Lib.hid (IC.out.below hb11); replace e4q : Hid (∀ o, w11.cell? ⟨w.heap.size, o, none⟩ = (w.alloc (.cells #[.int .i64 (n : Int), .int .i64 c.first, .slice fa c.free.length fc, .slice sa c.still.length sc, .slice ua l.length uc, .int .i64 pr] 70)).cell? ⟨w.heap.size, o, none⟩) := fun o => (hb11.cell (p := ⟨w.heap.size, o, none⟩) hxq).trans (e4q.out o); replace hxq : w.heap.size < w11.heap.size := Nat.lt_of_lt_of_le hxq hb11.size; replace hQ := Lib.hid (Below.trans hQ.out (hb11.mono hQ.out.size)); clear hb11; (try clear e4x); have e4x := e4q.out)
    | (go_at_call 36; (with_reducible refine (HO.out.ent HEN.out).use ?_); intro w12 hb12 hz12 hc12 hf12; clear hc12 hf12 hz12; replace HO := Lib.hid (HO.out.below hb12); replace e4q : Hid (∀ o, w12.cell? ⟨w.heap.size, o, none⟩ = (w.alloc (.cells #[.int .i64 (n : Int), .int .i64 c.first, .slice fa c.free.length fc, .slice sa c.still.length sc, .slice ua l.length uc, .int .i64 pr] 70)).cell? ⟨w.heap.size, o, none⟩) := fun o => (hb12.cell (p := ⟨w.heap.size, o, none⟩) hxq).trans (e4q.out o); replace hxq : w.heap.size < w12.heap.size := Nat.lt_of_lt_of_le hxq hb12.size; replace hQ := Lib.hid (Below.trans hQ.out (hb12.mono hQ.out.size)); clear hb12; (try clear e4x); have e4x := e4q.out))
  go_ret
  exact ⟨rfl, hQ.out⟩

set_option maxRecDepth 100000 in
set_option maxHeartbeats 4000000 in
theorem settled_planA {m : Nat} {w : World} {B n : Nat} {x : Off} {v : Value} {c : Cal} {l : List ByteArray} {pr h d : Int} (hv : VillageAt w v (n : Int) c l pr) (ho : OffS m w B n x) (hf : x.s.fixed = true) (hh : x.s.heard = false) (hpr0 : 0 ≤ pr) (hpr1 : pr ≤ 1000) :
    Gives Tryz.prog 51 #[v, .pointer (some ⟨B, 0, none⟩), .int .i64 h, .int .i64 d] w (.bool true) := by
  obtain ⟨fv, sv, uv, rfl, hcal, htx⟩ := hv
  obtain ⟨fa, fc, sa, sc, e0, -⟩ := hcal.cells
  simp only [Value.agg.injEq, Array.mk.injEq, List.cons.injEq, and_true, true_and] at e0
  obtain ⟨rfl, rfl⟩ := e0
  obtain ⟨ua, uc, rfl, -⟩ := htx
  have HC := Lib.hid hcal
  have hmk := ho.2
  have hg := hmk.good
  have hl := hmk.long
  have n1 := hmk.n1
  have n8 := hmk.n8
  have HO := Lib.hid ho
  have hM := money_of hmk pr
  have HLA : Hid (x.s.strips.length = n) := hl.l1
  have HLB : Hid (x.s.laid.length = n) := hl.l2
  obtain ⟨NC, hNC⟩ : ∃ N, (clmF x.s).length = N := ⟨_, rfl⟩
  have HLC := Lib.hid hNC
  obtain ⟨pt, hpt⟩ : ∃ d, x.s.part = d := ⟨_, rfl⟩
  obtain ⟨st, hst⟩ : ∃ d, x.s.stop = d := ⟨_, rfl⟩
  have hQ : Hid (Below w.heap.size w (w.alloc (.cells #[.int .i64 (n : Int), .int .i64 c.first, .slice fa c.free.length fc, .slice sa c.still.length sc, .slice ua l.length uc, .int .i64 pr] 70))) := (Below.refl _ _).alloc (Nat.le_refl _) _
  have e4q : Hid (∀ o, (w.alloc (.cells #[.int .i64 (n : Int), .int .i64 c.first, .slice fa c.free.length fc, .slice sa c.still.length sc, .slice ua l.length uc, .int .i64 pr] 70)).cell? ⟨w.heap.size, o, none⟩ = (w.alloc (.cells #[.int .i64 (n : Int), .int .i64 c.first, .slice fa c.free.length fc, .slice sa c.still.length sc, .slice ua l.length uc, .int .i64 pr] 70)).cell? ⟨w.heap.size, o, none⟩) := fun o => rfl
  have hxq : w.heap.size < (w.alloc (.cells #[.int .i64 (n : Int), .int .i64 c.first, .slice fa c.free.length fc, .slice sa c.still.length sc, .slice ua l.length uc, .int .i64 pr] 70)).heap.size := by simp
  replace HO := Lib.hid (HO.out.below hQ.out)
  have hcc := clm_claims hg hl n1 n8 hf
  have HPT : Hid (x.s.part = pt ∧ x.s.fixed = true) := ⟨hpt, hf⟩
  have hp0 : 0 ≤ pt := by rw [← hpt]; exact hg.part0
  have hp1 : pt ≤ 100 := by rw [← hpt]; exact hg.part1
  have HDC : Hid (dedF x.s.strips pt = clmF x.s) := by show _ = _; unfold clmF; rw [if_pos hf, hpt]
  have HCB : Hid (claimsB x.s.strips = true) := by show _ = _; rw [claimsB_iff, hl.l1]; exact ⟨⟨n1, n8⟩, hg.str⟩
  have HCC : Hid (claimsB (clmF x.s) = true) := hcc
  have HLL : Hid (x.s.laid.length = (clmF x.s).length) := by show _ = _; rw [clm_long hl hf, hl.l2]
  have HLR : Hid (∀ y ∈ x.s.laid, 0 ≤ y ∧ y ≤ 10000) := laid_range hg hl n1 n8
  have HFB : Hid (Few x.s.laid) := hM.fb
  have HFC : Hid (Few (clmF x.s)) := hM.fa
  obtain ⟨cs, hcs⟩ : ∃ s, sumI (clmF x.s) = s := ⟨_, rfl⟩
  obtain ⟨ls, hls⟩ : ∃ s, sumI x.s.laid = s := ⟨_, rfl⟩
  have HSC := Lib.hid hcs
  have HSB := Lib.hid hls
  rw [hcs, hls] at hM
  have hlo := hM.lo
  have kls : decide (cs < ls) = false := decide_eq_false (by omega)
  have kls' : ¬ cs < ls := by omega
  have HPE : Hid (payE x pr = 0) := by show _ = _; unfold payE; rw [if_pos hf, if_pos ⟨hpr0, hpr1⟩]
  have HPL : Hid (payL x pr = payF (clmF x.s) x.s.laid pr) := by show _ = _; unfold payL; rw [if_pos HPE.out]
  have HED : Hid (x.s.stop = st ∧ x.s.heard = false) := ⟨hst, hh⟩
  have HNO : Hid (opnF x.s.opn = []) := (hM.no hh).1
  have HEN : Hid (x.s.ent = false) := (hM.no hh).2
  clear hg hl hM hmk hNC hpt hst hf hh hcal ho hcc hcs hls
  unfold Gives
  go_enter Tryz.func51, Tryz.ntmps51

  go_wp2_with (first
    | (go_at_call 44; (with_reducible refine (HO.out.strips).use ?_); intro vIA w1 hi hb1; have IA := Lib.hid hi.1; clear hi; obtain ⟨aIA, pIA, eIA, -⟩ := id IA.out; rw [HLA.out] at eIA; subst eIA; replace HO := Lib.hid (HO.out.below hb1); replace e4q : Hid (∀ o, w1.cell? ⟨w.heap.size, o, none⟩ = (w.alloc (.cells #[.int .i64 (n : Int), .int .i64 c.first, .slice fa c.free.length fc, .slice sa c.still.length sc, .slice ua l.length uc, .int .i64 pr] 70)).cell? ⟨w.heap.size, o, none⟩) := fun o => (hb1.cell (p := ⟨w.heap.size, o, none⟩) hxq).trans (e4q.out o); replace hxq : w.heap.size < w1.heap.size := Nat.lt_of_lt_of_le hxq hb1.size; replace hQ := Lib.hid (Below.trans hQ.out (hb1.mono hQ.out.size)); clear hb1; (try clear e4x); have e4x := e4q.out)
    | (go_at_call 31; (with_reducible refine (HO.out.laid).use ?_); intro vIB w2 hi hb2; have IB := Lib.hid hi.1; clear hi; obtain ⟨aIB, pIB, eIB, -⟩ := id IB.out; rw [HLB.out] at eIB; subst eIB; replace HO := Lib.hid (HO.out.below hb2); replace IA := Lib.hid (IA.out.below hb2); replace e4q : Hid (∀ o, w2.cell? ⟨w.heap.size, o, none⟩ = (w.alloc (.cells #[.int .i64 (n : Int), .int .i64 c.first, .slice fa c.free.length fc, .slice sa c.still.length sc, .slice ua l.length uc, .int .i64 pr] 70)).cell? ⟨w.heap.size, o, none⟩) := fun o => (hb2.cell (p := ⟨w.heap.size, o, none⟩) hxq).trans (e4q.out o); replace hxq : w.heap.size < w2.heap.size := Nat.lt_of_lt_of_le hxq hb2.size; replace hQ := Lib.hid (Below.trans hQ.out (hb2.mono hQ.out.size)); clear hb2; (try clear e4x); have e4x := e4q.out)
    | (go_at_call 30; (with_reducible refine (HO.out.clm).use ?_); intro vIC w3 hi hb3; have IC := Lib.hid hi.1; clear hi; obtain ⟨aIC, pIC, eIC, -⟩ := id IC.out; rw [HLC.out] at eIC; subst eIC; replace HO := Lib.hid (HO.out.below hb3); replace IA := Lib.hid (IA.out.below hb3); replace IB := Lib.hid (IB.out.below hb3); replace e4q : Hid (∀ o, w3.cell? ⟨w.heap.size, o, none⟩ = (w.alloc (.cells #[.int .i64 (n : Int), .int .i64 c.first, .slice fa c.free.length fc, .slice sa c.still.length sc, .slice ua l.length uc, .int .i64 pr] 70)).cell? ⟨w.heap.size, o, none⟩) := fun o => (hb3.cell (p := ⟨w.heap.size, o, none⟩) hxq).trans (e4q.out o); replace hxq : w.heap.size < w3.heap.size := Nat.lt_of_lt_of_le hxq hb3.size; replace hQ := Lib.hid (Below.trans hQ.out (hb3.mono hQ.out.size)); clear hb3; (try clear e4x); have e4x := e4q.out)
    | (go_at_call 32; (with_reducible refine (HO.out.part HPT.out).use ?_); intro w4 hb4 hz4 hc4 hf4; clear hc4 hf4 hz4; replace HO := Lib.hid (HO.out.below hb4); replace IA := Lib.hid (IA.out.below hb4); replace IB := Lib.hid (IB.out.below hb4); replace IC := Lib.hid (IC.out.below hb4); replace e4q : Hid (∀ o, w4.cell? ⟨w.heap.size, o, none⟩ = (w.alloc (.cells #[.int .i64 (n : Int), .int .i64 c.first, .slice fa c.free.length fc, .slice sa c.still.length sc, .slice ua l.length uc, .int .i64 pr] 70)).cell? ⟨w.heap.size, o, none⟩) := fun o => (hb4.cell (p := ⟨w.heap.size, o, none⟩) hxq).trans (e4q.out o); replace hxq : w.heap.size < w4.heap.size := Nat.lt_of_lt_of_le hxq hb4.size; replace hQ := Lib.hid (Below.trans hQ.out (hb4.mono hQ.out.size)); clear hb4; (try clear e4x); have e4x := e4q.out)
    | (go_at_call 33; (with_reducible refine (HO.out.stop HED.out).use ?_); intro w5 hb5 hz5 hc5 hf5; clear hc5 hf5 hz5; replace HO := Lib.hid (HO.out.below hb5); replace IA := Lib.hid (IA.out.below hb5); replace IB := Lib.hid (IB.out.below hb5); replace IC := Lib.hid (IC.out.below hb5); replace e4q : Hid (∀ o, w5.cell? ⟨w.heap.size, o, none⟩ = (w.alloc (.cells #[.int .i64 (n : Int), .int .i64 c.first, .slice fa c.free.length fc, .slice sa c.still.length sc, .slice ua l.length uc, .int .i64 pr] 70)).cell? ⟨w.heap.size, o, none⟩) := fun o => (hb5.cell (p := ⟨w.heap.size, o, none⟩) hxq).trans (e4q.out o); replace hxq : w.heap.size < w5.heap.size := Nat.lt_of_lt_of_le hxq hb5.size; replace hQ := Lib.hid (Below.trans hQ.out (hb5.mono hQ.out.size)); clear hb5; (try clear e4x); have e4x := e4q.out)
    | (go_at_call 83; (with_reducible refine (Deduct_calls _ _ _ _ IA.out HCB.out hp0 hp1).mono ?_); rintro e w6 ⟨v6, rfl, hi, hb6⟩; rw [HDC.out] at hi; have ID := Lib.hid hi.1; clear hi; replace HO := Lib.hid (HO.out.below hb6); replace IA := Lib.hid (IA.out.below hb6); replace IB := Lib.hid (IB.out.below hb6); replace IC := Lib.hid (IC.out.below hb6); replace e4q : Hid (∀ o, w6.cell? ⟨w.heap.size, o, none⟩ = (w.alloc (.cells #[.int .i64 (n : Int), .int .i64 c.first, .slice fa c.free.length fc, .slice sa c.still.length sc, .slice ua l.length uc, .int .i64 pr] 70)).cell? ⟨w.heap.size, o, none⟩) := fun o => (hb6.cell (p := ⟨w.heap.size, o, none⟩) hxq).trans (e4q.out o); replace hxq : w.heap.size < w6.heap.size := Nat.lt_of_lt_of_le hxq hb6.size; replace hQ := Lib.hid (Below.trans hQ.out (hb6.mono hQ.out.size)); clear hb6; (try clear e4x); have e4x := e4q.out)
    | (go_at_call 37; (with_reducible refine (HO.out.pay HPE.out HPL.out).mono ?_); rintro e w7 ⟨vIP, rfl, hi, hb7⟩; have IP := Lib.hid hi; clear hi; replace HO := Lib.hid (HO.out.below hb7); replace IA := Lib.hid (IA.out.below hb7); replace IB := Lib.hid (IB.out.below hb7); replace IC := Lib.hid (IC.out.below hb7); replace ID := Lib.hid (ID.out.below hb7); replace e4q : Hid (∀ o, w7.cell? ⟨w.heap.size, o, none⟩ = (w.alloc (.cells #[.int .i64 (n : Int), .int .i64 c.first, .slice fa c.free.length fc, .slice sa c.still.length sc, .slice ua l.length uc, .int .i64 pr] 70)).cell? ⟨w.heap.size, o, none⟩) := fun o => (hb7.cell (p := ⟨w.heap.size, o, none⟩) hxq).trans (e4q.out o); replace hxq : w.heap.size < w7.heap.size := Nat.lt_of_lt_of_le hxq hb7.size; replace hQ := Lib.hid (Below.trans hQ.out (hb7.mono hQ.out.size)); clear hb7; (try clear e4x); have e4x := e4q.out)
    | (go_at_call 68; (with_reducible refine (Pay_ok _ _ _ _ _ _ IC.out IB.out HCC.out HLL.out HLR.out hpr0 hpr1).mono ?_); rintro e w8 ⟨v8, rfl, hi, hb8⟩; have IW := Lib.hid hi.1; clear hi; replace HO := Lib.hid (HO.out.below hb8); replace IA := Lib.hid (IA.out.below hb8); replace IB := Lib.hid (IB.out.below hb8); replace IC := Lib.hid (IC.out.below hb8); replace ID := Lib.hid (ID.out.below hb8); replace IP := Lib.hid (IP.out.below hb8); replace e4q : Hid (∀ o, w8.cell? ⟨w.heap.size, o, none⟩ = (w.alloc (.cells #[.int .i64 (n : Int), .int .i64 c.first, .slice fa c.free.length fc, .slice sa c.still.length sc, .slice ua l.length uc, .int .i64 pr] 70)).cell? ⟨w.heap.size, o, none⟩) := fun o => (hb8.cell (p := ⟨w.heap.size, o, none⟩) hxq).trans (e4q.out o); replace hxq : w.heap.size < w8.heap.size := Nat.lt_of_lt_of_le hxq hb8.size; replace hQ := Lib.hid (Below.trans hQ.out (hb8.mono hQ.out.size)); clear hb8; (try clear e4x); have e4x := e4q.out)
    | (go_at_call 46; (with_reducible refine (sameInts8_is (t := true) ID.out IC.out (by simp)).use ?_); intro w9 hb9 hz9 hc9 hf9; clear hc9 hf9 hz9; replace HO := Lib.hid (HO.out.below hb9); replace IA := Lib.hid (IA.out.below hb9); replace IB := Lib.hid (IB.out.below hb9); replace IC := Lib.hid (IC.out.below hb9); replace IP := Lib.hid (IP.out.below hb9); replace IW := Lib.hid (IW.out.below hb9); replace e4q : Hid (∀ o, w9.cell? ⟨w.heap.size, o, none⟩ = (w.alloc (.cells #[.int .i64 (n : Int), .int .i64 c.first, .slice fa c.free.length fc, .slice sa c.still.length sc, .slice ua l.length uc, .int .i64 pr] 70)).cell? ⟨w.heap.size, o, none⟩) := fun o => (hb9.cell (p := ⟨w.heap.size, o, none⟩) hxq).trans (e4q.out o); replace hxq : w.heap.size < w9.heap.size := Nat.lt_of_lt_of_le hxq hb9.size; replace hQ := Lib.hid (Below.trans hQ.out (hb9.mono hQ.out.size)); clear hb9; (try clear e4x); have e4x := e4q.out)
    | (go_at_call 46; (with_reducible refine (sameInts8_is (t := true) IP.out IW.out (by simp)).use ?_); intro w10 hb10 hz10 hc10 hf10; clear hc10 hf10 hz10; replace HO := Lib.hid (HO.out.below hb10); replace IA := Lib.hid (IA.out.below hb10); replace IB := Lib.hid (IB.out.below hb10); replace IC := Lib.hid (IC.out.below hb10); replace IP := Lib.hid (IP.out.below hb10); replace e4q : Hid (∀ o, w10.cell? ⟨w.heap.size, o, none⟩ = (w.alloc (.cells #[.int .i64 (n : Int), .int .i64 c.first, .slice fa c.free.length fc, .slice sa c.still.length sc, .slice ua l.length uc, .int .i64 pr] 70)).cell? ⟨w.heap.size, o, none⟩) := fun o => (hb10.cell (p := ⟨w.heap.size, o, none⟩) hxq).trans (e4q.out o); replace hxq : w.heap.size < w10.heap.size := Nat.lt_of_lt_of_le hxq hb10.size; replace hQ := Lib.hid (Below.trans hQ.out (hb10.mono hQ.out.size)); clear hb10; (try clear e4x); have e4x := e4q.out)
    | (go_at_call 82; (with_reducible refine (tsum_is IB.out HFB.out HSB.out).use ?_))
    | (go_at_call 82; (with_reducible refine (tsum_is IC.out HFC.out HSC.out).use ?_))
    | (go_at_call 35; (with_reducible refine (HO.out.opn0 HNO.out).use ?_); intro vO w11 hi hb11; obtain ⟨aO, pO, eO⟩ := ints_none hi.1; subst eO; clear hi; replace HO := Lib.hid (HO.out.below hb11); replace IA := Lib.hid (IA.out.below hb11); replace IB := Lib.hid (IB.out.below hb11); replace IC := Lib.hid (IC.out.below hb11); replace e4q : Hid (∀ o, w11.cell? ⟨w.heap.size, o, none⟩ = (w.alloc (.cells #[.int .i64 (n : Int), .int .i64 c.first, .slice fa c.free.length fc, .slice sa c.still.length sc, .slice ua l.length uc, .int .i64 pr] 70)).cell? ⟨w.heap.size, o, none⟩) := fun o => (hb11.cell (p := ⟨w.heap.size, o, none⟩) hxq).trans (e4q.out o); replace hxq : w.heap.size < w11.heap.size := Nat.lt_of_lt_of_le hxq hb11.size; replace hQ := Lib.hid (Below.trans hQ.out (hb11.mono hQ.out.size)); clear hb11; (try clear e4x); have e4x := e4q.out)
    | (go_at_call 36; (with_reducible refine (HO.out.ent HEN.out).use ?_); intro w12 hb12 hz12 hc12 hf12; clear hc12 hf12 hz12; replace HO := Lib.hid (HO.out.below hb12); replace e4q : Hid (∀ o, w12.cell? ⟨w.heap.size, o, none⟩ = (w.alloc (.cells #[.int .i64 (n : Int), .int .i64 c.first, .slice fa c.free.length fc, .slice sa c.still.length sc, .slice ua l.length uc, .int .i64 pr] 70)).cell? ⟨w.heap.size, o, none⟩) := fun o => (hb12.cell (p := ⟨w.heap.size, o, none⟩) hxq).trans (e4q.out o); replace hxq : w.heap.size < w12.heap.size := Nat.lt_of_lt_of_le hxq hb12.size; replace hQ := Lib.hid (Below.trans hQ.out (hb12.mono hQ.out.size)); clear hb12; (try clear e4x); have e4x := e4q.out))
  go_ret
  exact ⟨rfl, hQ.out⟩

set_option maxRecDepth 100000 in
set_option maxHeartbeats 4000000 in
theorem settled_planB {m : Nat} {w : World} {B n : Nat} {x : Off} {v : Value} {c : Cal} {l : List ByteArray} {pr h d : Int} (hv : VillageAt w v (n : Int) c l pr) (ho : OffS m w B n x) (hf : x.s.fixed = true) (hh : x.s.heard = false) (hprb : pr < 0 ∨ 1000 < pr) :
    Gives Tryz.prog 51 #[v, .pointer (some ⟨B, 0, none⟩), .int .i64 h, .int .i64 d] w (.bool true) := by
  obtain ⟨fv, sv, uv, rfl, hcal, htx⟩ := hv
  obtain ⟨fa, fc, sa, sc, e0, -⟩ := hcal.cells
  simp only [Value.agg.injEq, Array.mk.injEq, List.cons.injEq, and_true, true_and] at e0
  obtain ⟨rfl, rfl⟩ := e0
  obtain ⟨ua, uc, rfl, -⟩ := htx
  have HC := Lib.hid hcal
  have hmk := ho.2
  have hg := hmk.good
  have hl := hmk.long
  have n1 := hmk.n1
  have n8 := hmk.n8
  have HO := Lib.hid ho
  have hM := money_of hmk pr
  have HLA : Hid (x.s.strips.length = n) := hl.l1
  have HLB : Hid (x.s.laid.length = n) := hl.l2
  obtain ⟨NC, hNC⟩ : ∃ N, (clmF x.s).length = N := ⟨_, rfl⟩
  have HLC := Lib.hid hNC
  obtain ⟨pt, hpt⟩ : ∃ d, x.s.part = d := ⟨_, rfl⟩
  obtain ⟨st, hst⟩ : ∃ d, x.s.stop = d := ⟨_, rfl⟩
  have hQ : Hid (Below w.heap.size w (w.alloc (.cells #[.int .i64 (n : Int), .int .i64 c.first, .slice fa c.free.length fc, .slice sa c.still.length sc, .slice ua l.length uc, .int .i64 pr] 70))) := (Below.refl _ _).alloc (Nat.le_refl _) _
  have e4q : Hid (∀ o, (w.alloc (.cells #[.int .i64 (n : Int), .int .i64 c.first, .slice fa c.free.length fc, .slice sa c.still.length sc, .slice ua l.length uc, .int .i64 pr] 70)).cell? ⟨w.heap.size, o, none⟩ = (w.alloc (.cells #[.int .i64 (n : Int), .int .i64 c.first, .slice fa c.free.length fc, .slice sa c.still.length sc, .slice ua l.length uc, .int .i64 pr] 70)).cell? ⟨w.heap.size, o, none⟩) := fun o => rfl
  have hxq : w.heap.size < (w.alloc (.cells #[.int .i64 (n : Int), .int .i64 c.first, .slice fa c.free.length fc, .slice sa c.still.length sc, .slice ua l.length uc, .int .i64 pr] 70)).heap.size := by simp
  replace HO := Lib.hid (HO.out.below hQ.out)
  have hcc := clm_claims hg hl n1 n8 hf
  have HPT : Hid (x.s.part = pt ∧ x.s.fixed = true) := ⟨hpt, hf⟩
  have hp0 : 0 ≤ pt := by rw [← hpt]; exact hg.part0
  have hp1 : pt ≤ 100 := by rw [← hpt]; exact hg.part1
  have HDC : Hid (dedF x.s.strips pt = clmF x.s) := by show _ = _; unfold clmF; rw [if_pos hf, hpt]
  have HCB : Hid (claimsB x.s.strips = true) := by show _ = _; rw [claimsB_iff, hl.l1]; exact ⟨⟨n1, n8⟩, hg.str⟩
  have HCC : Hid (claimsB (clmF x.s) = true) := hcc
  have HLL : Hid (x.s.laid.length = (clmF x.s).length) := by show _ = _; rw [clm_long hl hf, hl.l2]
  have HLR : Hid (∀ y ∈ x.s.laid, 0 ≤ y ∧ y ≤ 10000) := laid_range hg hl n1 n8
  have HFB : Hid (Few x.s.laid) := hM.fb
  have HFC : Hid (Few (clmF x.s)) := hM.fa
  obtain ⟨cs, hcs⟩ : ∃ s, sumI (clmF x.s) = s := ⟨_, rfl⟩
  obtain ⟨ls, hls⟩ : ∃ s, sumI x.s.laid = s := ⟨_, rfl⟩
  have HSC := Lib.hid hcs
  have HSB := Lib.hid hls
  rw [hcs, hls] at hM
  have hlo := hM.lo
  have kls : decide (cs < ls) = false := decide_eq_false (by omega)
  have kls' : ¬ cs < ls := by omega
  have HPE : Hid (payE x pr = 1) := by show _ = _; unfold payE; rw [if_pos hf, if_neg (by omega)]
  have HPL : Hid (payL x pr = []) := by show _ = _; unfold payL; rw [HPE.out]; rfl
  have HED : Hid (x.s.stop = st ∧ x.s.heard = false) := ⟨hst, hh⟩
  have HNO : Hid (opnF x.s.opn = []) := (hM.no hh).1
  have HEN : Hid (x.s.ent = false) := (hM.no hh).2
  clear hg hl hM hmk hNC hpt hst hf hh hcal ho hcc hcs hls
  unfold Gives
  go_enter Tryz.func51, Tryz.ntmps51

  go_wp2_with (first
    | (go_at_call 44; (with_reducible refine (HO.out.strips).use ?_); intro vIA w1 hi hb1; have IA := Lib.hid hi.1; clear hi; obtain ⟨aIA, pIA, eIA, -⟩ := id IA.out; rw [HLA.out] at eIA; subst eIA; replace HO := Lib.hid (HO.out.below hb1); replace e4q : Hid (∀ o, w1.cell? ⟨w.heap.size, o, none⟩ = (w.alloc (.cells #[.int .i64 (n : Int), .int .i64 c.first, .slice fa c.free.length fc, .slice sa c.still.length sc, .slice ua l.length uc, .int .i64 pr] 70)).cell? ⟨w.heap.size, o, none⟩) := fun o => (hb1.cell (p := ⟨w.heap.size, o, none⟩) hxq).trans (e4q.out o); replace hxq : w.heap.size < w1.heap.size := Nat.lt_of_lt_of_le hxq hb1.size; replace hQ := Lib.hid (Below.trans hQ.out (hb1.mono hQ.out.size)); clear hb1; (try clear e4x); have e4x := e4q.out)
    | (go_at_call 31; (with_reducible refine (HO.out.laid).use ?_); intro vIB w2 hi hb2; have IB := Lib.hid hi.1; clear hi; obtain ⟨aIB, pIB, eIB, -⟩ := id IB.out; rw [HLB.out] at eIB; subst eIB; replace HO := Lib.hid (HO.out.below hb2); replace IA := Lib.hid (IA.out.below hb2); replace e4q : Hid (∀ o, w2.cell? ⟨w.heap.size, o, none⟩ = (w.alloc (.cells #[.int .i64 (n : Int), .int .i64 c.first, .slice fa c.free.length fc, .slice sa c.still.length sc, .slice ua l.length uc, .int .i64 pr] 70)).cell? ⟨w.heap.size, o, none⟩) := fun o => (hb2.cell (p := ⟨w.heap.size, o, none⟩) hxq).trans (e4q.out o); replace hxq : w.heap.size < w2.heap.size := Nat.lt_of_lt_of_le hxq hb2.size; replace hQ := Lib.hid (Below.trans hQ.out (hb2.mono hQ.out.size)); clear hb2; (try clear e4x); have e4x := e4q.out)
    | (go_at_call 30; (with_reducible refine (HO.out.clm).use ?_); intro vIC w3 hi hb3; have IC := Lib.hid hi.1; clear hi; obtain ⟨aIC, pIC, eIC, -⟩ := id IC.out; rw [HLC.out] at eIC; subst eIC; replace HO := Lib.hid (HO.out.below hb3); replace IA := Lib.hid (IA.out.below hb3); replace IB := Lib.hid (IB.out.below hb3); replace e4q : Hid (∀ o, w3.cell? ⟨w.heap.size, o, none⟩ = (w.alloc (.cells #[.int .i64 (n : Int), .int .i64 c.first, .slice fa c.free.length fc, .slice sa c.still.length sc, .slice ua l.length uc, .int .i64 pr] 70)).cell? ⟨w.heap.size, o, none⟩) := fun o => (hb3.cell (p := ⟨w.heap.size, o, none⟩) hxq).trans (e4q.out o); replace hxq : w.heap.size < w3.heap.size := Nat.lt_of_lt_of_le hxq hb3.size; replace hQ := Lib.hid (Below.trans hQ.out (hb3.mono hQ.out.size)); clear hb3; (try clear e4x); have e4x := e4q.out)
    | (go_at_call 32; (with_reducible refine (HO.out.part HPT.out).use ?_); intro w4 hb4 hz4 hc4 hf4; clear hc4 hf4 hz4; replace HO := Lib.hid (HO.out.below hb4); replace IA := Lib.hid (IA.out.below hb4); replace IB := Lib.hid (IB.out.below hb4); replace IC := Lib.hid (IC.out.below hb4); replace e4q : Hid (∀ o, w4.cell? ⟨w.heap.size, o, none⟩ = (w.alloc (.cells #[.int .i64 (n : Int), .int .i64 c.first, .slice fa c.free.length fc, .slice sa c.still.length sc, .slice ua l.length uc, .int .i64 pr] 70)).cell? ⟨w.heap.size, o, none⟩) := fun o => (hb4.cell (p := ⟨w.heap.size, o, none⟩) hxq).trans (e4q.out o); replace hxq : w.heap.size < w4.heap.size := Nat.lt_of_lt_of_le hxq hb4.size; replace hQ := Lib.hid (Below.trans hQ.out (hb4.mono hQ.out.size)); clear hb4; (try clear e4x); have e4x := e4q.out)
    | (go_at_call 33; (with_reducible refine (HO.out.stop HED.out).use ?_); intro w5 hb5 hz5 hc5 hf5; clear hc5 hf5 hz5; replace HO := Lib.hid (HO.out.below hb5); replace IA := Lib.hid (IA.out.below hb5); replace IB := Lib.hid (IB.out.below hb5); replace IC := Lib.hid (IC.out.below hb5); replace e4q : Hid (∀ o, w5.cell? ⟨w.heap.size, o, none⟩ = (w.alloc (.cells #[.int .i64 (n : Int), .int .i64 c.first, .slice fa c.free.length fc, .slice sa c.still.length sc, .slice ua l.length uc, .int .i64 pr] 70)).cell? ⟨w.heap.size, o, none⟩) := fun o => (hb5.cell (p := ⟨w.heap.size, o, none⟩) hxq).trans (e4q.out o); replace hxq : w.heap.size < w5.heap.size := Nat.lt_of_lt_of_le hxq hb5.size; replace hQ := Lib.hid (Below.trans hQ.out (hb5.mono hQ.out.size)); clear hb5; (try clear e4x); have e4x := e4q.out)
    | (go_at_call 83; (with_reducible refine (Deduct_calls _ _ _ _ IA.out HCB.out hp0 hp1).mono ?_); rintro e w6 ⟨v6, rfl, hi, hb6⟩; rw [HDC.out] at hi; have ID := Lib.hid hi.1; clear hi; replace HO := Lib.hid (HO.out.below hb6); replace IA := Lib.hid (IA.out.below hb6); replace IB := Lib.hid (IB.out.below hb6); replace IC := Lib.hid (IC.out.below hb6); replace e4q : Hid (∀ o, w6.cell? ⟨w.heap.size, o, none⟩ = (w.alloc (.cells #[.int .i64 (n : Int), .int .i64 c.first, .slice fa c.free.length fc, .slice sa c.still.length sc, .slice ua l.length uc, .int .i64 pr] 70)).cell? ⟨w.heap.size, o, none⟩) := fun o => (hb6.cell (p := ⟨w.heap.size, o, none⟩) hxq).trans (e4q.out o); replace hxq : w.heap.size < w6.heap.size := Nat.lt_of_lt_of_le hxq hb6.size; replace hQ := Lib.hid (Below.trans hQ.out (hb6.mono hQ.out.size)); clear hb6; (try clear e4x); have e4x := e4q.out)
    | (go_at_call 37; (with_reducible refine (HO.out.pay HPE.out HPL.out).mono ?_); rintro e w7 ⟨vIP, rfl, hi, hb7⟩; have IP := Lib.hid hi; clear hi; replace HO := Lib.hid (HO.out.below hb7); replace IA := Lib.hid (IA.out.below hb7); replace IB := Lib.hid (IB.out.below hb7); replace IC := Lib.hid (IC.out.below hb7); replace ID := Lib.hid (ID.out.below hb7); replace e4q : Hid (∀ o, w7.cell? ⟨w.heap.size, o, none⟩ = (w.alloc (.cells #[.int .i64 (n : Int), .int .i64 c.first, .slice fa c.free.length fc, .slice sa c.still.length sc, .slice ua l.length uc, .int .i64 pr] 70)).cell? ⟨w.heap.size, o, none⟩) := fun o => (hb7.cell (p := ⟨w.heap.size, o, none⟩) hxq).trans (e4q.out o); replace hxq : w.heap.size < w7.heap.size := Nat.lt_of_lt_of_le hxq hb7.size; replace hQ := Lib.hid (Below.trans hQ.out (hb7.mono hQ.out.size)); clear hb7; (try clear e4x); have e4x := e4q.out)
    | (go_at_call 68; (with_reducible refine (Pay_bad _ _ _ _ _ _ IC.out IB.out HCC.out HLL.out HLR.out hprb).use ?_); intro w8 hb8 hz8 hc8 hf8; clear hc8 hf8 hz8; replace HO := Lib.hid (HO.out.below hb8); replace IA := Lib.hid (IA.out.below hb8); replace IB := Lib.hid (IB.out.below hb8); replace IC := Lib.hid (IC.out.below hb8); replace ID := Lib.hid (ID.out.below hb8); replace IP := Lib.hid (IP.out.below hb8); replace e4q : Hid (∀ o, w8.cell? ⟨w.heap.size, o, none⟩ = (w.alloc (.cells #[.int .i64 (n : Int), .int .i64 c.first, .slice fa c.free.length fc, .slice sa c.still.length sc, .slice ua l.length uc, .int .i64 pr] 70)).cell? ⟨w.heap.size, o, none⟩) := fun o => (hb8.cell (p := ⟨w.heap.size, o, none⟩) hxq).trans (e4q.out o); replace hxq : w.heap.size < w8.heap.size := Nat.lt_of_lt_of_le hxq hb8.size; replace hQ := Lib.hid (Below.trans hQ.out (hb8.mono hQ.out.size)); clear hb8; have IW : Hid (IntsAt w8 (.slice none 0 0) []) := ints0 _ _ _ (by decide); (try clear e4x); have e4x := e4q.out)
    | (go_at_call 46; (with_reducible refine (sameInts8_is (t := true) ID.out IC.out (by simp)).use ?_); intro w9 hb9 hz9 hc9 hf9; clear hc9 hf9 hz9; replace HO := Lib.hid (HO.out.below hb9); replace IA := Lib.hid (IA.out.below hb9); replace IB := Lib.hid (IB.out.below hb9); replace IC := Lib.hid (IC.out.below hb9); replace IP := Lib.hid (IP.out.below hb9); replace IW := Lib.hid (IW.out.below hb9); replace e4q : Hid (∀ o, w9.cell? ⟨w.heap.size, o, none⟩ = (w.alloc (.cells #[.int .i64 (n : Int), .int .i64 c.first, .slice fa c.free.length fc, .slice sa c.still.length sc, .slice ua l.length uc, .int .i64 pr] 70)).cell? ⟨w.heap.size, o, none⟩) := fun o => (hb9.cell (p := ⟨w.heap.size, o, none⟩) hxq).trans (e4q.out o); replace hxq : w.heap.size < w9.heap.size := Nat.lt_of_lt_of_le hxq hb9.size; replace hQ := Lib.hid (Below.trans hQ.out (hb9.mono hQ.out.size)); clear hb9; (try clear e4x); have e4x := e4q.out)
    | (go_at_call 46; (with_reducible refine (sameInts8_is (t := true) IP.out IW.out (by simp)).use ?_); intro w10 hb10 hz10 hc10 hf10; clear hc10 hf10 hz10; replace HO := Lib.hid (HO.out.below hb10); replace IA := Lib.hid (IA.out.below hb10); replace IB := Lib.hid (IB.out.below hb10); replace IC := Lib.hid (IC.out.below hb10); replace IP := Lib.hid (IP.out.below hb10); replace e4q : Hid (∀ o, w10.cell? ⟨w.heap.size, o, none⟩ = (w.alloc (.cells #[.int .i64 (n : Int), .int .i64 c.first, .slice fa c.free.length fc, .slice sa c.still.length sc, .slice ua l.length uc, .int .i64 pr] 70)).cell? ⟨w.heap.size, o, none⟩) := fun o => (hb10.cell (p := ⟨w.heap.size, o, none⟩) hxq).trans (e4q.out o); replace hxq : w.heap.size < w10.heap.size := Nat.lt_of_lt_of_le hxq hb10.size; replace hQ := Lib.hid (Below.trans hQ.out (hb10.mono hQ.out.size)); clear hb10; (try clear e4x); have e4x := e4q.out)
    | (go_at_call 82; (with_reducible refine (tsum_is IB.out HFB.out HSB.out).use ?_))
    | (go_at_call 82; (with_reducible refine (tsum_is IC.out HFC.out HSC.out).use ?_))
    | (go_at_call 35; (with_reducible refine (HO.out.opn0 HNO.out).use ?_); intro vO w11 hi hb11; obtain ⟨aO, pO, eO⟩ := ints_none hi.1; subst eO; clear hi; replace HO := Lib.hid (HO.out.below hb11); replace IA := Lib.hid (IA.out.below hb11); replace IB := Lib.hid (IB.out.below hb11); replace IC := Lib.hid (IC.out.below hb11); replace e4q : Hid (∀ o, w11.cell? ⟨w.heap.size, o, none⟩ = (w.alloc (.cells #[.int .i64 (n : Int), .int .i64 c.first, .slice fa c.free.length fc, .slice sa c.still.length sc, .slice ua l.length uc, .int .i64 pr] 70)).cell? ⟨w.heap.size, o, none⟩) := fun o => (hb11.cell (p := ⟨w.heap.size, o, none⟩) hxq).trans (e4q.out o); replace hxq : w.heap.size < w11.heap.size := Nat.lt_of_lt_of_le hxq hb11.size; replace hQ := Lib.hid (Below.trans hQ.out (hb11.mono hQ.out.size)); clear hb11; (try clear e4x); have e4x := e4q.out)
    | (go_at_call 36; (with_reducible refine (HO.out.ent HEN.out).use ?_); intro w12 hb12 hz12 hc12 hf12; clear hc12 hf12 hz12; replace HO := Lib.hid (HO.out.below hb12); replace e4q : Hid (∀ o, w12.cell? ⟨w.heap.size, o, none⟩ = (w.alloc (.cells #[.int .i64 (n : Int), .int .i64 c.first, .slice fa c.free.length fc, .slice sa c.still.length sc, .slice ua l.length uc, .int .i64 pr] 70)).cell? ⟨w.heap.size, o, none⟩) := fun o => (hb12.cell (p := ⟨w.heap.size, o, none⟩) hxq).trans (e4q.out o); replace hxq : w.heap.size < w12.heap.size := Nat.lt_of_lt_of_le hxq hb12.size; replace hQ := Lib.hid (Below.trans hQ.out (hb12.mono hQ.out.size)); clear hb12; (try clear e4x); have e4x := e4q.out))
  go_ret
  exact ⟨rfl, hQ.out⟩

set_option maxRecDepth 100000 in
set_option maxHeartbeats 4000000 in
theorem settled_heardAN {m : Nat} {w : World} {B n : Nat} {x : Off} {v : Value} {c : Cal} {l : List ByteArray} {pr h d : Int} (hv : VillageAt w v (n : Int) c l pr) (ho : OffS m w B n x) (ht : Track c x h d) (hf : x.s.fixed = true) (hh : x.s.heard = true) (he : x.s.ent = false) (hpr0 : 0 ≤ pr) (hpr1 : pr ≤ 1000) :
    Gives Tryz.prog 51 #[v, .pointer (some ⟨B, 0, none⟩), .int .i64 h, .int .i64 d] w (.bool true) := by
  obtain ⟨fv, sv, uv, rfl, hcal, htx⟩ := hv
  obtain ⟨fa, fc, sa, sc, e0, -⟩ := hcal.cells
  simp only [Value.agg.injEq, Array.mk.injEq, List.cons.injEq, and_true, true_and] at e0
  obtain ⟨rfl, rfl⟩ := e0
  obtain ⟨ua, uc, rfl, -⟩ := htx
  have HC := Lib.hid hcal
  have hmk := ho.2
  have hg := hmk.good
  have hl := hmk.long
  have n1 := hmk.n1
  have n8 := hmk.n8
  have HO := Lib.hid ho
  have hM := money_of hmk pr
  have HLA : Hid (x.s.strips.length = n) := hl.l1
  have HLB : Hid (x.s.laid.length = n) := hl.l2
  obtain ⟨NC, hNC⟩ : ∃ N, (clmF x.s).length = N := ⟨_, rfl⟩
  have HLC := Lib.hid hNC
  obtain ⟨pt, hpt⟩ : ∃ d, x.s.part = d := ⟨_, rfl⟩
  obtain ⟨st, hst⟩ : ∃ d, x.s.stop = d := ⟨_, rfl⟩
  have hQ : Hid (Below w.heap.size w (w.alloc (.cells #[.int .i64 (n : Int), .int .i64 c.first, .slice fa c.free.length fc, .slice sa c.still.length sc, .slice ua l.length uc, .int .i64 pr] 70))) := (Below.refl _ _).alloc (Nat.le_refl _) _
  have e4q : Hid (∀ o, (w.alloc (.cells #[.int .i64 (n : Int), .int .i64 c.first, .slice fa c.free.length fc, .slice sa c.still.length sc, .slice ua l.length uc, .int .i64 pr] 70)).cell? ⟨w.heap.size, o, none⟩ = (w.alloc (.cells #[.int .i64 (n : Int), .int .i64 c.first, .slice fa c.free.length fc, .slice sa c.still.length sc, .slice ua l.length uc, .int .i64 pr] 70)).cell? ⟨w.heap.size, o, none⟩) := fun o => rfl
  have hxq : w.heap.size < (w.alloc (.cells #[.int .i64 (n : Int), .int .i64 c.first, .slice fa c.free.length fc, .slice sa c.still.length sc, .slice ua l.length uc, .int .i64 pr] 70)).heap.size := by simp
  replace HO := Lib.hid (HO.out.below hQ.out)
  have hcc := clm_claims hg hl n1 n8 hf
  have HPT : Hid (x.s.part = pt ∧ x.s.fixed = true) := ⟨hpt, hf⟩
  have hp0 : 0 ≤ pt := by rw [← hpt]; exact hg.part0
  have hp1 : pt ≤ 100 := by rw [← hpt]; exact hg.part1
  have HDC : Hid (dedF x.s.strips pt = clmF x.s) := by show _ = _; unfold clmF; rw [if_pos hf, hpt]
  have HCB : Hid (claimsB x.s.strips = true) := by show _ = _; rw [claimsB_iff, hl.l1]; exact ⟨⟨n1, n8⟩, hg.str⟩
  have HCC : Hid (claimsB (clmF x.s) = true) := hcc
  have HLL : Hid (x.s.laid.length = (clmF x.s).length) := by show _ = _; rw [clm_long hl hf, hl.l2]
  have HLR : Hid (∀ y ∈ x.s.laid, 0 ≤ y ∧ y ≤ 10000) := laid_range hg hl n1 n8
  have HFB : Hid (Few x.s.laid) := hM.fb
  have HFC : Hid (Few (clmF x.s)) := hM.fa
  obtain ⟨cs, hcs⟩ : ∃ s, sumI (clmF x.s) = s := ⟨_, rfl⟩
  obtain ⟨ls, hls⟩ : ∃ s, sumI x.s.laid = s := ⟨_, rfl⟩
  have HSC := Lib.hid hcs
  have HSB := Lib.hid hls
  rw [hcs, hls] at hM
  have hlo := hM.lo
  have kls : decide (cs < ls) = false := decide_eq_false (by omega)
  have kls' : ¬ cs < ls := by omega
  have HPE : Hid (payE x pr = 0) := by show _ = _; unfold payE; rw [if_pos hf, if_pos ⟨hpr0, hpr1⟩]
  have HPL : Hid (payL x pr = payF (clmF x.s) x.s.laid pr) := by show _ = _; unfold payL; rw [if_pos HPE.out]
  have HED : Hid (x.s.stop = st ∧ x.s.heard = true) := ⟨hst, hh⟩
  have HEN : Hid (x.s.ent = false) := he
  obtain ⟨dy, hdy⟩ : ∃ D, x.s.day = D := ⟨_, rfl⟩
  have HDY := Lib.hid hdy
  obtain ⟨t1, t2, -⟩ := ht.hd hh
  have HE1 : Hid (endsR c h d = st) := by show _ = _; rw [← t2]; exact hst
  have HE2 : Hid (askedF c [h] [d] = 0) := t1
  have heq : ls = cs := hM.hs hh
  subst heq
  have HFP : Hid (Few (payF (clmF x.s) x.s.laid pr)) := by
    have := hM.pay hf hpr0 hpr1
    rw [HPL.out] at this
    exact this.2.2.1
  have HSP : Hid (sumI (payF (clmF x.s) x.s.laid pr) = 0) := by
    have := hM.pay hf hpr0 hpr1
    rw [HPL.out] at this
    show _ = _
    rw [this.2.2.2, this.1, Int.sub_self, Int.zero_mul]
  clear hg hl hM hmk hNC hpt hst hf hh he hcal ho ht hcc hcs hls hdy t1 t2
  unfold Gives
  go_enter Tryz.func51, Tryz.ntmps51

  go_wp2_with (first
    | (go_at_call 44; (with_reducible refine (HO.out.strips).use ?_); intro vIA w1 hi hb1; have IA := Lib.hid hi.1; clear hi; obtain ⟨aIA, pIA, eIA, -⟩ := id IA.out; rw [HLA.out] at eIA; subst eIA; replace HO := Lib.hid (HO.out.below hb1); replace e4q : Hid (∀ o, w1.cell? ⟨w.heap.size, o, none⟩ = (w.alloc (.cells #[.int .i64 (n : Int), .int .i64 c.first, .slice fa c.free.length fc, .slice sa c.still.length sc, .slice ua l.length uc, .int .i64 pr] 70)).cell? ⟨w.heap.size, o, none⟩) := fun o => (hb1.cell (p := ⟨w.heap.size, o, none⟩) hxq).trans (e4q.out o); replace hxq : w.heap.size < w1.heap.size := Nat.lt_of_lt_of_le hxq hb1.size; replace hQ := Lib.hid (Below.trans hQ.out (hb1.mono hQ.out.size)); clear hb1; (try clear e4x); have e4x := e4q.out)
    | (go_at_call 31; (with_reducible refine (HO.out.laid).use ?_); intro vIB w2 hi hb2; have IB := Lib.hid hi.1; clear hi; obtain ⟨aIB, pIB, eIB, -⟩ := id IB.out; rw [HLB.out] at eIB; subst eIB; replace HO := Lib.hid (HO.out.below hb2); replace IA := Lib.hid (IA.out.below hb2); replace e4q : Hid (∀ o, w2.cell? ⟨w.heap.size, o, none⟩ = (w.alloc (.cells #[.int .i64 (n : Int), .int .i64 c.first, .slice fa c.free.length fc, .slice sa c.still.length sc, .slice ua l.length uc, .int .i64 pr] 70)).cell? ⟨w.heap.size, o, none⟩) := fun o => (hb2.cell (p := ⟨w.heap.size, o, none⟩) hxq).trans (e4q.out o); replace hxq : w.heap.size < w2.heap.size := Nat.lt_of_lt_of_le hxq hb2.size; replace hQ := Lib.hid (Below.trans hQ.out (hb2.mono hQ.out.size)); clear hb2; (try clear e4x); have e4x := e4q.out)
    | (go_at_call 30; (with_reducible refine (HO.out.clm).use ?_); intro vIC w3 hi hb3; have IC := Lib.hid hi.1; clear hi; obtain ⟨aIC, pIC, eIC, -⟩ := id IC.out; rw [HLC.out] at eIC; subst eIC; replace HO := Lib.hid (HO.out.below hb3); replace IA := Lib.hid (IA.out.below hb3); replace IB := Lib.hid (IB.out.below hb3); replace e4q : Hid (∀ o, w3.cell? ⟨w.heap.size, o, none⟩ = (w.alloc (.cells #[.int .i64 (n : Int), .int .i64 c.first, .slice fa c.free.length fc, .slice sa c.still.length sc, .slice ua l.length uc, .int .i64 pr] 70)).cell? ⟨w.heap.size, o, none⟩) := fun o => (hb3.cell (p := ⟨w.heap.size, o, none⟩) hxq).trans (e4q.out o); replace hxq : w.heap.size < w3.heap.size := Nat.lt_of_lt_of_le hxq hb3.size; replace hQ := Lib.hid (Below.trans hQ.out (hb3.mono hQ.out.size)); clear hb3; (try clear e4x); have e4x := e4q.out)
    | (go_at_call 32; (with_reducible refine (HO.out.part HPT.out).use ?_); intro w4 hb4 hz4 hc4 hf4; clear hc4 hf4 hz4; replace HO := Lib.hid (HO.out.below hb4); replace IA := Lib.hid (IA.out.below hb4); replace IB := Lib.hid (IB.out.below hb4); replace IC := Lib.hid (IC.out.below hb4); replace e4q : Hid (∀ o, w4.cell? ⟨w.heap.size, o, none⟩ = (w.alloc (.cells #[.int .i64 (n : Int), .int .i64 c.first, .slice fa c.free.length fc, .slice sa c.still.length sc, .slice ua l.length uc, .int .i64 pr] 70)).cell? ⟨w.heap.size, o, none⟩) := fun o => (hb4.cell (p := ⟨w.heap.size, o, none⟩) hxq).trans (e4q.out o); replace hxq : w.heap.size < w4.heap.size := Nat.lt_of_lt_of_le hxq hb4.size; replace hQ := Lib.hid (Below.trans hQ.out (hb4.mono hQ.out.size)); clear hb4; (try clear e4x); have e4x := e4q.out)
    | (go_at_call 33; (with_reducible refine (HO.out.stop HED.out).use ?_); intro w5 hb5 hz5 hc5 hf5; clear hc5 hf5 hz5; replace HO := Lib.hid (HO.out.below hb5); replace IA := Lib.hid (IA.out.below hb5); replace IB := Lib.hid (IB.out.below hb5); replace IC := Lib.hid (IC.out.below hb5); replace e4q : Hid (∀ o, w5.cell? ⟨w.heap.size, o, none⟩ = (w.alloc (.cells #[.int .i64 (n : Int), .int .i64 c.first, .slice fa c.free.length fc, .slice sa c.still.length sc, .slice ua l.length uc, .int .i64 pr] 70)).cell? ⟨w.heap.size, o, none⟩) := fun o => (hb5.cell (p := ⟨w.heap.size, o, none⟩) hxq).trans (e4q.out o); replace hxq : w.heap.size < w5.heap.size := Nat.lt_of_lt_of_le hxq hb5.size; replace hQ := Lib.hid (Below.trans hQ.out (hb5.mono hQ.out.size)); clear hb5; (try clear e4x); have e4x := e4q.out)
    | (go_at_call 83; (with_reducible refine (Deduct_calls _ _ _ _ IA.out HCB.out hp0 hp1).mono ?_); rintro e w6 ⟨v6, rfl, hi, hb6⟩; rw [HDC.out] at hi; have ID := Lib.hid hi.1; clear hi; replace HO := Lib.hid (HO.out.below hb6); replace IA := Lib.hid (IA.out.below hb6); replace IB := Lib.hid (IB.out.below hb6); replace IC := Lib.hid (IC.out.below hb6); replace e4q : Hid (∀ o, w6.cell? ⟨w.heap.size, o, none⟩ = (w.alloc (.cells #[.int .i64 (n : Int), .int .i64 c.first, .slice fa c.free.length fc, .slice sa c.still.length sc, .slice ua l.length uc, .int .i64 pr] 70)).cell? ⟨w.heap.size, o, none⟩) := fun o => (hb6.cell (p := ⟨w.heap.size, o, none⟩) hxq).trans (e4q.out o); replace hxq : w.heap.size < w6.heap.size := Nat.lt_of_lt_of_le hxq hb6.size; replace hQ := Lib.hid (Below.trans hQ.out (hb6.mono hQ.out.size)); clear hb6; (try clear e4x); have e4x := e4q.out)
    | (go_at_call 37; (with_reducible refine (HO.out.pay HPE.out HPL.out).mono ?_); rintro e w7 ⟨vIP, rfl, hi, hb7⟩; have IP := Lib.hid hi; clear hi; replace HO := Lib.hid (HO.out.below hb7); replace IA := Lib.hid (IA.out.below hb7); replace IB := Lib.hid (IB.out.below hb7); replace IC := Lib.hid (IC.out.below hb7); replace ID := Lib.hid (ID.out.below hb7); replace e4q : Hid (∀ o, w7.cell? ⟨w.heap.size, o, none⟩ = (w.alloc (.cells #[.int .i64 (n : Int), .int .i64 c.first, .slice fa c.free.length fc, .slice sa c.still.length sc, .slice ua l.length uc, .int .i64 pr] 70)).cell? ⟨w.heap.size, o, none⟩) := fun o => (hb7.cell (p := ⟨w.heap.size, o, none⟩) hxq).trans (e4q.out o); replace hxq : w.heap.size < w7.heap.size := Nat.lt_of_lt_of_le hxq hb7.size; replace hQ := Lib.hid (Below.trans hQ.out (hb7.mono hQ.out.size)); clear hb7; (try clear e4x); have e4x := e4q.out)
    | (go_at_call 68; (with_reducible refine (Pay_ok _ _ _ _ _ _ IC.out IB.out HCC.out HLL.out HLR.out hpr0 hpr1).mono ?_); rintro e w8 ⟨v8, rfl, hi, hb8⟩; have IW := Lib.hid hi.1; clear hi; replace HO := Lib.hid (HO.out.below hb8); replace IA := Lib.hid (IA.out.below hb8); replace IB := Lib.hid (IB.out.below hb8); replace IC := Lib.hid (IC.out.below hb8); replace ID := Lib.hid (ID.out.below hb8); replace IP := Lib.hid (IP.out.below hb8); replace e4q : Hid (∀ o, w8.cell? ⟨w.heap.size, o, none⟩ = (w.alloc (.cells #[.int .i64 (n : Int), .int .i64 c.first, .slice fa c.free.length fc, .slice sa c.still.length sc, .slice ua l.length uc, .int .i64 pr] 70)).cell? ⟨w.heap.size, o, none⟩) := fun o => (hb8.cell (p := ⟨w.heap.size, o, none⟩) hxq).trans (e4q.out o); replace hxq : w.heap.size < w8.heap.size := Nat.lt_of_lt_of_le hxq hb8.size; replace hQ := Lib.hid (Below.trans hQ.out (hb8.mono hQ.out.size)); clear hb8; (try clear e4x); have e4x := e4q.out)
    | (go_at_call 46; (with_reducible refine (sameInts8_is (t := true) ID.out IC.out (by simp)).use ?_); intro w9 hb9 hz9 hc9 hf9; clear hc9 hf9 hz9; replace HO := Lib.hid (HO.out.below hb9); replace IA := Lib.hid (IA.out.below hb9); replace IB := Lib.hid (IB.out.below hb9); replace IC := Lib.hid (IC.out.below hb9); replace IP := Lib.hid (IP.out.below hb9); replace IW := Lib.hid (IW.out.below hb9); replace e4q : Hid (∀ o, w9.cell? ⟨w.heap.size, o, none⟩ = (w.alloc (.cells #[.int .i64 (n : Int), .int .i64 c.first, .slice fa c.free.length fc, .slice sa c.still.length sc, .slice ua l.length uc, .int .i64 pr] 70)).cell? ⟨w.heap.size, o, none⟩) := fun o => (hb9.cell (p := ⟨w.heap.size, o, none⟩) hxq).trans (e4q.out o); replace hxq : w.heap.size < w9.heap.size := Nat.lt_of_lt_of_le hxq hb9.size; replace hQ := Lib.hid (Below.trans hQ.out (hb9.mono hQ.out.size)); clear hb9; (try clear e4x); have e4x := e4q.out)
    | (go_at_call 46; (with_reducible refine (sameInts8_is (t := true) IP.out IW.out (by simp)).use ?_); intro w10 hb10 hz10 hc10 hf10; clear hc10 hf10 hz10; replace HO := Lib.hid (HO.out.below hb10); replace IA := Lib.hid (IA.out.below hb10); replace IB := Lib.hid (IB.out.below hb10); replace IC := Lib.hid (IC.out.below hb10); replace IP := Lib.hid (IP.out.below hb10); replace e4q : Hid (∀ o, w10.cell? ⟨w.heap.size, o, none⟩ = (w.alloc (.cells #[.int .i64 (n : Int), .int .i64 c.first, .slice fa c.free.length fc, .slice sa c.still.length sc, .slice ua l.length uc, .int .i64 pr] 70)).cell? ⟨w.heap.size, o, none⟩) := fun o => (hb10.cell (p := ⟨w.heap.size, o, none⟩) hxq).trans (e4q.out o); replace hxq : w.heap.size < w10.heap.size := Nat.lt_of_lt_of_le hxq hb10.size; replace hQ := Lib.hid (Below.trans hQ.out (hb10.mono hQ.out.size)); clear hb10; (try clear e4x); have e4x := e4q.out)
    | (go_at_call 82; (with_reducible refine (tsum_is IB.out HFB.out HSB.out).use ?_))
    | (go_at_call 82; (with_reducible refine (tsum_is IC.out HFC.out HSC.out).use ?_))
    | (go_at_call 84; (with_reducible refine (Ends_calls _ c _ _ _ (HC.out.below hQ.out)).use ?_); rw [HE1.out, HE2.out]; intro w13 hb13 hz13 hc13 hf13; clear hc13 hf13 hz13; replace HO := Lib.hid (HO.out.below hb13); replace IA := Lib.hid (IA.out.below hb13); replace IB := Lib.hid (IB.out.below hb13); replace IC := Lib.hid (IC.out.below hb13); replace IP := Lib.hid (IP.out.below hb13); replace e4q : Hid (∀ o, w13.cell? ⟨w.heap.size, o, none⟩ = (w.alloc (.cells #[.int .i64 (n : Int), .int .i64 c.first, .slice fa c.free.length fc, .slice sa c.still.length sc, .slice ua l.length uc, .int .i64 pr] 70)).cell? ⟨w.heap.size, o, none⟩) := fun o => (hb13.cell (p := ⟨w.heap.size, o, none⟩) hxq).trans (e4q.out o); replace hxq : w.heap.size < w13.heap.size := Nat.lt_of_lt_of_le hxq hb13.size; replace hQ := Lib.hid (Below.trans hQ.out (hb13.mono hQ.out.size)); clear hb13; (try clear e4x); have e4x := e4q.out)
    | (go_at_call 82; (with_reducible refine (tsum_is IP.out HFP.out HSP.out).use ?_))
    | (go_at_call 36; (with_reducible refine (HO.out.ent HEN.out).use ?_); intro w14 hb14 hz14 hc14 hf14; clear hc14 hf14 hz14; replace HO := Lib.hid (HO.out.below hb14); replace e4q : Hid (∀ o, w14.cell? ⟨w.heap.size, o, none⟩ = (w.alloc (.cells #[.int .i64 (n : Int), .int .i64 c.first, .slice fa c.free.length fc, .slice sa c.still.length sc, .slice ua l.length uc, .int .i64 pr] 70)).cell? ⟨w.heap.size, o, none⟩) := fun o => (hb14.cell (p := ⟨w.heap.size, o, none⟩) hxq).trans (e4q.out o); replace hxq : w.heap.size < w14.heap.size := Nat.lt_of_lt_of_le hxq hb14.size; replace hQ := Lib.hid (Below.trans hQ.out (hb14.mono hQ.out.size)); clear hb14; (try clear e4x); have e4x := e4q.out)
    | (go_at_call 42; (with_reducible refine (HO.out.day HDY.out).use ?_); intro w15 hb15 hz15 hc15 hf15; clear hc15 hf15 hz15; replace HO := Lib.hid (HO.out.below hb15); replace e4q : Hid (∀ o, w15.cell? ⟨w.heap.size, o, none⟩ = (w.alloc (.cells #[.int .i64 (n : Int), .int .i64 c.first, .slice fa c.free.length fc, .slice sa c.still.length sc, .slice ua l.length uc, .int .i64 pr] 70)).cell? ⟨w.heap.size, o, none⟩) := fun o => (hb15.cell (p := ⟨w.heap.size, o, none⟩) hxq).trans (e4q.out o); replace hxq : w.heap.size < w15.heap.size := Nat.lt_of_lt_of_le hxq hb15.size; replace hQ := Lib.hid (Below.trans hQ.out (hb15.mono hQ.out.size)); clear hb15; (try clear e4x); have e4x := e4q.out))
  go_ret
  exact ⟨rfl, hQ.out⟩

set_option maxRecDepth 100000 in
set_option maxHeartbeats 4000000 in
theorem settled_heardAE {m : Nat} {w : World} {B n : Nat} {x : Off} {v : Value} {c : Cal} {l : List ByteArray} {pr h d : Int} (hv : VillageAt w v (n : Int) c l pr) (ho : OffS m w B n x) (ht : Track c x h d) (hf : x.s.fixed = true) (hh : x.s.heard = true) (he : x.s.ent = true) (hpr0 : 0 ≤ pr) (hpr1 : pr ≤ 1000) :
    Gives Tryz.prog 51 #[v, .pointer (some ⟨B, 0, none⟩), .int .i64 h, .int .i64 d] w (.bool true) := by
  obtain ⟨fv, sv, uv, rfl, hcal, htx⟩ := hv
  obtain ⟨fa, fc, sa, sc, e0, -⟩ := hcal.cells
  simp only [Value.agg.injEq, Array.mk.injEq, List.cons.injEq, and_true, true_and] at e0
  obtain ⟨rfl, rfl⟩ := e0
  obtain ⟨ua, uc, rfl, -⟩ := htx
  have HC := Lib.hid hcal
  have hmk := ho.2
  have hg := hmk.good
  have hl := hmk.long
  have n1 := hmk.n1
  have n8 := hmk.n8
  have HO := Lib.hid ho
  have hM := money_of hmk pr
  have HLA : Hid (x.s.strips.length = n) := hl.l1
  have HLB : Hid (x.s.laid.length = n) := hl.l2
  obtain ⟨NC, hNC⟩ : ∃ N, (clmF x.s).length = N := ⟨_, rfl⟩
  have HLC := Lib.hid hNC
  obtain ⟨pt, hpt⟩ : ∃ d, x.s.part = d := ⟨_, rfl⟩
  obtain ⟨st, hst⟩ : ∃ d, x.s.stop = d := ⟨_, rfl⟩
  have hQ : Hid (Below w.heap.size w (w.alloc (.cells #[.int .i64 (n : Int), .int .i64 c.first, .slice fa c.free.length fc, .slice sa c.still.length sc, .slice ua l.length uc, .int .i64 pr] 70))) := (Below.refl _ _).alloc (Nat.le_refl _) _
  have e4q : Hid (∀ o, (w.alloc (.cells #[.int .i64 (n : Int), .int .i64 c.first, .slice fa c.free.length fc, .slice sa c.still.length sc, .slice ua l.length uc, .int .i64 pr] 70)).cell? ⟨w.heap.size, o, none⟩ = (w.alloc (.cells #[.int .i64 (n : Int), .int .i64 c.first, .slice fa c.free.length fc, .slice sa c.still.length sc, .slice ua l.length uc, .int .i64 pr] 70)).cell? ⟨w.heap.size, o, none⟩) := fun o => rfl
  have hxq : w.heap.size < (w.alloc (.cells #[.int .i64 (n : Int), .int .i64 c.first, .slice fa c.free.length fc, .slice sa c.still.length sc, .slice ua l.length uc, .int .i64 pr] 70)).heap.size := by simp
  replace HO := Lib.hid (HO.out.below hQ.out)
  have hcc := clm_claims hg hl n1 n8 hf
  have HPT : Hid (x.s.part = pt ∧ x.s.fixed = true) := ⟨hpt, hf⟩
  have hp0 : 0 ≤ pt := by rw [← hpt]; exact hg.part0
  have hp1 : pt ≤ 100 := by rw [← hpt]; exact hg.part1
  have HDC : Hid (dedF x.s.strips pt = clmF x.s) := by show _ = _; unfold clmF; rw [if_pos hf, hpt]
  have HCB : Hid (claimsB x.s.strips = true) := by show _ = _; rw [claimsB_iff, hl.l1]; exact ⟨⟨n1, n8⟩, hg.str⟩
  have HCC : Hid (claimsB (clmF x.s) = true) := hcc
  have HLL : Hid (x.s.laid.length = (clmF x.s).length) := by show _ = _; rw [clm_long hl hf, hl.l2]
  have HLR : Hid (∀ y ∈ x.s.laid, 0 ≤ y ∧ y ≤ 10000) := laid_range hg hl n1 n8
  have HFB : Hid (Few x.s.laid) := hM.fb
  have HFC : Hid (Few (clmF x.s)) := hM.fa
  obtain ⟨cs, hcs⟩ : ∃ s, sumI (clmF x.s) = s := ⟨_, rfl⟩
  obtain ⟨ls, hls⟩ : ∃ s, sumI x.s.laid = s := ⟨_, rfl⟩
  have HSC := Lib.hid hcs
  have HSB := Lib.hid hls
  rw [hcs, hls] at hM
  have hlo := hM.lo
  have kls : decide (cs < ls) = false := decide_eq_false (by omega)
  have kls' : ¬ cs < ls := by omega
  have HPE : Hid (payE x pr = 0) := by show _ = _; unfold payE; rw [if_pos hf, if_pos ⟨hpr0, hpr1⟩]
  have HPL : Hid (payL x pr = payF (clmF x.s) x.s.laid pr) := by show _ = _; unfold payL; rw [if_pos HPE.out]
  have HED : Hid (x.s.stop = st ∧ x.s.heard = true) := ⟨hst, hh⟩
  have HEN : Hid (x.s.ent = true) := he
  obtain ⟨dy, hdy⟩ : ∃ D, x.s.day = D := ⟨_, rfl⟩
  have HDY := Lib.hid hdy
  obtain ⟨t1, t2, -⟩ := ht.hd hh
  have HE1 : Hid (endsR c h d = st) := by show _ = _; rw [← t2]; exact hst
  have HE2 : Hid (askedF c [h] [d] = 0) := t1
  have heq : ls = cs := hM.hs hh
  subst heq
  have kd : decide (st < dy) = true := by have := (ht.en he).2; rw [hst, hdy] at this; exact decide_eq_true this
  have kd' : st < dy := of_decide_eq_true kd
  have HFP : Hid (Few (payF (clmF x.s) x.s.laid pr)) := by
    have := hM.pay hf hpr0 hpr1
    rw [HPL.out] at this
    exact this.2.2.1
  have HSP : Hid (sumI (payF (clmF x.s) x.s.laid pr) = 0) := by
    have := hM.pay hf hpr0 hpr1
    rw [HPL.out] at this
    show _ = _
    rw [this.2.2.2, this.1, Int.sub_self, Int.zero_mul]
  clear hg hl hM hmk hNC hpt hst hf hh he hcal ho ht hcc hcs hls hdy t1 t2
  unfold Gives
  go_enter Tryz.func51, Tryz.ntmps51

  go_wp2_with (first
    | (go_at_call 44; (with_reducible refine (HO.out.strips).use ?_); intro vIA w1 hi hb1; have IA := Lib.hid hi.1; clear hi; obtain ⟨aIA, pIA, eIA, -⟩ := id IA.out; rw [HLA.out] at eIA; subst eIA; replace HO := Lib.hid (HO.out.below hb1); replace e4q : Hid (∀ o, w1.cell? ⟨w.heap.size, o, none⟩ = (w.alloc (.cells #[.int .i64 (n : Int), .int .i64 c.first, .slice fa c.free.length fc, .slice sa c.still.length sc, .slice ua l.length uc, .int .i64 pr] 70)).cell? ⟨w.heap.size, o, none⟩) := fun o => (hb1.cell (p := ⟨w.heap.size, o, none⟩) hxq).trans (e4q.out o); replace hxq : w.heap.size < w1.heap.size := Nat.lt_of_lt_of_le hxq hb1.size; replace hQ := Lib.hid (Below.trans hQ.out (hb1.mono hQ.out.size)); clear hb1; (try clear e4x); have e4x := e4q.out)
    | (go_at_call 31; (with_reducible refine (HO.out.laid).use ?_); intro vIB w2 hi hb2; have IB := Lib.hid hi.1; clear hi; obtain ⟨aIB, pIB, eIB, -⟩ := id IB.out; rw [HLB.out] at eIB; subst eIB; replace HO := Lib.hid (HO.out.below hb2); replace IA := Lib.hid (IA.out.below hb2); replace e4q : Hid (∀ o, w2.cell? ⟨w.heap.size, o, none⟩ = (w.alloc (.cells #[.int .i64 (n : Int), .int .i64 c.first, .slice fa c.free.length fc, .slice sa c.still.length sc, .slice ua l.length uc, .int .i64 pr] 70)).cell? ⟨w.heap.size, o, none⟩) := fun o => (hb2.cell (p := ⟨w.heap.size, o, none⟩) hxq).trans (e4q.out o); replace hxq : w.heap.size < w2.heap.size := Nat.lt_of_lt_of_le hxq hb2.size; replace hQ := Lib.hid (Below.trans hQ.out (hb2.mono hQ.out.size)); clear hb2; (try clear e4x); have e4x := e4q.out)
    | (go_at_call 30; (with_reducible refine (HO.out.clm).use ?_); intro vIC w3 hi hb3; have IC := Lib.hid hi.1; clear hi; obtain ⟨aIC, pIC, eIC, -⟩ := id IC.out; rw [HLC.out] at eIC; subst eIC; replace HO := Lib.hid (HO.out.below hb3); replace IA := Lib.hid (IA.out.below hb3); replace IB := Lib.hid (IB.out.below hb3); replace e4q : Hid (∀ o, w3.cell? ⟨w.heap.size, o, none⟩ = (w.alloc (.cells #[.int .i64 (n : Int), .int .i64 c.first, .slice fa c.free.length fc, .slice sa c.still.length sc, .slice ua l.length uc, .int .i64 pr] 70)).cell? ⟨w.heap.size, o, none⟩) := fun o => (hb3.cell (p := ⟨w.heap.size, o, none⟩) hxq).trans (e4q.out o); replace hxq : w.heap.size < w3.heap.size := Nat.lt_of_lt_of_le hxq hb3.size; replace hQ := Lib.hid (Below.trans hQ.out (hb3.mono hQ.out.size)); clear hb3; (try clear e4x); have e4x := e4q.out)
    | (go_at_call 32; (with_reducible refine (HO.out.part HPT.out).use ?_); intro w4 hb4 hz4 hc4 hf4; clear hc4 hf4 hz4; replace HO := Lib.hid (HO.out.below hb4); replace IA := Lib.hid (IA.out.below hb4); replace IB := Lib.hid (IB.out.below hb4); replace IC := Lib.hid (IC.out.below hb4); replace e4q : Hid (∀ o, w4.cell? ⟨w.heap.size, o, none⟩ = (w.alloc (.cells #[.int .i64 (n : Int), .int .i64 c.first, .slice fa c.free.length fc, .slice sa c.still.length sc, .slice ua l.length uc, .int .i64 pr] 70)).cell? ⟨w.heap.size, o, none⟩) := fun o => (hb4.cell (p := ⟨w.heap.size, o, none⟩) hxq).trans (e4q.out o); replace hxq : w.heap.size < w4.heap.size := Nat.lt_of_lt_of_le hxq hb4.size; replace hQ := Lib.hid (Below.trans hQ.out (hb4.mono hQ.out.size)); clear hb4; (try clear e4x); have e4x := e4q.out)
    | (go_at_call 33; (with_reducible refine (HO.out.stop HED.out).use ?_); intro w5 hb5 hz5 hc5 hf5; clear hc5 hf5 hz5; replace HO := Lib.hid (HO.out.below hb5); replace IA := Lib.hid (IA.out.below hb5); replace IB := Lib.hid (IB.out.below hb5); replace IC := Lib.hid (IC.out.below hb5); replace e4q : Hid (∀ o, w5.cell? ⟨w.heap.size, o, none⟩ = (w.alloc (.cells #[.int .i64 (n : Int), .int .i64 c.first, .slice fa c.free.length fc, .slice sa c.still.length sc, .slice ua l.length uc, .int .i64 pr] 70)).cell? ⟨w.heap.size, o, none⟩) := fun o => (hb5.cell (p := ⟨w.heap.size, o, none⟩) hxq).trans (e4q.out o); replace hxq : w.heap.size < w5.heap.size := Nat.lt_of_lt_of_le hxq hb5.size; replace hQ := Lib.hid (Below.trans hQ.out (hb5.mono hQ.out.size)); clear hb5; (try clear e4x); have e4x := e4q.out)
    | (go_at_call 83; (with_reducible refine (Deduct_calls _ _ _ _ IA.out HCB.out hp0 hp1).mono ?_); rintro e w6 ⟨v6, rfl, hi, hb6⟩; rw [HDC.out] at hi; have ID := Lib.hid hi.1; clear hi; replace HO := Lib.hid (HO.out.below hb6); replace IA := Lib.hid (IA.out.below hb6); replace IB := Lib.hid (IB.out.below hb6); replace IC := Lib.hid (IC.out.below hb6); replace e4q : Hid (∀ o, w6.cell? ⟨w.heap.size, o, none⟩ = (w.alloc (.cells #[.int .i64 (n : Int), .int .i64 c.first, .slice fa c.free.length fc, .slice sa c.still.length sc, .slice ua l.length uc, .int .i64 pr] 70)).cell? ⟨w.heap.size, o, none⟩) := fun o => (hb6.cell (p := ⟨w.heap.size, o, none⟩) hxq).trans (e4q.out o); replace hxq : w.heap.size < w6.heap.size := Nat.lt_of_lt_of_le hxq hb6.size; replace hQ := Lib.hid (Below.trans hQ.out (hb6.mono hQ.out.size)); clear hb6; (try clear e4x); have e4x := e4q.out)
    | (go_at_call 37; (with_reducible refine (HO.out.pay HPE.out HPL.out).mono ?_); rintro e w7 ⟨vIP, rfl, hi, hb7⟩; have IP := Lib.hid hi; clear hi; replace HO := Lib.hid (HO.out.below hb7); replace IA := Lib.hid (IA.out.below hb7); replace IB := Lib.hid (IB.out.below hb7); replace IC := Lib.hid (IC.out.below hb7); replace ID := Lib.hid (ID.out.below hb7); replace e4q : Hid (∀ o, w7.cell? ⟨w.heap.size, o, none⟩ = (w.alloc (.cells #[.int .i64 (n : Int), .int .i64 c.first, .slice fa c.free.length fc, .slice sa c.still.length sc, .slice ua l.length uc, .int .i64 pr] 70)).cell? ⟨w.heap.size, o, none⟩) := fun o => (hb7.cell (p := ⟨w.heap.size, o, none⟩) hxq).trans (e4q.out o); replace hxq : w.heap.size < w7.heap.size := Nat.lt_of_lt_of_le hxq hb7.size; replace hQ := Lib.hid (Below.trans hQ.out (hb7.mono hQ.out.size)); clear hb7; (try clear e4x); have e4x := e4q.out)
    | (go_at_call 68; (with_reducible refine (Pay_ok _ _ _ _ _ _ IC.out IB.out HCC.out HLL.out HLR.out hpr0 hpr1).mono ?_); rintro e w8 ⟨v8, rfl, hi, hb8⟩; have IW := Lib.hid hi.1; clear hi; replace HO := Lib.hid (HO.out.below hb8); replace IA := Lib.hid (IA.out.below hb8); replace IB := Lib.hid (IB.out.below hb8); replace IC := Lib.hid (IC.out.below hb8); replace ID := Lib.hid (ID.out.below hb8); replace IP := Lib.hid (IP.out.below hb8); replace e4q : Hid (∀ o, w8.cell? ⟨w.heap.size, o, none⟩ = (w.alloc (.cells #[.int .i64 (n : Int), .int .i64 c.first, .slice fa c.free.length fc, .slice sa c.still.length sc, .slice ua l.length uc, .int .i64 pr] 70)).cell? ⟨w.heap.size, o, none⟩) := fun o => (hb8.cell (p := ⟨w.heap.size, o, none⟩) hxq).trans (e4q.out o); replace hxq : w.heap.size < w8.heap.size := Nat.lt_of_lt_of_le hxq hb8.size; replace hQ := Lib.hid (Below.trans hQ.out (hb8.mono hQ.out.size)); clear hb8; (try clear e4x); have e4x := e4q.out)
    | (go_at_call 46; (with_reducible refine (sameInts8_is (t := true) ID.out IC.out (by simp)).use ?_); intro w9 hb9 hz9 hc9 hf9; clear hc9 hf9 hz9; replace HO := Lib.hid (HO.out.below hb9); replace IA := Lib.hid (IA.out.below hb9); replace IB := Lib.hid (IB.out.below hb9); replace IC := Lib.hid (IC.out.below hb9); replace IP := Lib.hid (IP.out.below hb9); replace IW := Lib.hid (IW.out.below hb9); replace e4q : Hid (∀ o, w9.cell? ⟨w.heap.size, o, none⟩ = (w.alloc (.cells #[.int .i64 (n : Int), .int .i64 c.first, .slice fa c.free.length fc, .slice sa c.still.length sc, .slice ua l.length uc, .int .i64 pr] 70)).cell? ⟨w.heap.size, o, none⟩) := fun o => (hb9.cell (p := ⟨w.heap.size, o, none⟩) hxq).trans (e4q.out o); replace hxq : w.heap.size < w9.heap.size := Nat.lt_of_lt_of_le hxq hb9.size; replace hQ := Lib.hid (Below.trans hQ.out (hb9.mono hQ.out.size)); clear hb9; (try clear e4x); have e4x := e4q.out)
    | (go_at_call 46; (with_reducible refine (sameInts8_is (t := true) IP.out IW.out (by simp)).use ?_); intro w10 hb10 hz10 hc10 hf10; clear hc10 hf10 hz10; replace HO := Lib.hid (HO.out.below hb10); replace IA := Lib.hid (IA.out.below hb10); replace IB := Lib.hid (IB.out.below hb10); replace IC := Lib.hid (IC.out.below hb10); replace IP := Lib.hid (IP.out.below hb10); replace e4q : Hid (∀ o, w10.cell? ⟨w.heap.size, o, none⟩ = (w.alloc (.cells #[.int .i64 (n : Int), .int .i64 c.first, .slice fa c.free.length fc, .slice sa c.still.length sc, .slice ua l.length uc, .int .i64 pr] 70)).cell? ⟨w.heap.size, o, none⟩) := fun o => (hb10.cell (p := ⟨w.heap.size, o, none⟩) hxq).trans (e4q.out o); replace hxq : w.heap.size < w10.heap.size := Nat.lt_of_lt_of_le hxq hb10.size; replace hQ := Lib.hid (Below.trans hQ.out (hb10.mono hQ.out.size)); clear hb10; (try clear e4x); have e4x := e4q.out)
    | (go_at_call 82; (with_reducible refine (tsum_is IB.out HFB.out HSB.out).use ?_))
    | (go_at_call 82; (with_reducible refine (tsum_is IC.out HFC.out HSC.out).use ?_))
    | (go_at_call 84; (with_reducible refine (Ends_calls _ c _ _ _ (HC.out.below hQ.out)).use ?_); rw [HE1.out, HE2.out]; intro w13 hb13 hz13 hc13 hf13; clear hc13 hf13 hz13; replace HO := Lib.hid (HO.out.below hb13); replace IA := Lib.hid (IA.out.below hb13); replace IB := Lib.hid (IB.out.below hb13); replace IC := Lib.hid (IC.out.below hb13); replace IP := Lib.hid (IP.out.below hb13); replace e4q : Hid (∀ o, w13.cell? ⟨w.heap.size, o, none⟩ = (w.alloc (.cells #[.int .i64 (n : Int), .int .i64 c.first, .slice fa c.free.length fc, .slice sa c.still.length sc, .slice ua l.length uc, .int .i64 pr] 70)).cell? ⟨w.heap.size, o, none⟩) := fun o => (hb13.cell (p := ⟨w.heap.size, o, none⟩) hxq).trans (e4q.out o); replace hxq : w.heap.size < w13.heap.size := Nat.lt_of_lt_of_le hxq hb13.size; replace hQ := Lib.hid (Below.trans hQ.out (hb13.mono hQ.out.size)); clear hb13; (try clear e4x); have e4x := e4q.out)
    | (go_at_call 82; (with_reducible refine (tsum_is IP.out HFP.out HSP.out).use ?_))
    | (go_at_call 36; (with_reducible refine (HO.out.ent HEN.out).use ?_); intro w14 hb14 hz14 hc14 hf14; clear hc14 hf14 hz14; replace HO := Lib.hid (HO.out.below hb14); replace e4q : Hid (∀ o, w14.cell? ⟨w.heap.size, o, none⟩ = (w.alloc (.cells #[.int .i64 (n : Int), .int .i64 c.first, .slice fa c.free.length fc, .slice sa c.still.length sc, .slice ua l.length uc, .int .i64 pr] 70)).cell? ⟨w.heap.size, o, none⟩) := fun o => (hb14.cell (p := ⟨w.heap.size, o, none⟩) hxq).trans (e4q.out o); replace hxq : w.heap.size < w14.heap.size := Nat.lt_of_lt_of_le hxq hb14.size; replace hQ := Lib.hid (Below.trans hQ.out (hb14.mono hQ.out.size)); clear hb14; (try clear e4x); have e4x := e4q.out)
    | (go_at_call 42; (with_reducible refine (HO.out.day HDY.out).use ?_); intro w15 hb15 hz15 hc15 hf15; clear hc15 hf15 hz15; replace HO := Lib.hid (HO.out.below hb15); replace e4q : Hid (∀ o, w15.cell? ⟨w.heap.size, o, none⟩ = (w.alloc (.cells #[.int .i64 (n : Int), .int .i64 c.first, .slice fa c.free.length fc, .slice sa c.still.length sc, .slice ua l.length uc, .int .i64 pr] 70)).cell? ⟨w.heap.size, o, none⟩) := fun o => (hb15.cell (p := ⟨w.heap.size, o, none⟩) hxq).trans (e4q.out o); replace hxq : w.heap.size < w15.heap.size := Nat.lt_of_lt_of_le hxq hb15.size; replace hQ := Lib.hid (Below.trans hQ.out (hb15.mono hQ.out.size)); clear hb15; (try clear e4x); have e4x := e4q.out))
  go_ret
  exact ⟨rfl, hQ.out⟩

set_option maxRecDepth 100000 in
set_option maxHeartbeats 4000000 in
theorem settled_heardBN {m : Nat} {w : World} {B n : Nat} {x : Off} {v : Value} {c : Cal} {l : List ByteArray} {pr h d : Int} (hv : VillageAt w v (n : Int) c l pr) (ho : OffS m w B n x) (ht : Track c x h d) (hf : x.s.fixed = true) (hh : x.s.heard = true) (he : x.s.ent = false) (hprb : pr < 0 ∨ 1000 < pr) :
    Gives Tryz.prog 51 #[v, .pointer (some ⟨B, 0, none⟩), .int .i64 h, .int .i64 d] w (.bool true) := by
  obtain ⟨fv, sv, uv, rfl, hcal, htx⟩ := hv
  obtain ⟨fa, fc, sa, sc, e0, -⟩ := hcal.cells
  simp only [Value.agg.injEq, Array.mk.injEq, List.cons.injEq, and_true, true_and] at e0
  obtain ⟨rfl, rfl⟩ := e0
  obtain ⟨ua, uc, rfl, -⟩ := htx
  have HC := Lib.hid hcal
  have hmk := ho.2
  have hg := hmk.good
  have hl := hmk.long
  have n1 := hmk.n1
  have n8 := hmk.n8
  have HO := Lib.hid ho
  have hM := money_of hmk pr
  have HLA : Hid (x.s.strips.length = n) := hl.l1
  have HLB : Hid (x.s.laid.length = n) := hl.l2
  obtain ⟨NC, hNC⟩ : ∃ N, (clmF x.s).length = N := ⟨_, rfl⟩
  have HLC := Lib.hid hNC
  obtain ⟨pt, hpt⟩ : ∃ d, x.s.part = d := ⟨_, rfl⟩
  obtain ⟨st, hst⟩ : ∃ d, x.s.stop = d := ⟨_, rfl⟩
  have hQ : Hid (Below w.heap.size w (w.alloc (.cells #[.int .i64 (n : Int), .int .i64 c.first, .slice fa c.free.length fc, .slice sa c.still.length sc, .slice ua l.length uc, .int .i64 pr] 70))) := (Below.refl _ _).alloc (Nat.le_refl _) _
  have e4q : Hid (∀ o, (w.alloc (.cells #[.int .i64 (n : Int), .int .i64 c.first, .slice fa c.free.length fc, .slice sa c.still.length sc, .slice ua l.length uc, .int .i64 pr] 70)).cell? ⟨w.heap.size, o, none⟩ = (w.alloc (.cells #[.int .i64 (n : Int), .int .i64 c.first, .slice fa c.free.length fc, .slice sa c.still.length sc, .slice ua l.length uc, .int .i64 pr] 70)).cell? ⟨w.heap.size, o, none⟩) := fun o => rfl
  have hxq : w.heap.size < (w.alloc (.cells #[.int .i64 (n : Int), .int .i64 c.first, .slice fa c.free.length fc, .slice sa c.still.length sc, .slice ua l.length uc, .int .i64 pr] 70)).heap.size := by simp
  replace HO := Lib.hid (HO.out.below hQ.out)
  have hcc := clm_claims hg hl n1 n8 hf
  have HPT : Hid (x.s.part = pt ∧ x.s.fixed = true) := ⟨hpt, hf⟩
  have hp0 : 0 ≤ pt := by rw [← hpt]; exact hg.part0
  have hp1 : pt ≤ 100 := by rw [← hpt]; exact hg.part1
  have HDC : Hid (dedF x.s.strips pt = clmF x.s) := by show _ = _; unfold clmF; rw [if_pos hf, hpt]
  have HCB : Hid (claimsB x.s.strips = true) := by show _ = _; rw [claimsB_iff, hl.l1]; exact ⟨⟨n1, n8⟩, hg.str⟩
  have HCC : Hid (claimsB (clmF x.s) = true) := hcc
  have HLL : Hid (x.s.laid.length = (clmF x.s).length) := by show _ = _; rw [clm_long hl hf, hl.l2]
  have HLR : Hid (∀ y ∈ x.s.laid, 0 ≤ y ∧ y ≤ 10000) := laid_range hg hl n1 n8
  have HFB : Hid (Few x.s.laid) := hM.fb
  have HFC : Hid (Few (clmF x.s)) := hM.fa
  obtain ⟨cs, hcs⟩ : ∃ s, sumI (clmF x.s) = s := ⟨_, rfl⟩
  obtain ⟨ls, hls⟩ : ∃ s, sumI x.s.laid = s := ⟨_, rfl⟩
  have HSC := Lib.hid hcs
  have HSB := Lib.hid hls
  rw [hcs, hls] at hM
  have hlo := hM.lo
  have kls : decide (cs < ls) = false := decide_eq_false (by omega)
  have kls' : ¬ cs < ls := by omega
  have HPE : Hid (payE x pr = 1) := by show _ = _; unfold payE; rw [if_pos hf, if_neg (by omega)]
  have HPL : Hid (payL x pr = []) := by show _ = _; unfold payL; rw [HPE.out]; rfl
  have HED : Hid (x.s.stop = st ∧ x.s.heard = true) := ⟨hst, hh⟩
  have HEN : Hid (x.s.ent = false) := he
  obtain ⟨dy, hdy⟩ : ∃ D, x.s.day = D := ⟨_, rfl⟩
  have HDY := Lib.hid hdy
  obtain ⟨t1, t2, -⟩ := ht.hd hh
  have HE1 : Hid (endsR c h d = st) := by show _ = _; rw [← t2]; exact hst
  have HE2 : Hid (askedF c [h] [d] = 0) := t1
  have heq : ls = cs := hM.hs hh
  subst heq
  clear hg hl hM hmk hNC hpt hst hf hh he hcal ho ht hcc hcs hls hdy t1 t2
  unfold Gives
  go_enter Tryz.func51, Tryz.ntmps51

  go_wp2_with (first
    | (go_at_call 44; (with_reducible refine (HO.out.strips).use ?_); intro vIA w1 hi hb1; have IA := Lib.hid hi.1; clear hi; obtain ⟨aIA, pIA, eIA, -⟩ := id IA.out; rw [HLA.out] at eIA; subst eIA; replace HO := Lib.hid (HO.out.below hb1); replace e4q : Hid (∀ o, w1.cell? ⟨w.heap.size, o, none⟩ = (w.alloc (.cells #[.int .i64 (n : Int), .int .i64 c.first, .slice fa c.free.length fc, .slice sa c.still.length sc, .slice ua l.length uc, .int .i64 pr] 70)).cell? ⟨w.heap.size, o, none⟩) := fun o => (hb1.cell (p := ⟨w.heap.size, o, none⟩) hxq).trans (e4q.out o); replace hxq : w.heap.size < w1.heap.size := Nat.lt_of_lt_of_le hxq hb1.size; replace hQ := Lib.hid (Below.trans hQ.out (hb1.mono hQ.out.size)); clear hb1; (try clear e4x); have e4x := e4q.out)
    | (go_at_call 31; (with_reducible refine (HO.out.laid).use ?_); intro vIB w2 hi hb2; have IB := Lib.hid hi.1; clear hi; obtain ⟨aIB, pIB, eIB, -⟩ := id IB.out; rw [HLB.out] at eIB; subst eIB; replace HO := Lib.hid (HO.out.below hb2); replace IA := Lib.hid (IA.out.below hb2); replace e4q : Hid (∀ o, w2.cell? ⟨w.heap.size, o, none⟩ = (w.alloc (.cells #[.int .i64 (n : Int), .int .i64 c.first, .slice fa c.free.length fc, .slice sa c.still.length sc, .slice ua l.length uc, .int .i64 pr] 70)).cell? ⟨w.heap.size, o, none⟩) := fun o => (hb2.cell (p := ⟨w.heap.size, o, none⟩) hxq).trans (e4q.out o); replace hxq : w.heap.size < w2.heap.size := Nat.lt_of_lt_of_le hxq hb2.size; replace hQ := Lib.hid (Below.trans hQ.out (hb2.mono hQ.out.size)); clear hb2; (try clear e4x); have e4x := e4q.out)
    | (go_at_call 30; (with_reducible refine (HO.out.clm).use ?_); intro vIC w3 hi hb3; have IC := Lib.hid hi.1; clear hi; obtain ⟨aIC, pIC, eIC, -⟩ := id IC.out; rw [HLC.out] at eIC; subst eIC; replace HO := Lib.hid (HO.out.below hb3); replace IA := Lib.hid (IA.out.below hb3); replace IB := Lib.hid (IB.out.below hb3); replace e4q : Hid (∀ o, w3.cell? ⟨w.heap.size, o, none⟩ = (w.alloc (.cells #[.int .i64 (n : Int), .int .i64 c.first, .slice fa c.free.length fc, .slice sa c.still.length sc, .slice ua l.length uc, .int .i64 pr] 70)).cell? ⟨w.heap.size, o, none⟩) := fun o => (hb3.cell (p := ⟨w.heap.size, o, none⟩) hxq).trans (e4q.out o); replace hxq : w.heap.size < w3.heap.size := Nat.lt_of_lt_of_le hxq hb3.size; replace hQ := Lib.hid (Below.trans hQ.out (hb3.mono hQ.out.size)); clear hb3; (try clear e4x); have e4x := e4q.out)
    | (go_at_call 32; (with_reducible refine (HO.out.part HPT.out).use ?_); intro w4 hb4 hz4 hc4 hf4; clear hc4 hf4 hz4; replace HO := Lib.hid (HO.out.below hb4); replace IA := Lib.hid (IA.out.below hb4); replace IB := Lib.hid (IB.out.below hb4); replace IC := Lib.hid (IC.out.below hb4); replace e4q : Hid (∀ o, w4.cell? ⟨w.heap.size, o, none⟩ = (w.alloc (.cells #[.int .i64 (n : Int), .int .i64 c.first, .slice fa c.free.length fc, .slice sa c.still.length sc, .slice ua l.length uc, .int .i64 pr] 70)).cell? ⟨w.heap.size, o, none⟩) := fun o => (hb4.cell (p := ⟨w.heap.size, o, none⟩) hxq).trans (e4q.out o); replace hxq : w.heap.size < w4.heap.size := Nat.lt_of_lt_of_le hxq hb4.size; replace hQ := Lib.hid (Below.trans hQ.out (hb4.mono hQ.out.size)); clear hb4; (try clear e4x); have e4x := e4q.out)
    | (go_at_call 33; (with_reducible refine (HO.out.stop HED.out).use ?_); intro w5 hb5 hz5 hc5 hf5; clear hc5 hf5 hz5; replace HO := Lib.hid (HO.out.below hb5); replace IA := Lib.hid (IA.out.below hb5); replace IB := Lib.hid (IB.out.below hb5); replace IC := Lib.hid (IC.out.below hb5); replace e4q : Hid (∀ o, w5.cell? ⟨w.heap.size, o, none⟩ = (w.alloc (.cells #[.int .i64 (n : Int), .int .i64 c.first, .slice fa c.free.length fc, .slice sa c.still.length sc, .slice ua l.length uc, .int .i64 pr] 70)).cell? ⟨w.heap.size, o, none⟩) := fun o => (hb5.cell (p := ⟨w.heap.size, o, none⟩) hxq).trans (e4q.out o); replace hxq : w.heap.size < w5.heap.size := Nat.lt_of_lt_of_le hxq hb5.size; replace hQ := Lib.hid (Below.trans hQ.out (hb5.mono hQ.out.size)); clear hb5; (try clear e4x); have e4x := e4q.out)
    | (go_at_call 83; (with_reducible refine (Deduct_calls _ _ _ _ IA.out HCB.out hp0 hp1).mono ?_); rintro e w6 ⟨v6, rfl, hi, hb6⟩; rw [HDC.out] at hi; have ID := Lib.hid hi.1; clear hi; replace HO := Lib.hid (HO.out.below hb6); replace IA := Lib.hid (IA.out.below hb6); replace IB := Lib.hid (IB.out.below hb6); replace IC := Lib.hid (IC.out.below hb6); replace e4q : Hid (∀ o, w6.cell? ⟨w.heap.size, o, none⟩ = (w.alloc (.cells #[.int .i64 (n : Int), .int .i64 c.first, .slice fa c.free.length fc, .slice sa c.still.length sc, .slice ua l.length uc, .int .i64 pr] 70)).cell? ⟨w.heap.size, o, none⟩) := fun o => (hb6.cell (p := ⟨w.heap.size, o, none⟩) hxq).trans (e4q.out o); replace hxq : w.heap.size < w6.heap.size := Nat.lt_of_lt_of_le hxq hb6.size; replace hQ := Lib.hid (Below.trans hQ.out (hb6.mono hQ.out.size)); clear hb6; (try clear e4x); have e4x := e4q.out)
    | (go_at_call 37; (with_reducible refine (HO.out.pay HPE.out HPL.out).mono ?_); rintro e w7 ⟨vIP, rfl, hi, hb7⟩; have IP := Lib.hid hi; clear hi; replace HO := Lib.hid (HO.out.below hb7); replace IA := Lib.hid (IA.out.below hb7); replace IB := Lib.hid (IB.out.below hb7); replace IC := Lib.hid (IC.out.below hb7); replace ID := Lib.hid (ID.out.below hb7); replace e4q : Hid (∀ o, w7.cell? ⟨w.heap.size, o, none⟩ = (w.alloc (.cells #[.int .i64 (n : Int), .int .i64 c.first, .slice fa c.free.length fc, .slice sa c.still.length sc, .slice ua l.length uc, .int .i64 pr] 70)).cell? ⟨w.heap.size, o, none⟩) := fun o => (hb7.cell (p := ⟨w.heap.size, o, none⟩) hxq).trans (e4q.out o); replace hxq : w.heap.size < w7.heap.size := Nat.lt_of_lt_of_le hxq hb7.size; replace hQ := Lib.hid (Below.trans hQ.out (hb7.mono hQ.out.size)); clear hb7; (try clear e4x); have e4x := e4q.out)
    | (go_at_call 68; (with_reducible refine (Pay_bad _ _ _ _ _ _ IC.out IB.out HCC.out HLL.out HLR.out hprb).use ?_); intro w8 hb8 hz8 hc8 hf8; clear hc8 hf8 hz8; replace HO := Lib.hid (HO.out.below hb8); replace IA := Lib.hid (IA.out.below hb8); replace IB := Lib.hid (IB.out.below hb8); replace IC := Lib.hid (IC.out.below hb8); replace ID := Lib.hid (ID.out.below hb8); replace IP := Lib.hid (IP.out.below hb8); replace e4q : Hid (∀ o, w8.cell? ⟨w.heap.size, o, none⟩ = (w.alloc (.cells #[.int .i64 (n : Int), .int .i64 c.first, .slice fa c.free.length fc, .slice sa c.still.length sc, .slice ua l.length uc, .int .i64 pr] 70)).cell? ⟨w.heap.size, o, none⟩) := fun o => (hb8.cell (p := ⟨w.heap.size, o, none⟩) hxq).trans (e4q.out o); replace hxq : w.heap.size < w8.heap.size := Nat.lt_of_lt_of_le hxq hb8.size; replace hQ := Lib.hid (Below.trans hQ.out (hb8.mono hQ.out.size)); clear hb8; have IW : Hid (IntsAt w8 (.slice none 0 0) []) := ints0 _ _ _ (by decide); (try clear e4x); have e4x := e4q.out)
    | (go_at_call 46; (with_reducible refine (sameInts8_is (t := true) ID.out IC.out (by simp)).use ?_); intro w9 hb9 hz9 hc9 hf9; clear hc9 hf9 hz9; replace HO := Lib.hid (HO.out.below hb9); replace IA := Lib.hid (IA.out.below hb9); replace IB := Lib.hid (IB.out.below hb9); replace IC := Lib.hid (IC.out.below hb9); replace IP := Lib.hid (IP.out.below hb9); replace IW := Lib.hid (IW.out.below hb9); replace e4q : Hid (∀ o, w9.cell? ⟨w.heap.size, o, none⟩ = (w.alloc (.cells #[.int .i64 (n : Int), .int .i64 c.first, .slice fa c.free.length fc, .slice sa c.still.length sc, .slice ua l.length uc, .int .i64 pr] 70)).cell? ⟨w.heap.size, o, none⟩) := fun o => (hb9.cell (p := ⟨w.heap.size, o, none⟩) hxq).trans (e4q.out o); replace hxq : w.heap.size < w9.heap.size := Nat.lt_of_lt_of_le hxq hb9.size; replace hQ := Lib.hid (Below.trans hQ.out (hb9.mono hQ.out.size)); clear hb9; (try clear e4x); have e4x := e4q.out)
    | (go_at_call 46; (with_reducible refine (sameInts8_is (t := true) IP.out IW.out (by simp)).use ?_); intro w10 hb10 hz10 hc10 hf10; clear hc10 hf10 hz10; replace HO := Lib.hid (HO.out.below hb10); replace IA := Lib.hid (IA.out.below hb10); replace IB := Lib.hid (IB.out.below hb10); replace IC := Lib.hid (IC.out.below hb10); replace IP := Lib.hid (IP.out.below hb10); replace e4q : Hid (∀ o, w10.cell? ⟨w.heap.size, o, none⟩ = (w.alloc (.cells #[.int .i64 (n : Int), .int .i64 c.first, .slice fa c.free.length fc, .slice sa c.still.length sc, .slice ua l.length uc, .int .i64 pr] 70)).cell? ⟨w.heap.size, o, none⟩) := fun o => (hb10.cell (p := ⟨w.heap.size, o, none⟩) hxq).trans (e4q.out o); replace hxq : w.heap.size < w10.heap.size := Nat.lt_of_lt_of_le hxq hb10.size; replace hQ := Lib.hid (Below.trans hQ.out (hb10.mono hQ.out.size)); clear hb10; (try clear e4x); have e4x := e4q.out)
    | (go_at_call 82; (with_reducible refine (tsum_is IB.out HFB.out HSB.out).use ?_))
    | (go_at_call 82; (with_reducible refine (tsum_is IC.out HFC.out HSC.out).use ?_))
    | (go_at_call 84; (with_reducible refine (Ends_calls _ c _ _ _ (HC.out.below hQ.out)).use ?_); rw [HE1.out, HE2.out]; intro w13 hb13 hz13 hc13 hf13; clear hc13 hf13 hz13; replace HO := Lib.hid (HO.out.below hb13); replace IA := Lib.hid (IA.out.below hb13); replace IB := Lib.hid (IB.out.below hb13); replace IC := Lib.hid (IC.out.below hb13); replace IP := Lib.hid (IP.out.below hb13); replace e4q : Hid (∀ o, w13.cell? ⟨w.heap.size, o, none⟩ = (w.alloc (.cells #[.int .i64 (n : Int), .int .i64 c.first, .slice fa c.free.length fc, .slice sa c.still.length sc, .slice ua l.length uc, .int .i64 pr] 70)).cell? ⟨w.heap.size, o, none⟩) := fun o => (hb13.cell (p := ⟨w.heap.size, o, none⟩) hxq).trans (e4q.out o); replace hxq : w.heap.size < w13.heap.size := Nat.lt_of_lt_of_le hxq hb13.size; replace hQ := Lib.hid (Below.trans hQ.out (hb13.mono hQ.out.size)); clear hb13; (try clear e4x); have e4x := e4q.out)
    | (go_at_call 82; (with_reducible refine (tsum_is IP.out HFP.out HSP.out).use ?_))
    | (go_at_call 36; (with_reducible refine (HO.out.ent HEN.out).use ?_); intro w14 hb14 hz14 hc14 hf14; clear hc14 hf14 hz14; replace HO := Lib.hid (HO.out.below hb14); replace e4q : Hid (∀ o, w14.cell? ⟨w.heap.size, o, none⟩ = (w.alloc (.cells #[.int .i64 (n : Int), .int .i64 c.first, .slice fa c.free.length fc, .slice sa c.still.length sc, .slice ua l.length uc, .int .i64 pr] 70)).cell? ⟨w.heap.size, o, none⟩) := fun o => (hb14.cell (p := ⟨w.heap.size, o, none⟩) hxq).trans (e4q.out o); replace hxq : w.heap.size < w14.heap.size := Nat.lt_of_lt_of_le hxq hb14.size; replace hQ := Lib.hid (Below.trans hQ.out (hb14.mono hQ.out.size)); clear hb14; (try clear e4x); have e4x := e4q.out)
    | (go_at_call 42; (with_reducible refine (HO.out.day HDY.out).use ?_); intro w15 hb15 hz15 hc15 hf15; clear hc15 hf15 hz15; replace HO := Lib.hid (HO.out.below hb15); replace e4q : Hid (∀ o, w15.cell? ⟨w.heap.size, o, none⟩ = (w.alloc (.cells #[.int .i64 (n : Int), .int .i64 c.first, .slice fa c.free.length fc, .slice sa c.still.length sc, .slice ua l.length uc, .int .i64 pr] 70)).cell? ⟨w.heap.size, o, none⟩) := fun o => (hb15.cell (p := ⟨w.heap.size, o, none⟩) hxq).trans (e4q.out o); replace hxq : w.heap.size < w15.heap.size := Nat.lt_of_lt_of_le hxq hb15.size; replace hQ := Lib.hid (Below.trans hQ.out (hb15.mono hQ.out.size)); clear hb15; (try clear e4x); have e4x := e4q.out))
  go_ret
  exact ⟨rfl, hQ.out⟩

set_option maxRecDepth 100000 in
set_option maxHeartbeats 4000000 in
theorem settled_heardBE {m : Nat} {w : World} {B n : Nat} {x : Off} {v : Value} {c : Cal} {l : List ByteArray} {pr h d : Int} (hv : VillageAt w v (n : Int) c l pr) (ho : OffS m w B n x) (ht : Track c x h d) (hf : x.s.fixed = true) (hh : x.s.heard = true) (he : x.s.ent = true) (hprb : pr < 0 ∨ 1000 < pr) :
    Gives Tryz.prog 51 #[v, .pointer (some ⟨B, 0, none⟩), .int .i64 h, .int .i64 d] w (.bool true) := by
  obtain ⟨fv, sv, uv, rfl, hcal, htx⟩ := hv
  obtain ⟨fa, fc, sa, sc, e0, -⟩ := hcal.cells
  simp only [Value.agg.injEq, Array.mk.injEq, List.cons.injEq, and_true, true_and] at e0
  obtain ⟨rfl, rfl⟩ := e0
  obtain ⟨ua, uc, rfl, -⟩ := htx
  have HC := Lib.hid hcal
  have hmk := ho.2
  have hg := hmk.good
  have hl := hmk.long
  have n1 := hmk.n1
  have n8 := hmk.n8
  have HO := Lib.hid ho
  have hM := money_of hmk pr
  have HLA : Hid (x.s.strips.length = n) := hl.l1
  have HLB : Hid (x.s.laid.length = n) := hl.l2
  obtain ⟨NC, hNC⟩ : ∃ N, (clmF x.s).length = N := ⟨_, rfl⟩
  have HLC := Lib.hid hNC
  obtain ⟨pt, hpt⟩ : ∃ d, x.s.part = d := ⟨_, rfl⟩
  obtain ⟨st, hst⟩ : ∃ d, x.s.stop = d := ⟨_, rfl⟩
  have hQ : Hid (Below w.heap.size w (w.alloc (.cells #[.int .i64 (n : Int), .int .i64 c.first, .slice fa c.free.length fc, .slice sa c.still.length sc, .slice ua l.length uc, .int .i64 pr] 70))) := (Below.refl _ _).alloc (Nat.le_refl _) _
  have e4q : Hid (∀ o, (w.alloc (.cells #[.int .i64 (n : Int), .int .i64 c.first, .slice fa c.free.length fc, .slice sa c.still.length sc, .slice ua l.length uc, .int .i64 pr] 70)).cell? ⟨w.heap.size, o, none⟩ = (w.alloc (.cells #[.int .i64 (n : Int), .int .i64 c.first, .slice fa c.free.length fc, .slice sa c.still.length sc, .slice ua l.length uc, .int .i64 pr] 70)).cell? ⟨w.heap.size, o, none⟩) := fun o => rfl
  have hxq : w.heap.size < (w.alloc (.cells #[.int .i64 (n : Int), .int .i64 c.first, .slice fa c.free.length fc, .slice sa c.still.length sc, .slice ua l.length uc, .int .i64 pr] 70)).heap.size := by simp
  replace HO := Lib.hid (HO.out.below hQ.out)
  have hcc := clm_claims hg hl n1 n8 hf
  have HPT : Hid (x.s.part = pt ∧ x.s.fixed = true) := ⟨hpt, hf⟩
  have hp0 : 0 ≤ pt := by rw [← hpt]; exact hg.part0
  have hp1 : pt ≤ 100 := by rw [← hpt]; exact hg.part1
  have HDC : Hid (dedF x.s.strips pt = clmF x.s) := by show _ = _; unfold clmF; rw [if_pos hf, hpt]
  have HCB : Hid (claimsB x.s.strips = true) := by show _ = _; rw [claimsB_iff, hl.l1]; exact ⟨⟨n1, n8⟩, hg.str⟩
  have HCC : Hid (claimsB (clmF x.s) = true) := hcc
  have HLL : Hid (x.s.laid.length = (clmF x.s).length) := by show _ = _; rw [clm_long hl hf, hl.l2]
  have HLR : Hid (∀ y ∈ x.s.laid, 0 ≤ y ∧ y ≤ 10000) := laid_range hg hl n1 n8
  have HFB : Hid (Few x.s.laid) := hM.fb
  have HFC : Hid (Few (clmF x.s)) := hM.fa
  obtain ⟨cs, hcs⟩ : ∃ s, sumI (clmF x.s) = s := ⟨_, rfl⟩
  obtain ⟨ls, hls⟩ : ∃ s, sumI x.s.laid = s := ⟨_, rfl⟩
  have HSC := Lib.hid hcs
  have HSB := Lib.hid hls
  rw [hcs, hls] at hM
  have hlo := hM.lo
  have kls : decide (cs < ls) = false := decide_eq_false (by omega)
  have kls' : ¬ cs < ls := by omega
  have HPE : Hid (payE x pr = 1) := by show _ = _; unfold payE; rw [if_pos hf, if_neg (by omega)]
  have HPL : Hid (payL x pr = []) := by show _ = _; unfold payL; rw [HPE.out]; rfl
  have HED : Hid (x.s.stop = st ∧ x.s.heard = true) := ⟨hst, hh⟩
  have HEN : Hid (x.s.ent = true) := he
  obtain ⟨dy, hdy⟩ : ∃ D, x.s.day = D := ⟨_, rfl⟩
  have HDY := Lib.hid hdy
  obtain ⟨t1, t2, -⟩ := ht.hd hh
  have HE1 : Hid (endsR c h d = st) := by show _ = _; rw [← t2]; exact hst
  have HE2 : Hid (askedF c [h] [d] = 0) := t1
  have heq : ls = cs := hM.hs hh
  subst heq
  have kd : decide (st < dy) = true := by have := (ht.en he).2; rw [hst, hdy] at this; exact decide_eq_true this
  have kd' : st < dy := of_decide_eq_true kd
  clear hg hl hM hmk hNC hpt hst hf hh he hcal ho ht hcc hcs hls hdy t1 t2
  unfold Gives
  go_enter Tryz.func51, Tryz.ntmps51

  go_wp2_with (first
    | (go_at_call 44; (with_reducible refine (HO.out.strips).use ?_); intro vIA w1 hi hb1; have IA := Lib.hid hi.1; clear hi; obtain ⟨aIA, pIA, eIA, -⟩ := id IA.out; rw [HLA.out] at eIA; subst eIA; replace HO := Lib.hid (HO.out.below hb1); replace e4q : Hid (∀ o, w1.cell? ⟨w.heap.size, o, none⟩ = (w.alloc (.cells #[.int .i64 (n : Int), .int .i64 c.first, .slice fa c.free.length fc, .slice sa c.still.length sc, .slice ua l.length uc, .int .i64 pr] 70)).cell? ⟨w.heap.size, o, none⟩) := fun o => (hb1.cell (p := ⟨w.heap.size, o, none⟩) hxq).trans (e4q.out o); replace hxq : w.heap.size < w1.heap.size := Nat.lt_of_lt_of_le hxq hb1.size; replace hQ := Lib.hid (Below.trans hQ.out (hb1.mono hQ.out.size)); clear hb1; (try clear e4x); have e4x := e4q.out)
    | (go_at_call 31; (with_reducible refine (HO.out.laid).use ?_); intro vIB w2 hi hb2; have IB := Lib.hid hi.1; clear hi; obtain ⟨aIB, pIB, eIB, -⟩ := id IB.out; rw [HLB.out] at eIB; subst eIB; replace HO := Lib.hid (HO.out.below hb2); replace IA := Lib.hid (IA.out.below hb2); replace e4q : Hid (∀ o, w2.cell? ⟨w.heap.size, o, none⟩ = (w.alloc (.cells #[.int .i64 (n : Int), .int .i64 c.first, .slice fa c.free.length fc, .slice sa c.still.length sc, .slice ua l.length uc, .int .i64 pr] 70)).cell? ⟨w.heap.size, o, none⟩) := fun o => (hb2.cell (p := ⟨w.heap.size, o, none⟩) hxq).trans (e4q.out o); replace hxq : w.heap.size < w2.heap.size := Nat.lt_of_lt_of_le hxq hb2.size; replace hQ := Lib.hid (Below.trans hQ.out (hb2.mono hQ.out.size)); clear hb2; (try clear e4x); have e4x := e4q.out)
    | (go_at_call 30; (with_reducible refine (HO.out.clm).use ?_); intro vIC w3 hi hb3; have IC := Lib.hid hi.1; clear hi; obtain ⟨aIC, pIC, eIC, -⟩ := id IC.out; rw [HLC.out] at eIC; subst eIC; replace HO := Lib.hid (HO.out.below hb3); replace IA := Lib.hid (IA.out.below hb3); replace IB := Lib.hid (IB.out.below hb3); replace e4q : Hid (∀ o, w3.cell? ⟨w.heap.size, o, none⟩ = (w.alloc (.cells #[.int .i64 (n : Int), .int .i64 c.first, .slice fa c.free.length fc, .slice sa c.still.length sc, .slice ua l.length uc, .int .i64 pr] 70)).cell? ⟨w.heap.size, o, none⟩) := fun o => (hb3.cell (p := ⟨w.heap.size, o, none⟩) hxq).trans (e4q.out o); replace hxq : w.heap.size < w3.heap.size := Nat.lt_of_lt_of_le hxq hb3.size; replace hQ := Lib.hid (Below.trans hQ.out (hb3.mono hQ.out.size)); clear hb3; (try clear e4x); have e4x := e4q.out)
    | (go_at_call 32; (with_reducible refine (HO.out.part HPT.out).use ?_); intro w4 hb4 hz4 hc4 hf4; clear hc4 hf4 hz4; replace HO := Lib.hid (HO.out.below hb4); replace IA := Lib.hid (IA.out.below hb4); replace IB := Lib.hid (IB.out.below hb4); replace IC := Lib.hid (IC.out.below hb4); replace e4q : Hid (∀ o, w4.cell? ⟨w.heap.size, o, none⟩ = (w.alloc (.cells #[.int .i64 (n : Int), .int .i64 c.first, .slice fa c.free.length fc, .slice sa c.still.length sc, .slice ua l.length uc, .int .i64 pr] 70)).cell? ⟨w.heap.size, o, none⟩) := fun o => (hb4.cell (p := ⟨w.heap.size, o, none⟩) hxq).trans (e4q.out o); replace hxq : w.heap.size < w4.heap.size := Nat.lt_of_lt_of_le hxq hb4.size; replace hQ := Lib.hid (Below.trans hQ.out (hb4.mono hQ.out.size)); clear hb4; (try clear e4x); have e4x := e4q.out)
    | (go_at_call 33; (with_reducible refine (HO.out.stop HED.out).use ?_); intro w5 hb5 hz5 hc5 hf5; clear hc5 hf5 hz5; replace HO := Lib.hid (HO.out.below hb5); replace IA := Lib.hid (IA.out.below hb5); replace IB := Lib.hid (IB.out.below hb5); replace IC := Lib.hid (IC.out.below hb5); replace e4q : Hid (∀ o, w5.cell? ⟨w.heap.size, o, none⟩ = (w.alloc (.cells #[.int .i64 (n : Int), .int .i64 c.first, .slice fa c.free.length fc, .slice sa c.still.length sc, .slice ua l.length uc, .int .i64 pr] 70)).cell? ⟨w.heap.size, o, none⟩) := fun o => (hb5.cell (p := ⟨w.heap.size, o, none⟩) hxq).trans (e4q.out o); replace hxq : w.heap.size < w5.heap.size := Nat.lt_of_lt_of_le hxq hb5.size; replace hQ := Lib.hid (Below.trans hQ.out (hb5.mono hQ.out.size)); clear hb5; (try clear e4x); have e4x := e4q.out)
    | (go_at_call 83; (with_reducible refine (Deduct_calls _ _ _ _ IA.out HCB.out hp0 hp1).mono ?_); rintro e w6 ⟨v6, rfl, hi, hb6⟩; rw [HDC.out] at hi; have ID := Lib.hid hi.1; clear hi; replace HO := Lib.hid (HO.out.below hb6); replace IA := Lib.hid (IA.out.below hb6); replace IB := Lib.hid (IB.out.below hb6); replace IC := Lib.hid (IC.out.below hb6); replace e4q : Hid (∀ o, w6.cell? ⟨w.heap.size, o, none⟩ = (w.alloc (.cells #[.int .i64 (n : Int), .int .i64 c.first, .slice fa c.free.length fc, .slice sa c.still.length sc, .slice ua l.length uc, .int .i64 pr] 70)).cell? ⟨w.heap.size, o, none⟩) := fun o => (hb6.cell (p := ⟨w.heap.size, o, none⟩) hxq).trans (e4q.out o); replace hxq : w.heap.size < w6.heap.size := Nat.lt_of_lt_of_le hxq hb6.size; replace hQ := Lib.hid (Below.trans hQ.out (hb6.mono hQ.out.size)); clear hb6; (try clear e4x); have e4x := e4q.out)
    | (go_at_call 37; (with_reducible refine (HO.out.pay HPE.out HPL.out).mono ?_); rintro e w7 ⟨vIP, rfl, hi, hb7⟩; have IP := Lib.hid hi; clear hi; replace HO := Lib.hid (HO.out.below hb7); replace IA := Lib.hid (IA.out.below hb7); replace IB := Lib.hid (IB.out.below hb7); replace IC := Lib.hid (IC.out.below hb7); replace ID := Lib.hid (ID.out.below hb7); replace e4q : Hid (∀ o, w7.cell? ⟨w.heap.size, o, none⟩ = (w.alloc (.cells #[.int .i64 (n : Int), .int .i64 c.first, .slice fa c.free.length fc, .slice sa c.still.length sc, .slice ua l.length uc, .int .i64 pr] 70)).cell? ⟨w.heap.size, o, none⟩) := fun o => (hb7.cell (p := ⟨w.heap.size, o, none⟩) hxq).trans (e4q.out o); replace hxq : w.heap.size < w7.heap.size := Nat.lt_of_lt_of_le hxq hb7.size; replace hQ := Lib.hid (Below.trans hQ.out (hb7.mono hQ.out.size)); clear hb7; (try clear e4x); have e4x := e4q.out)
    | (go_at_call 68; (with_reducible refine (Pay_bad _ _ _ _ _ _ IC.out IB.out HCC.out HLL.out HLR.out hprb).use ?_); intro w8 hb8 hz8 hc8 hf8; clear hc8 hf8 hz8; replace HO := Lib.hid (HO.out.below hb8); replace IA := Lib.hid (IA.out.below hb8); replace IB := Lib.hid (IB.out.below hb8); replace IC := Lib.hid (IC.out.below hb8); replace ID := Lib.hid (ID.out.below hb8); replace IP := Lib.hid (IP.out.below hb8); replace e4q : Hid (∀ o, w8.cell? ⟨w.heap.size, o, none⟩ = (w.alloc (.cells #[.int .i64 (n : Int), .int .i64 c.first, .slice fa c.free.length fc, .slice sa c.still.length sc, .slice ua l.length uc, .int .i64 pr] 70)).cell? ⟨w.heap.size, o, none⟩) := fun o => (hb8.cell (p := ⟨w.heap.size, o, none⟩) hxq).trans (e4q.out o); replace hxq : w.heap.size < w8.heap.size := Nat.lt_of_lt_of_le hxq hb8.size; replace hQ := Lib.hid (Below.trans hQ.out (hb8.mono hQ.out.size)); clear hb8; have IW : Hid (IntsAt w8 (.slice none 0 0) []) := ints0 _ _ _ (by decide); (try clear e4x); have e4x := e4q.out)
    | (go_at_call 46; (with_reducible refine (sameInts8_is (t := true) ID.out IC.out (by simp)).use ?_); intro w9 hb9 hz9 hc9 hf9; clear hc9 hf9 hz9; replace HO := Lib.hid (HO.out.below hb9); replace IA := Lib.hid (IA.out.below hb9); replace IB := Lib.hid (IB.out.below hb9); replace IC := Lib.hid (IC.out.below hb9); replace IP := Lib.hid (IP.out.below hb9); replace IW := Lib.hid (IW.out.below hb9); replace e4q : Hid (∀ o, w9.cell? ⟨w.heap.size, o, none⟩ = (w.alloc (.cells #[.int .i64 (n : Int), .int .i64 c.first, .slice fa c.free.length fc, .slice sa c.still.length sc, .slice ua l.length uc, .int .i64 pr] 70)).cell? ⟨w.heap.size, o, none⟩) := fun o => (hb9.cell (p := ⟨w.heap.size, o, none⟩) hxq).trans (e4q.out o); replace hxq : w.heap.size < w9.heap.size := Nat.lt_of_lt_of_le hxq hb9.size; replace hQ := Lib.hid (Below.trans hQ.out (hb9.mono hQ.out.size)); clear hb9; (try clear e4x); have e4x := e4q.out)
    | (go_at_call 46; (with_reducible refine (sameInts8_is (t := true) IP.out IW.out (by simp)).use ?_); intro w10 hb10 hz10 hc10 hf10; clear hc10 hf10 hz10; replace HO := Lib.hid (HO.out.below hb10); replace IA := Lib.hid (IA.out.below hb10); replace IB := Lib.hid (IB.out.below hb10); replace IC := Lib.hid (IC.out.below hb10); replace IP := Lib.hid (IP.out.below hb10); replace e4q : Hid (∀ o, w10.cell? ⟨w.heap.size, o, none⟩ = (w.alloc (.cells #[.int .i64 (n : Int), .int .i64 c.first, .slice fa c.free.length fc, .slice sa c.still.length sc, .slice ua l.length uc, .int .i64 pr] 70)).cell? ⟨w.heap.size, o, none⟩) := fun o => (hb10.cell (p := ⟨w.heap.size, o, none⟩) hxq).trans (e4q.out o); replace hxq : w.heap.size < w10.heap.size := Nat.lt_of_lt_of_le hxq hb10.size; replace hQ := Lib.hid (Below.trans hQ.out (hb10.mono hQ.out.size)); clear hb10; (try clear e4x); have e4x := e4q.out)
    | (go_at_call 82; (with_reducible refine (tsum_is IB.out HFB.out HSB.out).use ?_))
    | (go_at_call 82; (with_reducible refine (tsum_is IC.out HFC.out HSC.out).use ?_))
    | (go_at_call 84; (with_reducible refine (Ends_calls _ c _ _ _ (HC.out.below hQ.out)).use ?_); rw [HE1.out, HE2.out]; intro w13 hb13 hz13 hc13 hf13; clear hc13 hf13 hz13; replace HO := Lib.hid (HO.out.below hb13); replace IA := Lib.hid (IA.out.below hb13); replace IB := Lib.hid (IB.out.below hb13); replace IC := Lib.hid (IC.out.below hb13); replace IP := Lib.hid (IP.out.below hb13); replace e4q : Hid (∀ o, w13.cell? ⟨w.heap.size, o, none⟩ = (w.alloc (.cells #[.int .i64 (n : Int), .int .i64 c.first, .slice fa c.free.length fc, .slice sa c.still.length sc, .slice ua l.length uc, .int .i64 pr] 70)).cell? ⟨w.heap.size, o, none⟩) := fun o => (hb13.cell (p := ⟨w.heap.size, o, none⟩) hxq).trans (e4q.out o); replace hxq : w.heap.size < w13.heap.size := Nat.lt_of_lt_of_le hxq hb13.size; replace hQ := Lib.hid (Below.trans hQ.out (hb13.mono hQ.out.size)); clear hb13; (try clear e4x); have e4x := e4q.out)
    | (go_at_call 82; (with_reducible refine (tsum_is IP.out HFP.out HSP.out).use ?_))
    | (go_at_call 36; (with_reducible refine (HO.out.ent HEN.out).use ?_); intro w14 hb14 hz14 hc14 hf14; clear hc14 hf14 hz14; replace HO := Lib.hid (HO.out.below hb14); replace e4q : Hid (∀ o, w14.cell? ⟨w.heap.size, o, none⟩ = (w.alloc (.cells #[.int .i64 (n : Int), .int .i64 c.first, .slice fa c.free.length fc, .slice sa c.still.length sc, .slice ua l.length uc, .int .i64 pr] 70)).cell? ⟨w.heap.size, o, none⟩) := fun o => (hb14.cell (p := ⟨w.heap.size, o, none⟩) hxq).trans (e4q.out o); replace hxq : w.heap.size < w14.heap.size := Nat.lt_of_lt_of_le hxq hb14.size; replace hQ := Lib.hid (Below.trans hQ.out (hb14.mono hQ.out.size)); clear hb14; (try clear e4x); have e4x := e4q.out)
    | (go_at_call 42; (with_reducible refine (HO.out.day HDY.out).use ?_); intro w15 hb15 hz15 hc15 hf15; clear hc15 hf15 hz15; replace HO := Lib.hid (HO.out.below hb15); replace e4q : Hid (∀ o, w15.cell? ⟨w.heap.size, o, none⟩ = (w.alloc (.cells #[.int .i64 (n : Int), .int .i64 c.first, .slice fa c.free.length fc, .slice sa c.still.length sc, .slice ua l.length uc, .int .i64 pr] 70)).cell? ⟨w.heap.size, o, none⟩) := fun o => (hb15.cell (p := ⟨w.heap.size, o, none⟩) hxq).trans (e4q.out o); replace hxq : w.heap.size < w15.heap.size := Nat.lt_of_lt_of_le hxq hb15.size; replace hQ := Lib.hid (Below.trans hQ.out (hb15.mono hQ.out.size)); clear hb15; (try clear e4x); have e4x := e4q.out))
  go_ret
  exact ⟨rfl, hQ.out⟩

theorem settled_calls {m : Nat} {w : World} {B n : Nat} {x : Off} {v : Value} {c : Cal} {l : List ByteArray} {pr h d : Int} (hv : VillageAt w v (n : Int) c l pr) (ho : OffS m w B n x) (ht : Track c x h d) :
    Gives Tryz.prog 51 #[v, .pointer (some ⟨B, 0, none⟩), .int .i64 h, .int .i64 d] w (.bool true) := by
  cases hf : x.s.fixed
  · exact settled_open (h := h) (d := d) hv ho hf
  · by_cases hp : 0 ≤ pr ∧ pr ≤ 1000
    · cases hh : x.s.heard
      · exact settled_planA (h := h) (d := d) hv ho hf hh hp.1 hp.2
      · cases he : x.s.ent
        · exact settled_heardAN hv ho ht hf hh he hp.1 hp.2
        · exact settled_heardAE hv ho ht hf hh he hp.1 hp.2
    · have hb : pr < 0 ∨ 1000 < pr := by omega
      cases hh : x.s.heard
      · exact settled_planB (h := h) (d := d) hv ho hf hh hb
      · cases he : x.s.ent
        · exact settled_heardBN hv ho ht hf hh he hb
        · exact settled_heardBE hv ho ht hf hh he hb
end Go.Proofs.YthooacpfmjpdmaaGreatDoor
/- The law TopOffice, walked. Conditions: the village lies as said; the library's variables read as they were laid. -/
namespace Go.Proofs.YthooacpfmjpdmaaGreatDoor
open Go.RowKit
def six : List ByteArray := [⟨#[115, 116, 114, 105, 112, 32, 48, 32, 49, 48, 48]⟩, ⟨#[115, 116, 114, 105, 112, 32, 49, 32, 53, 48]⟩, ⟨#[100, 101, 100, 117, 99, 116, 32, 49, 48]⟩, ⟨#[108, 97, 121, 32, 48, 32, 57, 50]⟩, ⟨#[108, 97, 121, 32, 49, 32, 52, 51]⟩, ⟨#[104, 101, 97, 114, 32, 49, 52]⟩]
def kxF : Nat → Off
  | 0 => kx0 | 1 => kx1 | 2 => kx2 | 3 => kx3 | 4 => kx4 | 5 => kx5 | _ => kx6
theorem kxF_step {i : Nat} (h : i < 6) : stepE (kxF i) (gi six default i) = 0 ∧ stepO (kxF i) (gi six default i) = kxF (i + 1) := by
  rcases (show i = 0 ∨ i = 1 ∨ i = 2 ∨ i = 3 ∨ i = 4 ∨ i = 5 by omega) with rfl | rfl | rfl | rfl | rfl | rfl
  · exact ⟨ke1, rfl⟩
  · exact ⟨ke2, rfl⟩
  · exact ⟨ke3, rfl⟩
  · exact ⟨ke4, rfl⟩
  · exact ⟨ke5, rfl⟩
  · exact ⟨ke6, rfl⟩
def long8B (c : Cal) : Bool := decide (100 < c.free.length) || decide (100 < c.still.length)
set_option maxHeartbeats 1000000 in
theorem Long8_calls {v : Value} {c : Cal} {b : Bool} {w : World} (h : CalAt w v c) (hb : long8B c = b) : Gives Tryz.prog 47 #[v] w (.bool b) := by
  obtain ⟨fa, fc, sa, sc, rfl, -⟩ := h.cells
  clear h
  unfold Gives
  unfold long8B at hb
  by_cases h1 : 100 < c.free.length
  · have H : Hid (b = true) := by show _ = _; rw [← hb, decide_eq_true h1]; rfl
    have k1 : decide ((100 : Int) < (c.free.length : Int)) = true := decide_eq_true (by omega)
    have k1' : (100 : Int) < (c.free.length : Int) := by omega
    clear h1 hb
    go_enter Tryz.func47, Tryz.ntmps47
    go_wp2
    go_ret
    exact ⟨ret_bool H.out.symm, by (repeat' (first | exact Below.refl _ _ | assumption | refine below_new ?_ _ | refine below_draw ?_ | refine below_tail (by assumption) ?_ | refine below_set ?_ (by first | omega | (simp <;> omega)) _))⟩
  · obtain ⟨q, hq⟩ : ∃ q, decide ((100 : Int) < (c.still.length : Int)) = q := ⟨_, rfl⟩
    have H : Hid (b = q) := by show _ = _; rw [← hb, ← hq, decide_eq_false h1, Bool.false_or, decide_eq_decide]; omega
    have k1 : decide ((100 : Int) < (c.free.length : Int)) = false := decide_eq_false (by omega)
    have k1' : ¬ (100 : Int) < (c.free.length : Int) := by omega
    clear h1 hb
    go_enter Tryz.func47, Tryz.ntmps47
    go_wp2
    go_ret
    exact ⟨ret_bool H.out.symm, by (repeat' (first | exact Below.refl _ _ | assumption | refine below_new ?_ _ | refine below_draw ?_ | refine below_tail (by assumption) ?_ | refine below_set ?_ (by first | omega | (simp <;> omega)) _))⟩
theorem prefix_is {s p : ByteArray} {b : Bool} {w : World} (hb : Lib.hasPrefix s.data.toList p.data.toList = b) : Same Tryz.prog 48 #[.string s, .string p] w (.bool b) :=
  (Tryz.strings_HasPrefix s p w).mono fun _ _ ⟨h1, h2⟩ => ⟨hb ▸ h1, h2.symm⟩
/-- How an order reads that is done: a hearing, an objection, or another one. -/
inductive Sort3 (c : Cal) (x : Off) (h d : Int) (n : Nat) (q : ByteArray) : Prop
  | hear (b : ByteArray) (v : Int) (h1 : Lib.hasPrefix q.data.toList (⟨#[104, 101, 97, 114, 32]⟩ : ByteArray).data.toList = true) (h2 : Lib.hasPrefix q.data.toList (⟨#[111, 98, 106, 101, 99, 116, 32]⟩ : ByteArray).data.toList = false) (h3 : 5 ≤ q.size) (h4 : q.extract 5 q.size = b) (h5 : atoiE b = some v) (h6 : b.size ≤ 1000000) (ht : Track c (stepO x q) x.s.day v)
  | object (h1 : Lib.hasPrefix q.data.toList (⟨#[104, 101, 97, 114, 32]⟩ : ByteArray).data.toList = false) (h2 : Lib.hasPrefix q.data.toList (⟨#[111, 98, 106, 101, 99, 116, 32]⟩ : ByteArray).data.toList = true) (h3 : askedF c [h, x.s.day] [d] = 0) (h4 : inR c h d x.s.day = true) (h5 : (opnF (stepO x q).s.opn).length = (opnF x.s.opn).length + 1) (ht : Track c (stepO x q) h d)
  | other (h1 : Lib.hasPrefix q.data.toList (⟨#[104, 101, 97, 114, 32]⟩ : ByteArray).data.toList = false) (h2 : Lib.hasPrefix q.data.toList (⟨#[111, 98, 106, 101, 99, 116, 32]⟩ : ByteArray).data.toList = false) (ht : Track c (stepO x q) h d)
theorem extr_data (t : ByteArray) (i j : Nat) : (t.extract i j).data.toList = (t.data.toList.drop i).take (j - i) := by
  rw [ByteArray.data_extract, Array.toList_extract]
theorem pre_iff {s p : List UInt8} : Lib.hasPrefix s p = true ↔ p <+: s := by unfold Lib.hasPrefix; exact List.isPrefixOf_iff_prefix
theorem pre_not {s p : List UInt8} : Lib.hasPrefix s p = false ↔ ¬ p <+: s := by rw [← pre_iff]; cases Lib.hasPrefix s p <;> simp
theorem form_hear {V : List UInt8} (h : formsF V = some (4, 1, 0)) : V = [104, 101, 97, 114] := by
  unfold formsF at h
  repeat' (split at h)
  all_goals first | assumption | (exfalso; injection h with h; revert h; decide) | cases h
theorem form_object {V : List UInt8} (h : formsF V = some (5, 1, 1)) : V = [111, 98, 106, 101, 99, 116] := by
  unfold formsF at h
  repeat' (split at h)
  all_goals first | assumption | (exfalso; injection h with h; revert h; decide) | cases h
theorem sort3 {c : Cal} {x : Off} {h d : Int} {n : Nat} {q : ByteArray} (ht : Track c x h d) (hm : Made n x) (he : stepE x q = 0) : Sort3 c x h d n q := by
  obtain ⟨t, l, hp, hs, hS, hC⟩ := step_of he
  have w1 := parse_word hp (W := [104, 101, 97, 114]) (f := (4, 1, 0)) (by decide) (by kernel_rfl) (fun V hV => form_hear hV) (by decide)
  have w2 := parse_word hp (W := [111, 98, 106, 101, 99, 116]) (f := (5, 1, 1)) (by decide) (by kernel_rfl) (fun V hV => form_object hV) (by decide)
  have w1 : (⟨#[104, 101, 97, 114, 32]⟩ : ByteArray).data.toList <+: q.data.toList ↔ t = (4, 1, 0) := w1
  have w2 : (⟨#[111, 98, 106, 101, 99, 116, 32]⟩ : ByteArray).data.toList <+: q.data.toList ↔ t = (5, 1, 1) := w2
  by_cases h4 : t = (4, 1, 0)
  · subst h4
    obtain ⟨r, hr⟩ := w1.2 rfl
    have he2 : q.data.toList = [104, 101, 97, 114] ++ 32 :: r := by rw [← hr]; rfl
    obtain ⟨v, rfl, hv⟩ := parse_rest hp (by decide) he2 rfl
    have hsz : q.size = r.length + 5 := by rw [← size_list, he2]; simp
    have hq30 := (parseF_facts hp).2.1
    refine .hear (mkB r) v (pre_iff.2 ⟨r, hr⟩) (pre_not.2 fun k => by have := w2.1 k; exact absurd this (by decide)) (by omega) ?_ ?_ (by rw [mkB_size]; omega) (ht.hear he hp)
    · apply bytes_ext
      rw [extr_data, mkB_data, he2, hsz]
      have e5 : ([104, 101, 97, 114] ++ 32 :: r).drop 5 = r := rfl
      rw [e5, List.take_of_length_le (by omega)]
    · unfold numF at hv
      split at hv
      · rename_i u hu
        split at hv
        · injection hv with hv; rw [hu, hv]
        · cases hv
      · cases hv
  · by_cases h5 : t = (5, 1, 1)
    · subst h5
      obtain ⟨a1, a2, a3⟩ := ht.object hm he hp
      exact .object (pre_not.2 fun k => h4 (w1.1 k)) (pre_iff.2 (w2.2 rfl)) a1 a2 a3 (ht.other he hp h4)
    · exact .other (pre_not.2 fun k => h4 (w1.1 k)) (pre_not.2 fun k => h5 (w2.1 k)) (ht.other he hp h4)

theorem openV {v : Value} {k : Int} {c : Cal} {l : List ByteArray} {pr : Int} {w : World} (h : VillageAt w v k c l pr) : ∃ fa fc sa sc ua uc, v = .agg #[.int .i64 k, .int .i64 c.first, .slice fa c.free.length fc, .slice sa c.still.length sc, .slice ua l.length uc, .int .i64 pr] ∧ CalAt w (.agg #[.int .i64 c.first, .slice fa c.free.length fc, .slice sa c.still.length sc]) c ∧ TextsAt w (.slice ua l.length uc) l := by
  obtain ⟨fv, sv, uv, rfl, hcal, htx⟩ := h
  obtain ⟨fa, fc, sa, sc, e0, -⟩ := hcal.cells
  simp only [Value.agg.injEq, Array.mk.injEq, List.cons.injEq, and_true, true_and] at e0
  obtain ⟨rfl, rfl⟩ := e0
  have h2 := htx
  obtain ⟨ua, uc, rfl, -⟩ := htx
  exact ⟨fa, fc, sa, sc, ua, uc, rfl, hcal, h2⟩
set_option maxRecDepth 100000 in
set_option maxHeartbeats 8000000 in
theorem topOffice_calls (v : Value) (k : Int) (c : Cal) (l : List ByteArray) (pr : Int) (w : World) (hv : VillageAt w v k c l pr) (hb : Base w) : Gives Tryz.prog 15 #[v] w (.bool true) := by
  obtain ⟨fa, fc, sa, sc, ua, uc, rfl, hcal, htx⟩ := openV hv
  have HV := Lib.hid hv
  have HC := Lib.hid hcal
  have HT := Lib.hid htx
  have HB := Lib.hid hb
  have h9 := hb.nine
  have hQ1 : Hid (Below w.heap.size w (w.alloc (.cells #[.int .i64 k, .int .i64 c.first, .slice fa c.free.length fc, .slice sa c.still.length sc, .slice ua l.length uc, .int .i64 pr] 70))) := (Below.refl _ _).alloc (Nat.le_refl _) _
  have hms : w.heap.size < (w.alloc (.cells #[.int .i64 k, .int .i64 c.first, .slice fa c.free.length fc, .slice sa c.still.length sc, .slice ua l.length uc, .int .i64 pr] 70)).heap.size := by simp
  clear hv hcal htx hb
  unfold Gives
  go_enter Tryz.func15, Tryz.ntmps15
  go_wp2_with (go_at_call 19; refine Calls.mono (New_t 0 2 _ kc _ (kc_at _) kn0) ?_; rintro e w0 ⟨B0, rfl, ⟨ho0, hm0⟩, hb0⟩; have H0 : Hid (OffIn (w.alloc (.cells #[.int .i64 k, .int .i64 c.first, .slice fa c.free.length fc, .slice sa c.still.length sc, .slice ua l.length uc, .int .i64 pr] 70)).heap.size w0 B0 2 kx0 (.slice none 0 0) ∧ Made 2 kx0) := ⟨ho0, hm0⟩; have HB0 := Lib.hid hb0; have hz0 := hb0.size; clear ho0 hm0 hb0)
  obtain ⟨W1, hW1⟩ : ∃ W, w0.alloc (.cells #[.string ⟨#[115, 116, 114, 105, 112, 32, 48, 32, 49, 48, 48]⟩, .string ⟨#[115, 116, 114, 105, 112, 32, 49, 32, 53, 48]⟩, .string ⟨#[100, 101, 100, 117, 99, 116, 32, 49, 48]⟩, .string ⟨#[108, 97, 121, 32, 48, 32, 57, 50]⟩, .string ⟨#[108, 97, 121, 32, 49, 32, 52, 51]⟩, .string ⟨#[104, 101, 97, 114, 32, 49, 52]⟩] 9) = W := ⟨_, rfl⟩
  have HB1 : Hid (Below (w.alloc (.cells #[.int .i64 k, .int .i64 c.first, .slice fa c.free.length fc, .slice sa c.still.length sc, .slice ua l.length uc, .int .i64 pr] 70)).heap.size (w.alloc (.cells #[.int .i64 k, .int .i64 c.first, .slice fa c.free.length fc, .slice sa c.still.length sc, .slice ua l.length uc, .int .i64 pr] 70)) W1) := by rw [← hW1]; exact HB0.out.alloc hz0 _
  have HRW : Hid (W1.ownsRow w0.heap.size 9 1 (.slice (some ⟨w0.heap.size, 0, none⟩) 6 6) 6 (cellsS six)) := by
    rw [← hW1]
    exact ⟨by simp [cellsS, six], .inr ⟨w0.heap.size, 6, #[.string ⟨#[115, 116, 114, 105, 112, 32, 48, 32, 49, 48, 48]⟩, .string ⟨#[115, 116, 114, 105, 112, 32, 49, 32, 53, 48]⟩, .string ⟨#[100, 101, 100, 117, 99, 116, 32, 49, 48]⟩, .string ⟨#[108, 97, 121, 32, 48, 32, 57, 50]⟩, .string ⟨#[108, 97, 121, 32, 49, 32, 52, 51]⟩, .string ⟨#[104, 101, 97, 114, 32, 49, 52]⟩], rfl, Nat.le_refl _, World.alloc_heap_new w0 _, Nat.le_refl _, by unfold maxLen; omega, by simp, by simp [cellsS, six]⟩⟩
  have hB0 : B0 < w0.heap.size := H0.out.1.facts.2.1
  have HBS : Hid (Beside (w.alloc (.cells #[.int .i64 k, .int .i64 c.first, .slice fa c.free.length fc, .slice sa c.still.length sc, .slice ua l.length uc, .int .i64 pr] 70)).heap.size w0.heap.size W1 B0 2 kx0 (.slice none 0 0) (.slice (some ⟨w0.heap.size, 0, none⟩) 6 6) six) :=
    { off := by rw [← hW1]; exact H0.out.1.below ((Below.refl _ _).alloc (Nat.le_refl _) _), made := H0.out.2, row := HRW.out, nB := (fun e => by have e2 : w0.heap.size = B0 := Option.some.inj e; omega), nO := (by intro b _ e; cases e) }
  rw [hW1]
  have hzW : (w.alloc (.cells #[.int .i64 k, .int .i64 c.first, .slice fa c.free.length fc, .slice sa c.still.length sc, .slice ua l.length uc, .int .i64 pr] 70)).heap.size ≤ W1.heap.size := HB1.out.size
  clear H0 HB0 HRW hW1
  have h9m : 9 ≤ (w.alloc (.cells #[.int .i64 k, .int .i64 c.first, .slice fa c.free.length fc, .slice sa c.still.length sc, .slice ua l.length uc, .int .i64 pr] 70)).heap.size := Nat.le_trans h9 (Nat.le_of_lt hms)
  go_loopw [6, 33] (fun _ i wr => ∃ (j : Nat) (ov : Value), j ≤ 6 ∧ i = .int .i64 j ∧ Hid (Below (w.alloc (.cells #[.int .i64 k, .int .i64 c.first, .slice fa c.free.length fc, .slice sa c.still.length sc, .slice ua l.length uc, .int .i64 pr] 70)).heap.size (w.alloc (.cells #[.int .i64 k, .int .i64 c.first, .slice fa c.free.length fc, .slice sa c.still.length sc, .slice ua l.length uc, .int .i64 pr] 70)) wr) ∧ Hid (Beside (w.alloc (.cells #[.int .i64 k, .int .i64 c.first, .slice fa c.free.length fc, .slice sa c.still.length sc, .slice ua l.length uc, .int .i64 pr] 70)).heap.size w0.heap.size wr B0 2 (kxF j) ov (.slice (some ⟨w0.heap.size, 0, none⟩) 6 6) six)) (fun _ i _ => 6 - (intOf i).toNat)
  case atStart => exact ⟨0, _, by omega, rfl, HB1, HBS⟩
  case round =>
    clear HBS HB1
    obtain ⟨j, ov, hj, rfl, hbw, hbs⟩ := hrel
    by_cases hlt : j < 6
    · have k1 : decide ((j : Int) < 6) = true := decide_eq_true (by omega)
      have k1' : (j : Int) < 6 := by omega
      obtain ⟨tb, tof, e0, hBc, hcell⟩ := (own_texts hbs.out.row).cellAt (m := j) hlt
      injection e0 with e0
      injection e0 with e01 e02
      subst e01 e02
      rw [Nat.zero_add] at hcell
      obtain ⟨s1, s2⟩ := kxF_step hlt
      obtain ⟨d, hd⟩ : ∃ d, gi six default j = d := ⟨_, rfl⟩
      rw [hd] at s1 s2 hcell
      have HS1 := Lib.hid s1
      have HS2 := Lib.hid s2
      clear hd s1 s2
      have hw6 : IntKind.i64.wrap ((j : Int) + 1) = (j : Int) + 1 := IntWalk.i64_in _ (by omega)
      go_wp2_with (go_at_call 21; (with_reducible refine (hbs.out.step d h9m (HB.out.below (Below.trans hQ1.out (hbw.out.mono (Nat.le_of_lt hms))))).mono ?_); rintro e w7 ⟨rfl, ⟨ov7, hbs7⟩, hb7⟩; rw [HS1.out]; rw [HS2.out] at hbs7; have HBS7 := Lib.hid hbs7; have HB7 := Lib.hid hb7; clear hbs7 hb7)
      go_roundw
      case rel => exact ⟨j + 1, ov7, by omega, by go_num, Below.trans hbw.out HB7.out, HBS7⟩
      case measure => simp [intOf]; omega
    · have k1 : decide ((j : Int) < 6) = false := decide_eq_false (by omega)
      have k1' : ¬ (j : Int) < 6 := by omega
      have hj6 : j = 6 := by omega
      have HO : Hid (OffS (w.alloc (.cells #[.int .i64 k, .int .i64 c.first, .slice fa c.free.length fc, .slice sa c.still.length sc, .slice ua l.length uc, .int .i64 pr] 70)).heap.size wr B0 2 kx6) := by
        have h1 := hbs.out.toS
        rw [hj6] at h1
        exact h1
      have hQ : Hid (Below w.heap.size w wr) := Below.trans hQ1.out (hbw.out.mono (Nat.le_of_lt hms))
      have e4q : Hid (∀ o, wr.cell? ⟨w.heap.size, o, none⟩ = (w.alloc (.cells #[.int .i64 k, .int .i64 c.first, .slice fa c.free.length fc, .slice sa c.still.length sc, .slice ua l.length uc, .int .i64 pr] 70)).cell? ⟨w.heap.size, o, none⟩) := fun o => hbw.out.cell (p := ⟨w.heap.size, o, none⟩) hms
      have hxq : w.heap.size < wr.heap.size := Nat.lt_of_lt_of_le hms hbw.out.size
      clear hbs hbw
      go_upto_region 13 with (first
        | (go_at_call 37; (with_reducible refine (HO.out.pay kp6 kl6).mono ?_); rintro e w8 ⟨v8, rfl, hi, hb8⟩; have IP := Lib.hid hi; clear hi HO; replace e4q := Lib.hid (fun o : Nat => (hb8.cell (p := ⟨w.heap.size, o, none⟩) hxq).trans (e4q.out o)); replace hxq : w.heap.size < w8.heap.size := Nat.lt_of_lt_of_le hxq hb8.size; replace hQ := Lib.hid (Below.trans hQ.out (hb8.mono hQ.out.size)); clear hb8)
        | (go_at_call 46; (with_reducible refine (sameInts8_is (t := true) (IP.out.below ((Below.refl _ _).alloc (Nat.le_refl _) _)) (pay_four _ rfl) (by decide)).use ?_); intro w9 hb9 hz9 hc9 hf9; clear hc9 hf9 hz9 IP; replace hb9 : Below w8.heap.size w8 w9 := ((Below.refl _ w8).alloc (Nat.le_refl _) _).trans (hb9.mono (by simp)); replace e4q := Lib.hid (fun o : Nat => (hb9.cell (p := ⟨w.heap.size, o, none⟩) hxq).trans (e4q.out o)); replace hxq : w.heap.size < w9.heap.size := Nat.lt_of_lt_of_le hxq hb9.size; replace hQ := Lib.hid (Below.trans hQ.out (hb9.mono hQ.out.size)); clear hb9; (try clear e4x); have e4x := e4q.out))
      obtain ⟨b8, hb8e⟩ : ∃ b, long8B c = b := ⟨_, rfl⟩
      have HL8 := Lib.hid hb8e
      cases b8 with
      | true =>
        clear hb8e
        go_wp2_with (go_at_call 47; (with_reducible refine (Long8_calls (HC.out.below hQ.out) HL8.out).use ?_); intro w10 hb10 hz10 hc10 hf10; clear hc10 hf10 hz10; replace e4q := Lib.hid (fun o : Nat => (hb10.cell (p := ⟨w.heap.size, o, none⟩) hxq).trans (e4q.out o)); replace hxq : w.heap.size < w10.heap.size := Nat.lt_of_lt_of_le hxq hb10.size; replace hQ := Lib.hid (Below.trans hQ.out (hb10.mono hQ.out.size)); clear hb10; (try clear e4x); have e4x := e4q.out)
        go_ret
        exact ⟨rfl, hQ.out⟩
      | false =>
        clear hb8e
        by_cases h300 : 300 < l.length
        · have k3 : decide ((300 : Int) < (l.length : Int)) = true := decide_eq_true (by omega)
          have k3' : (300 : Int) < (l.length : Int) := by omega
          go_wp2_with (go_at_call 47; (with_reducible refine (Long8_calls (HC.out.below hQ.out) HL8.out).use ?_); intro w10 hb10 hz10 hc10 hf10; clear hc10 hf10 hz10; replace e4q := Lib.hid (fun o : Nat => (hb10.cell (p := ⟨w.heap.size, o, none⟩) hxq).trans (e4q.out o)); replace hxq : w.heap.size < w10.heap.size := Nat.lt_of_lt_of_le hxq hb10.size; replace hQ := Lib.hid (Below.trans hQ.out (hb10.mono hQ.out.size)); clear hb10; (try clear e4x); have e4x := e4q.out)
          go_ret
          exact ⟨rfl, hQ.out⟩
        · have k3 : decide ((300 : Int) < (l.length : Int)) = false := decide_eq_false (by omega)
          have k3' : ¬ (300 : Int) < (l.length : Int) := by omega
          by_cases hz : NewE k c = 0
          · obtain ⟨n, hn⟩ : ∃ n : Nat, k = (n : Int) := by
              refine ⟨k.toNat, ?_⟩
              have hr : ¬ (k < 1 ∨ 8 < k) := by intro hh; unfold NewE at hz; rw [if_pos hh] at hz; cases hz
              omega
            have HKN : Hid (k.toNat = n) := by show _ = _; rw [hn, Int.toNat_natCast]
            have HVN : Hid (VillageAt w (.agg #[.int .i64 k, .int .i64 c.first, .slice fa c.free.length fc, .slice sa c.still.length sc, .slice ua l.length uc, .int .i64 pr]) (n : Int) c l pr) := by show VillageAt _ _ _ _ _ _; rw [← hn]; exact HV.out
            clear hn
            have HZ := Lib.hid hz
            clear hz
            go_wp2_with (first
              | (go_at_call 47; (with_reducible refine (Long8_calls (HC.out.below hQ.out) HL8.out).use ?_); intro w10 hb10 hz10 hc10 hf10; clear hc10 hf10 hz10; replace e4q := Lib.hid (fun o : Nat => (hb10.cell (p := ⟨w.heap.size, o, none⟩) hxq).trans (e4q.out o)); replace hxq : w.heap.size < w10.heap.size := Nat.lt_of_lt_of_le hxq hb10.size; replace hQ := Lib.hid (Below.trans hQ.out (hb10.mono hQ.out.size)); clear hb10; (try clear e4x); have e4x := e4q.out; have e4n := Lib.hid e4q.out; have hQN := Lib.hid hQ.out)
              | (go_at_call 19; (with_reducible refine (New_step _ _ c _ (HC.out.below hQ.out) HZ.out).mono ?_); rintro e w11 ⟨B, rfl, ho11, hb11⟩; rw [HKN.out] at ho11; have HO := Lib.hid ho11; have HBN : Hid (Below w10.heap.size w10 w11) := hb11; have hxn : w.heap.size < w10.heap.size := hxq; clear ho11; replace e4q := Lib.hid (fun o : Nat => (hb11.cell (p := ⟨w.heap.size, o, none⟩) hxq).trans (e4q.out o)); replace hxq : w.heap.size < w11.heap.size := Nat.lt_of_lt_of_le hxq hb11.size; replace hQ := Lib.hid (Below.trans hQ.out (hb11.mono hQ.out.size)); clear hb11; (try clear e4x); have e4x := e4q.out))
            have HT0 : Hid (Track c (newO n c) 0 0) := Track.new n c
            have h9n : 9 ≤ w10.heap.size := Nat.le_trans h9 (Nat.le_of_lt hxn)
            clear e4x
            go_loopw [9, 10, 11, 12, 13, 14, 15, 16, 17, 18, 19] (fun hh dd i _ _ _ _ _ _ _ _ wr => ∃ (j : Nat) (h d : Int), j ≤ l.length ∧ j ≤ 40 ∧ hh = .int .i64 h ∧ dd = .int .i64 d ∧ i = .int .i64 j ∧ Hid (Below w10.heap.size w10 wr) ∧ Hid (OffS w10.heap.size wr B n (manyO (newO n c) (l.take j))) ∧ Hid (Track c (manyO (newO n c) (l.take j)) h d)) (fun _ _ i _ _ _ _ _ _ _ _ _ => 40 - (intOf i).toNat)
            case atStart => exact ⟨0, 0, 0, Nat.zero_le _, Nat.zero_le _, rfl, rfl, rfl, HBN, HO, HT0⟩
            case round =>
              clear HO HT0 HBN e4q hxq hQ
              obtain ⟨j, h, d, hj, hj40, rfl, rfl, rfl, HBN, HO, HTR⟩ := hrel
              have hQ : Hid (Below w.heap.size w wr) := Below.trans hQN.out (HBN.out.mono (Nat.le_of_lt hxn))
              have e4q : Hid (∀ o, wr.cell? ⟨w.heap.size, o, none⟩ = (w.alloc (.cells #[.int .i64 k, .int .i64 c.first, .slice fa c.free.length fc, .slice sa c.still.length sc, .slice ua l.length uc, .int .i64 pr] 70)).cell? ⟨w.heap.size, o, none⟩) := fun o => (HBN.out.cell (p := ⟨w.heap.size, o, none⟩) hxn).trans (e4n.out o)
              have hxq : w.heap.size < wr.heap.size := Nat.lt_of_lt_of_le hxn HBN.out.size
              have e4x := e4q.out
              by_cases hlt : j < l.length
              · have k2 : decide ((j : Int) < (l.length : Int)) = true := decide_eq_true (by omega)
                by_cases h40 : j < 40
                · have k5 : decide ((j : Int) < 40) = true := decide_eq_true (by omega)
                  obtain ⟨q, hq⟩ : ∃ q, gi l default j = q := ⟨_, rfl⟩
                  have hTK : l.take (j + 1) = l.take j ++ [q] := by rw [List.take_succ_eq_append_getElem hlt, ← hq, gi_lt hlt]
                  obtain ⟨tb, tof, rfl, hBc, hcell0⟩ := HT.out.cellAt (m := j) hlt
                  rw [hq] at hcell0
                  have hcell : wr.cell? ⟨tb, tof + j, none⟩ = some (.string q) := (hQ.out.cell (p := ⟨tb, tof + j, none⟩) hBc).trans hcell0
                  obtain ⟨x, hx⟩ : ∃ x, manyO (newO n c) (l.take j) = x := ⟨_, rfl⟩
                  have HTK : Hid (manyO (newO n c) (l.take (j + 1)) = stepO x q) := by show _ = _; rw [hTK, manyO_snoc, hx]
                  rw [hx] at HO HTR
                  obtain ⟨D, hD⟩ : ∃ D, x.s.day = D := ⟨_, rfl⟩
                  have HDY := Lib.hid hD
                  obtain ⟨NO, hNO⟩ : ∃ N, (opnF x.s.opn).length = N := ⟨_, rfl⟩
                  have HNO := Lib.hid hNO
                  have hNO8 : NO ≤ 8 := by
                    rw [← hNO]
                    have h1 := opnK_len x.s.opn x.s.opn.length
                    have h2 := HO.out.2.long.l3
                    have h3 := HO.out.2.n8
                    show (opnK x.s.opn x.s.opn.length).length ≤ 8
                    omega
                  have hw6 : IntKind.i64.wrap ((j : Int) + 1) = (j : Int) + 1 := IntWalk.i64_in _ (by omega)
                  have hw7 : IntKind.i64.wrap ((NO : Int) + 1) = (NO : Int) + 1 := IntWalk.i64_in _ (by omega)
                  obtain ⟨E, hE⟩ : ∃ E, stepE x q = E := ⟨_, rfl⟩
                  have HE := Lib.hid hE
                  clear hTK hq hcell0 hx
                  by_cases hE0 : E = 0
                  · subst hE0
                    cases sort3 (n := n) HTR.out HO.out.2 hE with
                    | hear b vv h1 h2 h3 h4 h5 h6 ht =>
                      rw [hD] at ht
                      have HH1 := Lib.hid h1
                      have HH2 := Lib.hid h2
                      have HA5 := Lib.hid h5
                      have hb6 := h6
                      have h3' : ¬ q.size < 5 := by omega
                      have HTR := Lib.hid ht
                      clear h1 h2 h5 h6 ht hE hD hNO
                      go_wp2_with (first
                        | (go_at_call 42; (with_reducible refine (HO.out.day HDY.out).use ?_); intro w12 hb12 hz12 hc12 hf12; clear hc12 hf12 hz12; replace HO := Lib.hid (HO.out.below hb12); replace e4q := Lib.hid (fun o : Nat => (hb12.cell (p := ⟨w.heap.size, o, none⟩) hxq).trans (e4q.out o)); replace hxq : w.heap.size < w12.heap.size := Nat.lt_of_lt_of_le hxq hb12.size; replace hQ := Lib.hid (Below.trans hQ.out (hb12.mono hQ.out.size)); replace HBN := Lib.hid (Below.trans HBN.out (hb12.mono HBN.out.size)); clear hb12; (try clear e4x); have e4x := e4q.out)
                        | (go_at_call 35; (with_reducible refine (HO.out.opn).use ?_); intro vO w13 hi hb13; obtain ⟨⟨aO, pO, eO, -⟩, -⟩ := hi; rw [HNO.out] at eO; subst eO; replace HO := Lib.hid (HO.out.below hb13); replace e4q := Lib.hid (fun o : Nat => (hb13.cell (p := ⟨w.heap.size, o, none⟩) hxq).trans (e4q.out o)); replace hxq : w.heap.size < w13.heap.size := Nat.lt_of_lt_of_le hxq hb13.size; replace hQ := Lib.hid (Below.trans hQ.out (hb13.mono hQ.out.size)); replace HBN := Lib.hid (Below.trans HBN.out (hb13.mono HBN.out.size)); clear hb13; (try clear e4x); have e4x := e4q.out)
                        | (go_at_call 21; (with_reducible refine (Do_step q HO.out h9n (HB.out.below hQ.out)).mono ?_); rintro e w14 ⟨rfl, ho14, hb14, -, -⟩; rw [HE.out]; replace HO := Lib.hid ho14; clear ho14; replace e4q := Lib.hid (fun o : Nat => (hb14.cell (p := ⟨w.heap.size, o, none⟩) hxn).trans (e4q.out o)); replace hxq : w.heap.size < w14.heap.size := Nat.lt_of_lt_of_le hxq hb14.size; replace hQ := Lib.hid (Below.trans hQ.out (hb14.mono (Nat.le_of_lt hxn))); replace HBN := Lib.hid (Below.trans HBN.out hb14); clear hb14; (try clear e4x); have e4x := e4q.out)
                        | (go_at_call 48; (with_reducible refine (prefix_is HH1.out).use ?_))
                        | (go_at_call 48; (with_reducible refine (prefix_is HH2.out).use ?_))
                        | (go_at_call 49; (with_reducible refine (atoi_ok hb6 HA5.out).use ?_); intro w15 hb15 hz15 hc15 hf15; clear hc15 hf15 hz15; replace HO := Lib.hid (HO.out.below hb15); replace e4q := Lib.hid (fun o : Nat => (hb15.cell (p := ⟨w.heap.size, o, none⟩) hxq).trans (e4q.out o)); replace hxq : w.heap.size < w15.heap.size := Nat.lt_of_lt_of_le hxq hb15.size; replace hQ := Lib.hid (Below.trans hQ.out (hb15.mono hQ.out.size)); replace HBN := Lib.hid (Below.trans HBN.out (hb15.mono HBN.out.size)); clear hb15; (try clear e4x); have e4x := e4q.out)
                        | (go_at_call 51; (with_reducible refine (settled_calls (HVN.out.below hQ.out) HO.out HTR.out).use ?_); intro w18 hb18 hz18 hc18 hf18; clear hc18 hf18 hz18; replace HO := Lib.hid (HO.out.below hb18); replace e4q := Lib.hid (fun o : Nat => (hb18.cell (p := ⟨w.heap.size, o, none⟩) hxq).trans (e4q.out o)); replace hxq : w.heap.size < w18.heap.size := Nat.lt_of_lt_of_le hxq hb18.size; replace hQ := Lib.hid (Below.trans hQ.out (hb18.mono hQ.out.size)); replace HBN := Lib.hid (Below.trans HBN.out (hb18.mono HBN.out.size)); clear hb18))
                      go_roundw
                      case rel => exact ⟨j + 1, D, vv, by omega, by omega, rfl, rfl, by go_num, HBN.out, by unfold Hid; rw [HTK.out]; exact HO.out, by unfold Hid; rw [HTK.out]; exact HTR.out⟩
                      case measure => simp [intOf]; omega
                    | object h1 h2 h3 h4 h5 ht =>
                      rw [hD] at h3 h4
                      rw [hNO] at h5
                      have HH1 := Lib.hid h1
                      have HH2 := Lib.hid h2
                      have HI3 : Hid (inR c h d D = true) := h4
                      have HI4 : Hid (askedF c [h, D] [d] = 0) := h3
                      have HI5 := Lib.hid h5
                      have HTR := Lib.hid ht
                      clear h1 h2 h3 h4 h5 ht hE hD hNO
                      go_wp2_with (first
                        | (go_at_call 42; (with_reducible refine (HO.out.day HDY.out).use ?_); intro w12 hb12 hz12 hc12 hf12; clear hc12 hf12 hz12; replace HO := Lib.hid (HO.out.below hb12); replace e4q := Lib.hid (fun o : Nat => (hb12.cell (p := ⟨w.heap.size, o, none⟩) hxq).trans (e4q.out o)); replace hxq : w.heap.size < w12.heap.size := Nat.lt_of_lt_of_le hxq hb12.size; replace hQ := Lib.hid (Below.trans hQ.out (hb12.mono hQ.out.size)); replace HBN := Lib.hid (Below.trans HBN.out (hb12.mono HBN.out.size)); clear hb12; (try clear e4x); have e4x := e4q.out)
                        | (go_at_call 35; (with_reducible refine (HO.out.opn).use ?_); intro vO w13 hi hb13; obtain ⟨⟨aO, pO, eO, -⟩, -⟩ := hi; rw [HNO.out] at eO; subst eO; replace HO := Lib.hid (HO.out.below hb13); replace e4q := Lib.hid (fun o : Nat => (hb13.cell (p := ⟨w.heap.size, o, none⟩) hxq).trans (e4q.out o)); replace hxq : w.heap.size < w13.heap.size := Nat.lt_of_lt_of_le hxq hb13.size; replace hQ := Lib.hid (Below.trans hQ.out (hb13.mono hQ.out.size)); replace HBN := Lib.hid (Below.trans HBN.out (hb13.mono HBN.out.size)); clear hb13; (try clear e4x); have e4x := e4q.out)
                        | (go_at_call 21; (with_reducible refine (Do_step q HO.out h9n (HB.out.below hQ.out)).mono ?_); rintro e w14 ⟨rfl, ho14, hb14, -, -⟩; rw [HE.out]; replace HO := Lib.hid ho14; clear ho14; replace e4q := Lib.hid (fun o : Nat => (hb14.cell (p := ⟨w.heap.size, o, none⟩) hxn).trans (e4q.out o)); replace hxq : w.heap.size < w14.heap.size := Nat.lt_of_lt_of_le hxq hb14.size; replace hQ := Lib.hid (Below.trans hQ.out (hb14.mono (Nat.le_of_lt hxn))); replace HBN := Lib.hid (Below.trans HBN.out hb14); clear hb14; (try clear e4x); have e4x := e4q.out)
                        | (go_at_call 48; (with_reducible refine (prefix_is HH1.out).use ?_))
                        | (go_at_call 48; (with_reducible refine (prefix_is HH2.out).use ?_))
                        | (go_at_call 50; (with_reducible refine (InTime_calls _ c _ _ _ _ (HC.out.below hQ.out)).use ?_); rw [HI3.out, HI4.out]; intro w16 hb16 hz16 hc16 hf16; clear hc16 hf16 hz16; replace HO := Lib.hid (HO.out.below hb16); replace e4q := Lib.hid (fun o : Nat => (hb16.cell (p := ⟨w.heap.size, o, none⟩) hxq).trans (e4q.out o)); replace hxq : w.heap.size < w16.heap.size := Nat.lt_of_lt_of_le hxq hb16.size; replace hQ := Lib.hid (Below.trans hQ.out (hb16.mono hQ.out.size)); replace HBN := Lib.hid (Below.trans HBN.out (hb16.mono HBN.out.size)); clear hb16; (try clear e4x); have e4x := e4q.out)
                        | (go_at_call 35; (with_reducible refine (HO.out.opn).use ?_); intro vP w17 hi hb17; obtain ⟨⟨aP, pP, eP, -⟩, -⟩ := hi; rw [HI5.out] at eP; subst eP; replace HO := Lib.hid (HO.out.below hb17); replace e4q := Lib.hid (fun o : Nat => (hb17.cell (p := ⟨w.heap.size, o, none⟩) hxq).trans (e4q.out o)); replace hxq : w.heap.size < w17.heap.size := Nat.lt_of_lt_of_le hxq hb17.size; replace hQ := Lib.hid (Below.trans hQ.out (hb17.mono hQ.out.size)); replace HBN := Lib.hid (Below.trans HBN.out (hb17.mono HBN.out.size)); clear hb17; (try clear e4x); have e4x := e4q.out)
                        | (go_at_call 51; (with_reducible refine (settled_calls (HVN.out.below hQ.out) HO.out HTR.out).use ?_); intro w18 hb18 hz18 hc18 hf18; clear hc18 hf18 hz18; replace HO := Lib.hid (HO.out.below hb18); replace e4q := Lib.hid (fun o : Nat => (hb18.cell (p := ⟨w.heap.size, o, none⟩) hxq).trans (e4q.out o)); replace hxq : w.heap.size < w18.heap.size := Nat.lt_of_lt_of_le hxq hb18.size; replace hQ := Lib.hid (Below.trans hQ.out (hb18.mono hQ.out.size)); replace HBN := Lib.hid (Below.trans HBN.out (hb18.mono HBN.out.size)); clear hb18))
                      go_roundw
                      case rel => exact ⟨j + 1, h, d, by omega, by omega, rfl, rfl, by go_num, HBN.out, by unfold Hid; rw [HTK.out]; exact HO.out, by unfold Hid; rw [HTK.out]; exact HTR.out⟩
                      case measure => simp [intOf]; omega
                    | other h1 h2 ht =>
                      have HH1 := Lib.hid h1
                      have HH2 := Lib.hid h2
                      have HTR := Lib.hid ht
                      clear h1 h2 ht hE hD hNO
                      go_wp2_with (first
                        | (go_at_call 42; (with_reducible refine (HO.out.day HDY.out).use ?_); intro w12 hb12 hz12 hc12 hf12; clear hc12 hf12 hz12; replace HO := Lib.hid (HO.out.below hb12); replace e4q := Lib.hid (fun o : Nat => (hb12.cell (p := ⟨w.heap.size, o, none⟩) hxq).trans (e4q.out o)); replace hxq : w.heap.size < w12.heap.size := Nat.lt_of_lt_of_le hxq hb12.size; replace hQ := Lib.hid (Below.trans hQ.out (hb12.mono hQ.out.size)); replace HBN := Lib.hid (Below.trans HBN.out (hb12.mono HBN.out.size)); clear hb12; (try clear e4x); have e4x := e4q.out)
                        | (go_at_call 35; (with_reducible refine (HO.out.opn).use ?_); intro vO w13 hi hb13; obtain ⟨⟨aO, pO, eO, -⟩, -⟩ := hi; rw [HNO.out] at eO; subst eO; replace HO := Lib.hid (HO.out.below hb13); replace e4q := Lib.hid (fun o : Nat => (hb13.cell (p := ⟨w.heap.size, o, none⟩) hxq).trans (e4q.out o)); replace hxq : w.heap.size < w13.heap.size := Nat.lt_of_lt_of_le hxq hb13.size; replace hQ := Lib.hid (Below.trans hQ.out (hb13.mono hQ.out.size)); replace HBN := Lib.hid (Below.trans HBN.out (hb13.mono HBN.out.size)); clear hb13; (try clear e4x); have e4x := e4q.out)
                        | (go_at_call 21; (with_reducible refine (Do_step q HO.out h9n (HB.out.below hQ.out)).mono ?_); rintro e w14 ⟨rfl, ho14, hb14, -, -⟩; rw [HE.out]; replace HO := Lib.hid ho14; clear ho14; replace e4q := Lib.hid (fun o : Nat => (hb14.cell (p := ⟨w.heap.size, o, none⟩) hxn).trans (e4q.out o)); replace hxq : w.heap.size < w14.heap.size := Nat.lt_of_lt_of_le hxq hb14.size; replace hQ := Lib.hid (Below.trans hQ.out (hb14.mono (Nat.le_of_lt hxn))); replace HBN := Lib.hid (Below.trans HBN.out hb14); clear hb14; (try clear e4x); have e4x := e4q.out)
                        | (go_at_call 48; (with_reducible refine (prefix_is HH1.out).use ?_))
                        | (go_at_call 48; (with_reducible refine (prefix_is HH2.out).use ?_))
                        | (go_at_call 51; (with_reducible refine (settled_calls (HVN.out.below hQ.out) HO.out HTR.out).use ?_); intro w18 hb18 hz18 hc18 hf18; clear hc18 hf18 hz18; replace HO := Lib.hid (HO.out.below hb18); replace e4q := Lib.hid (fun o : Nat => (hb18.cell (p := ⟨w.heap.size, o, none⟩) hxq).trans (e4q.out o)); replace hxq : w.heap.size < w18.heap.size := Nat.lt_of_lt_of_le hxq hb18.size; replace hQ := Lib.hid (Below.trans hQ.out (hb18.mono hQ.out.size)); replace HBN := Lib.hid (Below.trans HBN.out (hb18.mono HBN.out.size)); clear hb18))
                      go_roundw
                      case rel => exact ⟨j + 1, h, d, by omega, by omega, rfl, rfl, by go_num, HBN.out, by unfold Hid; rw [HTK.out]; exact HO.out, by unfold Hid; rw [HTK.out]; exact HTR.out⟩
                      case measure => simp [intOf]; omega
                  · have kE : (E == 0) = false := by simpa using hE0
                    have HTR := Lib.hid (HTR.out.no (o := q) (by rw [hE]; exact hE0))
                    clear hE hD hNO
                    go_wp2_with (first
                      | (go_at_call 42; (with_reducible refine (HO.out.day HDY.out).use ?_); intro w12 hb12 hz12 hc12 hf12; clear hc12 hf12 hz12; replace HO := Lib.hid (HO.out.below hb12); replace e4q := Lib.hid (fun o : Nat => (hb12.cell (p := ⟨w.heap.size, o, none⟩) hxq).trans (e4q.out o)); replace hxq : w.heap.size < w12.heap.size := Nat.lt_of_lt_of_le hxq hb12.size; replace hQ := Lib.hid (Below.trans hQ.out (hb12.mono hQ.out.size)); replace HBN := Lib.hid (Below.trans HBN.out (hb12.mono HBN.out.size)); clear hb12; (try clear e4x); have e4x := e4q.out)
                      | (go_at_call 35; (with_reducible refine (HO.out.opn).use ?_); intro vO w13 hi hb13; obtain ⟨⟨aO, pO, eO, -⟩, -⟩ := hi; rw [HNO.out] at eO; subst eO; replace HO := Lib.hid (HO.out.below hb13); replace e4q := Lib.hid (fun o : Nat => (hb13.cell (p := ⟨w.heap.size, o, none⟩) hxq).trans (e4q.out o)); replace hxq : w.heap.size < w13.heap.size := Nat.lt_of_lt_of_le hxq hb13.size; replace hQ := Lib.hid (Below.trans hQ.out (hb13.mono hQ.out.size)); replace HBN := Lib.hid (Below.trans HBN.out (hb13.mono HBN.out.size)); clear hb13; (try clear e4x); have e4x := e4q.out)
                      | (go_at_call 21; (with_reducible refine (Do_step q HO.out h9n (HB.out.below hQ.out)).mono ?_); rintro e w14 ⟨rfl, ho14, hb14, -, -⟩; rw [HE.out]; replace HO := Lib.hid ho14; clear ho14; replace e4q := Lib.hid (fun o : Nat => (hb14.cell (p := ⟨w.heap.size, o, none⟩) hxn).trans (e4q.out o)); replace hxq : w.heap.size < w14.heap.size := Nat.lt_of_lt_of_le hxq hb14.size; replace hQ := Lib.hid (Below.trans hQ.out (hb14.mono (Nat.le_of_lt hxn))); replace HBN := Lib.hid (Below.trans HBN.out hb14); clear hb14; (try clear e4x); have e4x := e4q.out)
                      | (go_at_call 51; (with_reducible refine (settled_calls (HVN.out.below hQ.out) HO.out HTR.out).use ?_); intro w18 hb18 hz18 hc18 hf18; clear hc18 hf18 hz18; replace HO := Lib.hid (HO.out.below hb18); replace e4q := Lib.hid (fun o : Nat => (hb18.cell (p := ⟨w.heap.size, o, none⟩) hxq).trans (e4q.out o)); replace hxq : w.heap.size < w18.heap.size := Nat.lt_of_lt_of_le hxq hb18.size; replace hQ := Lib.hid (Below.trans hQ.out (hb18.mono hQ.out.size)); replace HBN := Lib.hid (Below.trans HBN.out (hb18.mono HBN.out.size)); clear hb18))
                    go_roundw
                    case rel => exact ⟨j + 1, h, d, by omega, by omega, rfl, rfl, by go_num, HBN.out, by unfold Hid; rw [HTK.out]; exact HO.out, by unfold Hid; rw [HTK.out]; exact HTR.out⟩
                    case measure => simp [intOf]; omega
                · have k5 : decide ((j : Int) < 40) = false := decide_eq_false (by omega)
                  go_wp2_with (go_at_call 43; (with_reducible refine (Audit_calls HO.out (HB.out.below hQ.out)).use ?_); intro w19 hb19 hz19 hc19 hf19; clear hc19 hf19 hz19; replace hQ := Lib.hid (Below.trans hQ.out (hb19.mono hQ.out.size)); clear hb19)
                  go_ret
                  exact ⟨rfl, hQ.out⟩
              · have k2 : decide ((j : Int) < (l.length : Int)) = false := decide_eq_false (by omega)
                go_wp2_with (go_at_call 43; (with_reducible refine (Audit_calls HO.out (HB.out.below hQ.out)).use ?_); intro w19 hb19 hz19 hc19 hf19; clear hc19 hf19 hz19; replace hQ := Lib.hid (Below.trans hQ.out (hb19.mono hQ.out.size)); clear hb19)
                go_ret
                exact ⟨rfl, hQ.out⟩
          · obtain ⟨r, hr⟩ : ∃ r, NewE k c = r := ⟨_, rfl⟩
            have HR := Lib.hid hr
            have hr0 : r ≠ 0 := by rw [← hr]; exact hz
            have kr : (r != 0) = true := by simpa using hr0
            clear hz hr
            go_wp2_with (first
              | (go_at_call 47; (with_reducible refine (Long8_calls (HC.out.below hQ.out) HL8.out).use ?_); intro w10 hb10 hz10 hc10 hf10; clear hc10 hf10 hz10; replace e4q := Lib.hid (fun o : Nat => (hb10.cell (p := ⟨w.heap.size, o, none⟩) hxq).trans (e4q.out o)); replace hxq : w.heap.size < w10.heap.size := Nat.lt_of_lt_of_le hxq hb10.size; replace hQ := Lib.hid (Below.trans hQ.out (hb10.mono hQ.out.size)); clear hb10; (try clear e4x); have e4x := e4q.out)
              | (go_at_call 19; (with_reducible refine (New_bad _ _ c _ (HC.out.below hQ.out) r HR.out hr0).use ?_); intro w11 hb11 hz11 hc11 hf11; clear hc11 hf11 hz11; replace e4q := Lib.hid (fun o : Nat => (hb11.cell (p := ⟨w.heap.size, o, none⟩) hxq).trans (e4q.out o)); replace hxq : w.heap.size < w11.heap.size := Nat.lt_of_lt_of_le hxq hb11.size; replace hQ := Lib.hid (Below.trans hQ.out (hb11.mono hQ.out.size)); clear hb11))
            go_ret
            exact ⟨rfl, hQ.out⟩
end Go.Proofs.YthooacpfmjpdmaaGreatDoor
