/- How a text reads as an order. Conditions: the library's variables read as they were laid. -/
import Derived.Test.YthooacpfmjpdmaaGreatDoorOEnv
import Derived.Deep.RegionHeld3
import Derived.Deep.RegionWith
namespace Go.Proofs.YthooacpfmjpdmaaGreatDoor
open Go.RowKit

def blank : ByteArray := ⟨#[32]⟩
def wordsF (s : ByteArray) : List ByteArray := Lib.splitB blank 0 (Lib.countB s blank) s
/-- A word that is a number of an order. -/
def numF (x : ByteArray) : Option Int := match atoiE x with | some v => if (0 ≤ v ∧ v ≤ 9999) ∧ (⟨(Lib.itoa v).toArray⟩ : ByteArray) = x then some v else none | none => none
def numsF : List ByteArray → Option (List Int)
  | [] => some []
  | x :: l => match numF x, numsF l with | some v, some r => some (v :: r) | _, _ => none
/-- The form and the numbers of an order; none if the text is no order. -/
def parseF (s : ByteArray) : Option (Frm × List Int) :=
  if 1 ≤ s.size ∧ s.size ≤ 30 then
    match formsF (gi (wordsF s) default 0).data.toList with
    | some f => if ((wordsF s).length : Int) = f.2.1 + 1 then (numsF (wordsF s).tail).map fun l => (f, l) else none
    | none => none
  else none
theorem numsF_none {l : List ByteArray} {k : Nat} (hk : k < l.length) (h : numF (gi l default k) = none) : numsF l = none := by
  induction l generalizing k with
  | nil => simp at hk
  | cons x l ih =>
    unfold numsF
    cases k with
    | zero => simp [gi] at h; rw [h]
    | succ k =>
      rw [ih (k := k) (by simpa using hk) (by simpa [gi] using h)]
      cases numF x <;> rfl
theorem numsF_some {l : List ByteArray} {r : List Int} (hl : r.length = l.length) (h : ∀ i, i < l.length → numF (gi l default i) = some (gi r 0 i)) : numsF l = some r := by
  induction l generalizing r with
  | nil => have := List.eq_nil_of_length_eq_zero hl; subst this; rfl
  | cons x l ih =>
    cases r with
    | nil => simp at hl
    | cons v r =>
      have h0 := h 0 (by simp)
      simp [gi] at h0
      unfold numsF
      rw [h0, ih (r := r) (by simpa using hl) (fun i hi => by have := h (i + 1) (by simpa using hi); simpa [gi] using this)]
/-- A row of texts in memory. -/
def TextsAt (w : World) (v : Value) (l : List ByteArray) : Prop :=
  ∃ (a : Option Addr) (cap : Nat), v = .slice a l.length cap ∧ l.length ≤ cap ∧ cap ≤ 9223372036854775807 ∧
    ∀ i, i < l.length → ∃ b o, a = some ⟨b, o, none⟩ ∧ b < w.heap.size ∧ w.cell? ⟨b, o + i, none⟩ = some (.string (gi l default i))
theorem TextsAt.below {w w' : World} {v : Value} {l : List ByteArray} (h : TextsAt w v l) (hb : Below w.heap.size w w') : TextsAt w' v l := by
  obtain ⟨a, cap, hv, h1, h2, h3⟩ := h
  refine ⟨a, cap, hv, h1, h2, fun i hi => ?_⟩
  obtain ⟨b, o, e, hlt, hc⟩ := h3 i hi
  exact ⟨b, o, e, Nat.lt_of_lt_of_le hlt hb.size, (hb.cell (p := ⟨b, o + i, none⟩) hlt).trans hc⟩
theorem TextsAt.cellAt {w : World} {a : Option Addr} {n cap : Nat} {l : List ByteArray} (h : TextsAt w (.slice a n cap) l) {m : Nat} (hm : m < l.length) :
    ∃ b o, a = some ⟨b, o, none⟩ ∧ b < w.heap.size ∧ w.cell? ⟨b, o + m, none⟩ = some (.string (gi l default m)) := by
  obtain ⟨a', cap', e, _, _, h3⟩ := h
  simp only [Value.slice.injEq] at e
  obtain ⟨rfl, _, rfl⟩ := e
  exact h3 m hm
theorem words_pos (s : ByteArray) : (wordsF s).length = Lib.countB s blank + 1 := by
  exact Lib.splitB_all blank (by decide) 0 _ s rfl
theorem splitB_size (sep : ByteArray) : ∀ (k : Nat) (s : ByteArray), ∀ x ∈ Lib.splitB sep 0 k s, x.size ≤ s.size
  | 0, s, x, hx => by rw [Lib.splitB_zero] at hx; rw [List.mem_singleton.1 hx]; exact Nat.le_refl _
  | k + 1, s, x, hx => by
    unfold Lib.splitB at hx
    split at hx
    · rw [List.mem_singleton.1 hx]; exact Nat.le_refl _
    · rcases List.mem_cons.1 hx with rfl | hx
      · rw [ByteArray.size_extract]; omega
      · have := splitB_size sep k _ x hx
        rw [ByteArray.size_extract] at this
        omega
theorem word_size (s : ByteArray) {i : Nat} (hi : i < (wordsF s).length) : (gi (wordsF s) default i).size ≤ s.size := by
  rw [gi_lt hi]
  exact splitB_size blank _ s _ (List.getElem_mem _)
set_option maxRecDepth 100000 in
set_option maxHeartbeats 4000000 in
theorem parse_long (s : ByteArray) (w : World) (h : ¬ (1 ≤ s.size ∧ s.size ≤ 30)) :
    Gives Tryz.prog 61 #[.string s] w (.tuple #[.agg #[.int .i64 0, .int .i64 0, .int .i64 0], .slice none 0 0, refV 2]) := by
  unfold Gives refV
  by_cases h0 : (s.size : Int) < 1
  · clear h
    go_enter Tryz.func61, Tryz.ntmps61
    go_wp2
    refine bodyPost_ret (v := .tuple #[.agg #[.int .i64 0, .int .i64 0, .int .i64 0], .slice none 0 0, .iface 127 (.agg #[.int .i64 2])]) (by simp [results, Tryz.f61, go_sem]) rfl ?_
    exact ⟨rfl, by (repeat' (first | exact Below.refl _ _ | assumption | refine below_new ?_ _ | refine below_draw ?_ | refine below_tail (by assumption) ?_ | refine below_set ?_ (by first | omega | (simp <;> omega)) _))⟩
  · have h1 : 30 < (s.size : Int) := by omega
    clear h
    go_enter Tryz.func61, Tryz.ntmps61
    go_wp2
    refine bodyPost_ret (v := .tuple #[.agg #[.int .i64 0, .int .i64 0, .int .i64 0], .slice none 0 0, .iface 127 (.agg #[.int .i64 2])]) (by simp [results, Tryz.f61, go_sem]) rfl ?_
    exact ⟨rfl, by (repeat' (first | exact Below.refl _ _ | assumption | refine below_new ?_ _ | refine below_draw ?_ | refine below_tail (by assumption) ?_ | refine below_set ?_ (by first | omega | (simp <;> omega)) _))⟩
theorem parseF_none {s : ByteArray} (hf : formsF (gi (wordsF s) default 0).data.toList = none) : parseF s = none := by
  unfold parseF
  rw [hf]
  simp
theorem parseF_some {s : ByteArray} {f : Frm} (h1 : 1 ≤ s.size) (h2 : s.size ≤ 30) (hf : formsF (gi (wordsF s) default 0).data.toList = some f) : parseF s = if ((wordsF s).length : Int) = f.2.1 + 1 then (numsF (wordsF s).tail).map fun l => (f, l) else none := by
  unfold parseF
  rw [if_pos ⟨h1, h2⟩, hf]
theorem formsF_small {f : Frm} (h : ∃ x, formsF x = some f) : 0 ≤ f.1 ∧ f.1 ≤ 8 ∧ 0 ≤ f.2.1 ∧ f.2.1 ≤ 3 ∧ 0 ≤ f.2.2 ∧ f.2.2 ≤ f.2.1 := by
  obtain ⟨x, hx⟩ := h
  unfold formsF at hx
  repeat' (split at hx)
  all_goals first | (injection hx with hx; subst hx; decide) | cases hx
theorem list_inj {a b : ByteArray} (h : a.toList = b.toList) : a = b := by
  rw [ByteArray.toList_eq, ByteArray.toList_eq] at h
  exact ByteArray.ext (Array.toList_inj.1 h)
/-- What parse returns. -/
def ParseR (o : Option (Frm × List Int)) (w : World) (e : Ending) (w' : World) : Prop :=
  (∀ t l, o = some (t, l) → ∃ v, e = .returned (.tuple #[frmV t, v, .nilIface]) ∧ IntsT w.heap.size w' v l) ∧
  (o = none → e = .returned (.tuple #[.agg #[.int .i64 0, .int .i64 0, .int .i64 0], .slice none 0 0, refV 2]))
theorem parseR_none {o : Option (Frm × List Int)} {w w' : World} {e : Ending} (h : o = none) (he : e = .returned (.tuple #[.agg #[.int .i64 0, .int .i64 0, .int .i64 0], .slice none 0 0, refV 2])) : ParseR o w e w' :=
  ⟨fun t l h2 => (by rw [h] at h2; cases h2), fun _ => he⟩
theorem parseR_some {o : Option (Frm × List Int)} {w w' : World} {e : Ending} {t : Frm} {l : List Int} {v : Value} (h : o = some (t, l)) (he : e = .returned (.tuple #[frmV t, v, .nilIface])) (hv : IntsT w.heap.size w' v l) : ParseR o w e w' :=
  ⟨fun t' l' h2 => (by rw [h] at h2; cases h2; exact ⟨v, he, hv⟩), fun h2 => (by rw [h] at h2; cases h2)⟩
/-- The box of the form that was looked up. -/
def FormBox (W0 : World) (t : Frm) (b : Bool) (s6 s7 : Value) (wx : World) : Prop :=
  s7 = .bool b ∧ Below W0.heap.size W0 wx ∧ ∃ g : Nat, s6 = .pointer (some ⟨g, 0, none⟩) ∧ W0.heap.size ≤ g ∧ wx.cell? ⟨g, 0, none⟩ = some (.int .i64 t.1) ∧ wx.cell? ⟨g, 1, none⟩ = some (.int .i64 t.2.1) ∧ wx.cell? ⟨g, 2, none⟩ = some (.int .i64 t.2.2)
theorem box_sets {W0 w1 : World} {t : Frm} {b : Bool} {g : Nat} (hb : Below W0.heap.size W0 w1) (hg : W0.heap.size ≤ g) (c0 : (w1.cell? ⟨g, 0, none⟩).isSome) (c1 : (w1.cell? ⟨g, 1, none⟩).isSome) (c2 : (w1.cell? ⟨g, 2, none⟩).isSome) :
    FormBox W0 t b (.pointer (some ⟨g, 0, none⟩)) (.bool b) (((w1.setCell ⟨g, 0, none⟩ (.int .i64 t.1)).setCell ⟨g, 1, none⟩ (.int .i64 t.2.1)).setCell ⟨g, 2, none⟩ (.int .i64 t.2.2)) := by
  refine ⟨rfl, below_set (below_set (below_set hb hg _) hg _) hg _, g, rfl, hg, ?_, ?_, ?_⟩
  · rw [World.cell?_setCell_other _ _ _ _ (by simp), World.cell?_setCell_other _ _ _ _ (by simp)]
    exact World.cell?_setCell_same' _ _ _ c0
  · rw [World.cell?_setCell_other _ _ _ _ (by simp)]
    exact World.cell?_setCell_same' _ _ _ (by rw [World.cell?_setCell_other _ _ _ _ (by simp)]; exact c1)
  · exact World.cell?_setCell_same' _ _ _ (by rw [World.cell?_setCell_other _ _ _ _ (by simp), World.cell?_setCell_other _ _ _ _ (by simp)]; exact c2)
theorem box_news {W0 w1 : World} {t : Frm} {b : Bool} (hb : Below W0.heap.size W0 w1) :
    FormBox W0 t b (.pointer (some ⟨w1.heap.size, 0, none⟩)) (.bool b) (w1.alloc (.cells #[.int .i64 t.1, .int .i64 t.2.1, .int .i64 t.2.2] 104)) := by
  refine ⟨rfl, by (repeat' (first | exact Below.refl _ _ | assumption | refine below_new ?_ _ | refine below_draw ?_ | refine below_tail (by assumption) ?_ | refine below_set ?_ (by first | omega | (simp <;> omega)) _)), w1.heap.size, rfl, hb.size, ?_, ?_, ?_⟩ <;> simp
set_option maxRecDepth 100000 in
set_option maxHeartbeats 8000000 in
theorem parse_main (s : ByteArray) (w : World) (he : Env w) (h1 : 1 ≤ s.size) (h2 : s.size ≤ 30) :
    Calls Tryz.prog 61 #[.string s] w fun e w' => Below w.heap.size w w' ∧ ParseR (parseF s) w e w' := by
  have HE := Lib.hid he
  have k1 : ¬ (s.size : Int) < 1 := by omega
  have k2 : ¬ 30 < (s.size : Int) := by omega
  have k1' : decide ((s.size : Int) < 1) = false := decide_eq_false k1
  have k2' : decide (30 < (s.size : Int)) = false := decide_eq_false k2
  obtain ⟨o, ho⟩ : ∃ o, formsF (gi (wordsF s) default 0).data.toList = o := ⟨_, rfl⟩
  have HF := Lib.hid ho
  clear ho
  go_enter Tryz.func61, Tryz.ntmps61
  go_upto_region 4 with (go_at_call 92; refine (split_calls s blank _ (by omega) (by decide) (HE.out.below (by (repeat' (first | exact Below.refl _ _ | assumption | refine below_new ?_ _ | refine below_draw ?_ | refine below_tail (by assumption) ?_ | refine below_set ?_ (by first | omega | (simp <;> omega)) _))))).mono ?_; rintro e w1 ⟨rfl, rfl⟩)
  obtain ⟨W0, hW0⟩ : ∃ W0, (w.alloc (.cells #[.int .i64 0, .int .i64 0, .int .i64 0] 104)).alloc (.cells ((Lib.splitB blank 0 (Lib.countB s blank) s).map Value.string).toArray 9) = W0 := ⟨_, rfl⟩
  have HBW : Hid (Below w.heap.size w W0) := by show Below _ _ _; rw [← hW0]; (repeat' (first | exact Below.refl _ _ | assumption | refine below_new ?_ _ | refine below_draw ?_ | refine below_tail (by assumption) ?_ | refine below_set ?_ (by first | omega | (simp <;> omega)) _))
  have HT : Hid (TextsAt W0 (.slice (some ⟨w.heap.size + 1, 0, none⟩) (Lib.countB s blank + 1) (Lib.countB s blank + 1)) (wordsF s)) := by
    show TextsAt _ _ _
    have hl := words_pos s
    have hle := Lib.countB_le blank (by decide) _ s (Nat.le_refl _)
    refine ⟨_, Lib.countB s blank + 1, by rw [hl], by omega, by omega, fun i hi => ⟨w.heap.size + 1, 0, rfl, by rw [← hW0]; simp, ?_⟩⟩
    have hb : W0.heap[w.heap.size + 1]? = some (.cells ((wordsF s).map Value.string).toArray 9 (0, 0)) := by rw [← hW0]; exact alloc_new _ _ (by simp)
    rw [cell_of_block hb, gi_lt hi]
    simp [hi]
  have hc0 : W0.cell? ⟨w.heap.size + 1, 0, none⟩ = some (.string (gi (wordsF s) default 0)) := by
    obtain ⟨b, o, e, _, hc⟩ := HT.out.cellAt (m := 0) (by rw [words_pos]; omega)
    cases e
    exact hc
  have hsz : w.heap.size + 1 < W0.heap.size := by rw [← hW0]; simp
  have HR : Hid (W0.cell? ⟨w.heap.size, 0, none⟩ = some (.int .i64 0) ∧ W0.cell? ⟨w.heap.size, 1, none⟩ = some (.int .i64 0) ∧ W0.cell? ⟨w.heap.size, 2, none⟩ = some (.int .i64 0) ∧ ∀ i, W0.frozen? ⟨w.heap.size, i, none⟩ = false) := by
    show _ ∧ _
    rw [← hW0]
    refine ⟨?_, ?_, ?_, fun i => ?_⟩ <;> simp
  rw [hW0]
  clear hW0
  have hsm : (gi (wordsF s) default 0).size ≤ 1000000 := by
    have := word_size s (i := 0) (by rw [words_pos]; omega)
    omega
  obtain ⟨t, ht⟩ : ∃ t, o.getD (0, 0, 0) = t := ⟨_, rfl⟩
  obtain ⟨b, hbb⟩ : ∃ b, o.isSome = b := ⟨_, rfl⟩
  have HGT := Lib.hid ht
  have HOB := Lib.hid hbb
  clear ht hbb
  go_cut [6, 7] (fun s6 s7 wx => FormBox W0 t b s6 s7 wx)
  case first =>
    go_region_with
      (go_at_call 93; refine (forms_some _).mono ?_; rintro e w1 ⟨mb, rfl, hm1, hb1⟩; have hbW : Below W0.heap.size W0 w1 := (by (repeat' (first | exact Below.refl _ _ | assumption | refine below_new ?_ _ | refine below_draw ?_ | refine below_tail (by assumption) ?_ | refine below_set ?_ (by first | omega | (simp <;> omega)) _))); have qw : w1.cell? ⟨w.heap.size + 1, 0, none⟩ = some (.string (gi (wordsF s) default 0)) := (hbW.cell (p := ⟨w.heap.size + 1, 0, none⟩) hsz).trans hc0; have hsz1 : w.heap.size + 1 < w1.heap.size := Nat.lt_of_lt_of_le hsz hbW.size; (try (have qa0 := (hb1.cell (p := ⟨W0.heap.size, 0, none⟩) (by first | (simp; done) | (simp; omega))).trans (show _ = some (.int .i64 0) by first | (simp; done) | (simp; rfl)); have qf0 := (hb1.frozen (p := ⟨W0.heap.size, 0, none⟩) (by first | (simp; done) | (simp; omega))).trans (show _ = false by first | (simp; done) | (simp; rfl)); have qa1 := (hb1.cell (p := ⟨W0.heap.size, 1, none⟩) (by first | (simp; done) | (simp; omega))).trans (show _ = some (.int .i64 0) by first | (simp; done) | (simp; rfl)); have qf1 := (hb1.frozen (p := ⟨W0.heap.size, 1, none⟩) (by first | (simp; done) | (simp; omega))).trans (show _ = false by first | (simp; done) | (simp; rfl)); have qa2 := (hb1.cell (p := ⟨W0.heap.size, 2, none⟩) (by first | (simp; done) | (simp; omega))).trans (show _ = some (.int .i64 0) by first | (simp; done) | (simp; rfl)); have qf2 := (hb1.frozen (p := ⟨W0.heap.size, 2, none⟩) (by first | (simp; done) | (simp; omega))).trans (show _ = false by first | (simp; done) | (simp; rfl)); have qz1 : W0.heap.size < w1.heap.size := Nat.lt_of_lt_of_le (by simp) hb1.size)); have hl1 := hm1.get (gi (wordsF s) default 0) hsm; rw [HF.out, HGT.out, HOB.out] at hl1; unfold frmV at hl1; have hl2 := (hm1.below (below_new (Below.refl _ w1) (.cells #[.int .i64 0, .int .i64 0, .int .i64 0] 104))).get (gi (wordsF s) default 0) hsm; rw [HF.out, HGT.out, HOB.out] at hl2; unfold frmV at hl2; clear hm1)
    all_goals go_wp2_with fail
    all_goals go_meet
    all_goals (first | exact box_news (by assumption) | exact box_sets (by assumption) (by omega) (by simp [*]) (by simp [*]) (by simp [*]))
  case rest =>
    obtain ⟨rfl, hbx, g, rfl, hgW, q0, q1, q2⟩ := hcut
    have HRr : Hid (∀ wr, Below wc.heap.size wc wr → (wr.cell? ⟨w.heap.size, 0, none⟩ = some (.int .i64 0) ∧ wr.cell? ⟨w.heap.size, 1, none⟩ = some (.int .i64 0) ∧ wr.cell? ⟨w.heap.size, 2, none⟩ = some (.int .i64 0)) ∧ ∀ i, wr.frozen? ⟨w.heap.size, i, none⟩ = false) := by
      intro wr hb
      have hb2 : Below W0.heap.size W0 wr := hbx.trans (hb.mono hbx.size)
      have hl : w.heap.size < W0.heap.size := by omega
      exact ⟨⟨(hb2.cell (p := ⟨w.heap.size, 0, none⟩) hl).trans HR.out.1, (hb2.cell (p := ⟨w.heap.size, 1, none⟩) hl).trans HR.out.2.1, (hb2.cell (p := ⟨w.heap.size, 2, none⟩) hl).trans HR.out.2.2.1⟩, fun i => (hb2.frozen (p := ⟨w.heap.size, i, none⟩) hl).trans (HR.out.2.2.2 i)⟩
    have HBC : Hid (Below w.heap.size w wc) := HBW.out.trans (hbx.mono HBW.out.size)
    have hlw : w.heap.size + 1 < wc.heap.size := Nat.lt_of_lt_of_le hsz hbx.size
    have HTc : Hid (TextsAt wc (.slice (some ⟨w.heap.size + 1, 0, none⟩) (Lib.countB s blank + 1) (Lib.countB s blank + 1)) (wordsF s)) := HT.out.below hbx
    obtain ⟨⟨r0, r1, r2⟩, rf⟩ := HRr.out wc (Below.refl _ _)
    have HWL : Hid ((wordsF s).length = Lib.countB s blank + 1) := words_pos s
    have hn30 : Lib.countB s blank ≤ 30 := Nat.le_trans (Lib.countB_le blank (by decide) _ s (Nat.le_refl _)) h2
    have HPS : Hid (∀ f, o = some f → parseF s = if ((wordsF s).length : Int) = f.2.1 + 1 then (numsF (wordsF s).tail).map fun l => (f, l) else none) := fun f e => parseF_some h1 h2 (HF.out.trans e)
    obtain ⟨n, hn⟩ : ∃ n, Lib.countB s blank = n := ⟨_, rfl⟩
    rw [hn] at HTc HWL hn30
    rw [hn]
    have HF2 : Hid (∀ f, o = some f → ∃ x, formsF x = some f) := fun f e => ⟨_, HF.out.trans e⟩
    have HPN : Hid (o = none → parseF s = none) := fun e => parseF_none (HF.out.trans e)
    clear HT hc0 HF hsm hbx hn HR
    cases o with
    | none =>
      have hb0 := HOB.out
      simp only [Option.isSome_none] at hb0
      subst hb0
      have HP : Hid (parseF s = none) := HPN.out rfl
      go_wp2
      refine bodyPost_ret (v := .tuple #[.agg #[.int .i64 0, .int .i64 0, .int .i64 0], .slice none 0 0, .iface 127 (.agg #[.int .i64 2])]) (by simp [results, Tryz.f61, go_sem, r0, r1, r2]) rfl ?_
      exact ⟨below_set (below_set (below_set HBC.out (Nat.le_refl _) _) (Nat.le_refl _) _) (Nat.le_refl _) _, parseR_none HP.out rfl⟩
    | some f =>
      have hb0 := HOB.out
      simp only [Option.isSome_some] at hb0
      subst hb0
      have hf0 := HGT.out
      simp only [Option.getD_some] at hf0
      subst hf0
      have HPF := Lib.hid (HPS.out f rfl)
      clear HPN HPS HOB HGT
      by_cases hne : ((wordsF s).length : Int) = f.2.1 + 1
      · obtain ⟨f1, f2, f3⟩ := f
        have hne' : (n : Int) = f2 := by rw [HWL.out] at hne; simp at hne; omega
        have hf3 := formsF_small (HF2.out _ rfl)
        have HPR : Hid (parseF s = (numsF (wordsF s).tail).map fun l => ((f1, f2, f3), l)) := by show _ = _; rw [HPF.out, if_pos hne]
        subst hne'
        have hw1 : IntKind.i64.wrap ((n : Int) + 1) = (n : Int) + 1 := IntWalk.i64_in _ (by omega)
        have HTL : Hid ((wordsF s).tail.length = n) := by show _ = _; rw [List.length_tail, HWL.out]; rfl
        have HTG : Hid (∀ i, i < n → gi (wordsF s).tail default i = gi (wordsF s) default (i + 1)) := fun i hi => by simp [gi]
        obtain ⟨i0, hi0, hz0, hi1, hi2⟩ := info_parts infoInt
        clear hne HPF HF2
        have Hq : Hid (∀ wr, Below wc.heap.size wc wr → wr.cell? ⟨g, 0, none⟩ = some (.int .i64 f1) ∧ wr.cell? ⟨g, 1, none⟩ = some (.int .i64 (n : Int)) ∧ wr.cell? ⟨g, 2, none⟩ = some (.int .i64 f3)) := by
          intro wr hb
          have hl := block_lt_of_cell q0
          exact ⟨(hb.cell (p := ⟨g, 0, none⟩) hl).trans q0, (hb.cell (p := ⟨g, 1, none⟩) hl).trans q1, (hb.cell (p := ⟨g, 2, none⟩) hl).trans q2⟩
        by_cases hn0 : n = 0
        · subst hn0
          have HPS : Hid (parseF s = some ((f1, ((0 : Nat) : Int), f3), [])) := by
            show _ = _
            rw [HPR.out, List.eq_nil_of_length_eq_zero HTL.out]; rfl
          go_wp2
          go_loopw [8, 50] (fun v i wr => v = .slice none 0 0 ∧ i = .int .i64 0 ∧ wr = wc) (fun _ _ _ => 0)
          case atStart => exact ⟨rfl, rfl, rfl⟩
          case round =>
            obtain ⟨rfl, rfl, rfl⟩ := hrel
            go_wp2
            refine bodyPost_ret (v := .tuple #[frmV (f1, ((0 : Nat) : Int), f3), .slice none 0 0, .nilIface]) (by simp [results, Tryz.f61, go_sem, r0, r1, r2, frmV]) rfl ?_
            exact ⟨below_set (below_set (below_set HBC.out (Nat.le_refl _) _) (Nat.le_refl _) _) (Nat.le_refl _) _, parseR_some HPS.out rfl ⟨ints0 _ _ _ (by decide), fun b hb => by cases hb⟩⟩
        · have hn1 : ¬ ((n : Int) + 1 = 1) := by omega
          have hnn : (0 : Int) ≤ (n : Int) := by omega
          have hn2 : (1 : Int) ≤ (n : Int) + 1 := by omega
          go_wp2
          go_loopw [8, 50] (fun v i wr => ∃ k : Nat, k ≤ n ∧ i = .int .i64 k ∧ Hid (Below wc.heap.size wc wr) ∧ ∃ l : List Int, l.length = k ∧ Hid (∀ j, j < k → numF (gi (wordsF s) default (j + 1)) = some (gi l 0 j)) ∧ Hid (wr.ownsRow wc.heap.size 3 1 v k (cells1 l))) (fun _ i _ => n - (intOf i).toNat)
          case atStart => exact ⟨0, Nat.zero_le _, rfl, Below.refl _ _, [], rfl, fun j hj => absurd hj (Nat.not_lt_zero _), World.ownsRow_nil _ _ _ _⟩
          case round =>
            obtain ⟨k, hk, rfl, hbc, l, hl, hnum, how⟩ := hrel
            by_cases hlt : k < n
            · have hkw : k + 1 < (wordsF s).length := by rw [HWL.out]; omega
              obtain ⟨cb, co, ce, -, hcell⟩ := (HTc.out.below hbc.out).cellAt hkw
              cases ce
              rw [Nat.zero_add] at hcell
              have hcell1 : wr.cell? ⟨w.heap.size + 1, 1 + k, none⟩ = some (.string (gi (wordsF s) default (k + 1))) := by rw [Nat.add_comm 1 k]; exact hcell
              have hxs : (gi (wordsF s) default (k + 1)).size ≤ 1000000 := by have := word_size s hkw; omega
              have HNK : Hid (numF (gi (wordsF s) default (k + 1)) = none → parseF s = none) := fun e => by rw [HPR.out, numsF_none (k := k) (by rw [HTL.out]; exact hlt) (by rw [HTG.out k hlt]; exact e)]; rfl
              obtain ⟨x, hx⟩ : ∃ x, gi (wordsF s) default (k + 1) = x := ⟨_, rfl⟩
              have HX := Lib.hid hx
              rw [hx] at hcell hcell1 hxs HNK
              clear hx hcell
              have hw6 : IntKind.i64.wrap ((k : Int) + 1) = (k : Int) + 1 := IntWalk.i64_in _ (by omega)
              cases hv : atoiE x with
              | none =>
                have HV := Lib.hid hv
                have HPN : Hid (parseF s = none) := HNK.out (by unfold numF; rw [hv])
                clear hv
                go_wp2_with (go_at_call 49; refine (atoi_bad hxs HV.out (HE.out.below (HBC.out.trans (hbc.out.mono HBC.out.size)))).mono ?_; rintro e w5 ⟨N, rfl, hb5⟩; have HB5 : Below wc.heap.size wc w5 := hbc.out.trans (hb5.mono hbc.out.size); obtain ⟨⟨e0, e1, e2⟩, ef⟩ := HRr.out w5 HB5)
                refine bodyPost_ret (v := .tuple #[.agg #[.int .i64 0, .int .i64 0, .int .i64 0], .slice none 0 0, .iface 127 (.agg #[.int .i64 2])]) (by simp [results, Tryz.f61, go_sem, e0, e1, e2]) rfl ?_
                exact ⟨below_set (below_set (below_set (HBC.out.trans (HB5.mono HBC.out.size)) (Nat.le_refl _) _) (Nat.le_refl _) _) (Nat.le_refl _) _, parseR_none HPN.out rfl⟩
              | some v =>
                have HV := Lib.hid hv
                obtain ⟨z, hz⟩ : ∃ z, (⟨(Lib.itoa v).toArray⟩ : ByteArray) = z := ⟨_, rfl⟩
                have HZ := Lib.hid hz
                by_cases hv0 : v < 0
                · have HPN : Hid (parseF s = none) := HNK.out (by unfold numF; rw [hv]; exact if_neg (by omega))
                  clear hv hz
                  go_wp2_with (go_at_call 49; refine (atoi_ok hxs HV.out).use ?_; intro w5 hb5 hz5 hc5 hf5; clear hc5 hf5; have HB5 : Below wc.heap.size wc w5 := hbc.out.trans (hb5.mono hbc.out.size); obtain ⟨⟨e0, e1, e2⟩, ef⟩ := HRr.out w5 HB5)
                  refine bodyPost_ret (v := .tuple #[.agg #[.int .i64 0, .int .i64 0, .int .i64 0], .slice none 0 0, .iface 127 (.agg #[.int .i64 2])]) (by simp [results, Tryz.f61, go_sem, e0, e1, e2]) rfl ?_
                  exact ⟨below_set (below_set (below_set (HBC.out.trans (HB5.mono HBC.out.size)) (Nat.le_refl _) _) (Nat.le_refl _) _) (Nat.le_refl _) _, parseR_none HPN.out rfl⟩
                · by_cases hv9 : 9999 < v
                  · have HPN : Hid (parseF s = none) := HNK.out (by unfold numF; rw [hv]; exact if_neg (by omega))
                    clear hv hz
                    go_wp2_with (go_at_call 49; refine (atoi_ok hxs HV.out).use ?_; intro w5 hb5 hz5 hc5 hf5; clear hc5 hf5; have HB5 : Below wc.heap.size wc w5 := hbc.out.trans (hb5.mono hbc.out.size); obtain ⟨⟨e0, e1, e2⟩, ef⟩ := HRr.out w5 HB5)
                    refine bodyPost_ret (v := .tuple #[.agg #[.int .i64 0, .int .i64 0, .int .i64 0], .slice none 0 0, .iface 127 (.agg #[.int .i64 2])]) (by simp [results, Tryz.f61, go_sem, e0, e1, e2]) rfl ?_
                    exact ⟨below_set (below_set (below_set (HBC.out.trans (HB5.mono HBC.out.size)) (Nat.le_refl _) _) (Nat.le_refl _) _) (Nat.le_refl _) _, parseR_none HPN.out rfl⟩
                  · have hq0 : decide (v < 0) = false := decide_eq_false hv0
                    have hq9 : decide (9999 < v) = false := decide_eq_false hv9
                    have HV0 := Lib.hid hv0
                    have HV9 := Lib.hid hv9
                    clear hv0 hv9
                    by_cases hzx : z = x
                    · have HNS : Hid (numF x = some v) := by show _ = _; unfold numF; rw [hv]; exact if_pos ⟨by have := HV0.out; have := HV9.out; omega, by rw [hz]; exact hzx⟩
                      subst hzx
                      clear hv hz
                      go_wp2_with (first | (go_at_call 49; refine (atoi_ok hxs HV.out).use ?_; intro w5 hb5 hz5 hc5 hf5; clear hc5 hf5) | (go_at_call 54; refine (itoa_is (by have := HV0.out; omega) (by have := HV9.out; omega) (HE.out.below (HBC.out.trans ((hbc.out.trans (hb5.mono hbc.out.size)).mono HBC.out.size))) HZ.out).use ?_; intro w6 hb6 hz6 hc6 hf6; clear hc6 hf6; have HB6 : Below wc.heap.size wc w6 := (hbc.out.trans (hb5.mono hbc.out.size)).trans (hb6.mono (Nat.le_trans hbc.out.size hb5.size)); obtain ⟨⟨e0, e1, e2⟩, ef⟩ := HRr.out w6 HB6) | (at_builtin; refine wpList_append_own _ rfl _ _ 22 rfl wc.heap.size 3 i0 (.int .i64 0) 1 8 Tryz.underlying22 hi0 hz0 hi1 hi2 rfl (by decide) _ _ _ rfl ((own_below (own_below how.out hb5) hb6).alloc _) ⟨w6.heap.size, 0, none⟩ 1 1 [.int .i64 v] rfl rfl (app_src1 _ _ _) (one_int _) (by unfold maxLen; omega) (by omega) (by have := HB6.size; simp; omega) ?_; intro v' w4 hown4 hgrow _))
                      go_roundw
                      case rel =>
                        refine ⟨k + 1, by omega, by go_num, below_app HB6 (Nat.le_refl _) hgrow (fun j hj => (how.out.lt j hj).1), l ++ [v], by simp [hl], fun j hj => ?_, by unfold Hid; rw [cells1_append]; exact hown4⟩
                        by_cases hjk : j = k
                        · subst hjk
                          rw [HX.out, HNS.out, show j = l.length from hl.symm, gi_append_eq]
                        · rw [hnum.out j (by omega), gi_append_lt (by omega)]
                      case measure => simp [intOf]; omega
                    · have HPN : Hid (parseF s = none) := HNK.out (by unfold numF; rw [hv]; exact if_neg (fun h => hzx (by rw [← hz]; exact h.2)))
                      have hzx1 : (z.toList == x.toList) = false := beq_eq_false_iff_ne.2 (fun e => hzx (list_inj e))
                      clear hv hz
                      go_wp2_with (first | (go_at_call 49; refine (atoi_ok hxs HV.out).use ?_; intro w5 hb5 hz5 hc5 hf5; clear hc5 hf5) | (go_at_call 54; refine (itoa_is (by have := HV0.out; omega) (by have := HV9.out; omega) (HE.out.below (HBC.out.trans ((hbc.out.trans (hb5.mono hbc.out.size)).mono HBC.out.size))) HZ.out).use ?_; intro w6 hb6 hz6 hc6 hf6; clear hc6 hf6; have HB6 : Below wc.heap.size wc w6 := (hbc.out.trans (hb5.mono hbc.out.size)).trans (hb6.mono (Nat.le_trans hbc.out.size hb5.size)); obtain ⟨⟨e0, e1, e2⟩, ef⟩ := HRr.out w6 HB6))
                      refine bodyPost_ret (v := .tuple #[.agg #[.int .i64 0, .int .i64 0, .int .i64 0], .slice none 0 0, .iface 127 (.agg #[.int .i64 2])]) (by simp [results, Tryz.f61, go_sem, e0, e1, e2]) rfl ?_
                      exact ⟨below_set (below_set (below_set (HBC.out.trans (HB6.mono HBC.out.size)) (Nat.le_refl _) _) (Nat.le_refl _) _) (Nat.le_refl _) _, parseR_none HPN.out rfl⟩
            · obtain rfl : k = n := by omega
              obtain ⟨va, vc, rfl⟩ := own_slice how.out
              have HPS : Hid (parseF s = some ((f1, (k : Int), f3), l)) := by
                show _ = _
                rw [HPR.out, numsF_some (r := l) (by rw [HTL.out]; exact hl) (fun j hj => by rw [HTL.out] at hj; rw [HTG.out j hj]; exact hnum.out j hj)]; rfl
              obtain ⟨⟨e0, e1, e2⟩, ef⟩ := HRr.out wr hbc.out
              obtain ⟨y0, y1, y2⟩ := Hq.out wr hbc.out
              have HI : Hid (IntsT w.heap.size ((((wr.setCell ⟨w.heap.size, 0, none⟩ (.int .i64 f1)).setCell ⟨w.heap.size, 1, none⟩ (.int .i64 (k : Int))).setCell ⟨w.heap.size, 2, none⟩ (.int .i64 f3))) (.slice va k vc) l) := by
                have hne : (Value.slice va k vc).ownBlock ≠ some w.heap.size := ne_old how.out (by omega)
                have h3 := own_any (p := ⟨w.heap.size, 2, none⟩) (u := .int .i64 f3) (own_any (p := ⟨w.heap.size, 1, none⟩) (u := .int .i64 (k : Int)) (own_any (p := ⟨w.heap.size, 0, none⟩) (u := .int .i64 f1) how.out hne) hne) hne
                exact own_intsT (by rw [hl]; exact h3) HBC.out.size
              go_wp2
              refine bodyPost_ret (v := .tuple #[frmV (f1, (k : Int), f3), .slice va k vc, .nilIface]) (by simp [results, Tryz.f61, go_sem, e0, e1, e2, frmV]) rfl ?_
              exact ⟨below_set (below_set (below_set (HBC.out.trans (hbc.out.mono HBC.out.size)) (Nat.le_refl _) _) (Nat.le_refl _) _) (Nat.le_refl _) _, parseR_some HPS.out rfl HI.out⟩
      · have HP : Hid (parseF s = none) := by show _ = _; rw [HPF.out, if_neg hne]
        rw [HWL.out] at hne
        have hf3 := formsF_small (HF2.out f rfl)
        have hw1 : IntKind.i64.wrap (f.2.1 + 1) = f.2.1 + 1 := IntWalk.i64_in _ (by omega)
        have k3 : (((n : Int) + 1) != f.2.1 + 1) = true := by simp; omega
        have k4 : (((n + 1 : Nat) : Int) != f.2.1 + 1) = true := by simp; omega
        clear hne
        go_wp2
        refine bodyPost_ret (v := .tuple #[.agg #[.int .i64 0, .int .i64 0, .int .i64 0], .slice none 0 0, .iface 127 (.agg #[.int .i64 2])]) (by simp [results, Tryz.f61, go_sem, r0, r1, r2]) rfl ?_
        exact ⟨below_set (below_set (below_set HBC.out (Nat.le_refl _) _) (Nat.le_refl _) _) (Nat.le_refl _) _, parseR_none HP.out rfl⟩
end Go.Proofs.YthooacpfmjpdmaaGreatDoor
