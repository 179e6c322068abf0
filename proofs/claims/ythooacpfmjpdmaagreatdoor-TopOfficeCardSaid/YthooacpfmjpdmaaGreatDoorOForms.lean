/- The table of the forms of orders: a map that the call makes. No conditions. -/
import Derived.Test.YthooacpfmjpdmaaGreatDoorOSt2
import Derived.Maps.OwnOps
import Derived.StringKeys
namespace Go.Proofs.YthooacpfmjpdmaaGreatDoor
open Go.RowKit Go.WideMaps Go.Maps

/-- A form: a kind, how many numbers, how many owners. -/
abbrev Frm := Int × Int × Int
def frmV (t : Frm) : Value := .agg #[.int .i64 t.1, .int .i64 t.2.1, .int .i64 t.2.2]
def frmD (t : Frm) : DataW Unit := .agg [.lit (.int .i64 t.1), .lit (.int .i64 t.2.1), .lit (.int .i64 t.2.2)]
def frmR : Value → Option (DataW Unit × List MemPlace)
  | .agg a => match a.toList with
    | [.int .i64 x, .int .i64 y, .int .i64 z] => some (frmD (x, y, z), [])
    | _ => none
  | _ => none
theorem frmR_mk (t : Frm) : frmR (frmV t) = some (frmD t, []) := rfl
theorem frmR_inv {v : Value} {z : DataW Unit × List MemPlace} (h : frmR v = some z) : ∃ t, v = frmV t ∧ z = (frmD t, []) := by
  unfold frmR at h
  split at h
  · rename_i a
    split at h
    · rename_i x y z' e
      injection h with h
      refine ⟨(x, y, z'), ?_, h.symm⟩
      unfold frmV
      congr 1
      rw [← e]
    · cases h
  · cases h
theorem frmD_inj {t u : Frm} (h : frmD t = frmD u) : t = u := by
  obtain ⟨a, b, c⟩ := t
  obtain ⟨d, e, f⟩ := u
  simp [frmD] at h
  simp [h]
/-- The map answers as f says. -/
def MapAt (w : World) (b n : Nat) (f : List UInt8 → Option Frm) : Prop :=
  ∃ D, w.ownsMap Tryz.prog 9 frmR b n D ∧ Maps.IsMap D ∧ ∀ s : List UInt8, D.atKey (.string s) (.lit (.bool true)) = match f s with | some t => frmD t | none => .lit (.bool true)
theorem MapAt.new (w : World) {b : Nat} (hb : b = w.heap.size) : MapAt (w.alloc (.map #[] 0)) b 0 (fun _ => none) :=
  ⟨.map [], hb ▸ World.ownsMap_made w _ _ _, ⟨_, rfl⟩, fun _ => rfl⟩
theorem MapAt.below {w w' : World} {b n : Nat} {f : List UInt8 → Option Frm} (h : MapAt w b n f) (hb : Below w.heap.size w w') : MapAt w' b n f := by
  obtain ⟨D, ⟨es, clock, hh, r⟩, hM, hf⟩ := h
  exact ⟨D, ⟨es, clock, (hb.block b (Array.getElem?_eq_some_iff.1 hh).1).trans hh, r⟩, hM, hf⟩
theorem map_type : Tryz.prog.underlying 130 = some (.map 9 104) := by kernel_rfl
theorem MapAt.put {w : World} {b n : Nat} {f : List UInt8 → Option Frm} (h : MapAt w b n f) (hn : n < 100) (s : ByteArray) (hs : s.size ≤ 100) (t : Frm) :
    ∃ w', (Instr.mapUpdate 130 (.map (some b)) (.string s) (frmV t)).run Tryz.prog w = .ok () w' ∧ MapAt w' b (n + 1) (fun x => if x = s.data.toList then some t else f x) ∧ w.grownBy w' (some b) := by
  obtain ⟨D, ho, hM, hf⟩ := h
  have hk := keyOf_string_mk (P := Tryz.prog) (k := 9) Tryz.underlying9 (s := s) (by unfold maxLen; omega)
  obtain ⟨w', h1, h2, h3⟩ := ho.update (string_keyed Tryz.underlying9) map_type (by unfold maxLen; omega) hk (frmR_mk t)
  refine ⟨w', h1, ⟨_, h2, hM.put _ _, fun x => ?_⟩, h3⟩
  by_cases e : x = s.data.toList
  · subst e
    simp only [if_true]
    exact Maps.atKey_put_same hM ((string_keyed Tryz.underlying9).key hk) _ _
  · simp only [if_neg e]
    refine (Maps.atKey_put_other (fun e2 => e ?_) _ _).trans (hf x)
    injection e2
theorem MapAt.get {w : World} {b n : Nat} {f : List UInt8 → Option Frm} (h : MapAt w b n f) (s : ByteArray) (hs : s.size ≤ 1000000) :
    (Instr.lookup 130 (.map (some b)) (.string s) true).run Tryz.prog w = .ok (.tuple #[frmV ((f s.data.toList).getD (0, 0, 0)), .bool (f s.data.toList).isSome]) w := by
  obtain ⟨D, ⟨es, clock, hb, F, _, rfl⟩, hM, hf⟩ := h
  have hk := keyOf_string_mk (P := Tryz.prog) (k := 9) Tryz.underlying9 (s := s) (by unfold maxLen; omega)
  have hz : (zeroValue 104).run Tryz.prog w = .ok (frmV (0, 0, 0)) w := by kernel_rfl
  have hfs := hf s.data.toList
  rcases Maps.fit_look true (string_keyed Tryz.underlying9) map_type hz hb F hk with ⟨hrun, _, hat⟩ | ⟨e0, y, _, _, hrun, hR, hat, _⟩
  · rw [hat] at hfs
    cases hfx : f s.data.toList with
    | none => rw [hrun]; rfl
    | some t => rw [hfx] at hfs; cases hfs
  · rw [hat] at hfs
    obtain ⟨t, ht, rfl⟩ := frmR_inv hR
    cases hfx : f s.data.toList with
    | none => rw [hfx] at hfs; cases hfs
    | some t' =>
      rw [hfx] at hfs
      have := frmD_inj hfs
      subst this
      rw [hrun, ht]; rfl
/-- The forms by their first words. -/
def formsF (s : List UInt8) : Option Frm :=
  if s = [101, 110, 116, 101, 114] then some (8, 0, 0) else if s = [114, 101, 106, 101, 99, 116] then some (7, 1, 1) else if s = [109, 111, 118, 101] then some (6, 3, 2) else if s = [111, 98, 106, 101, 99, 116] then some (5, 1, 1) else if s = [104, 101, 97, 114] then some (4, 1, 0) else if s = [108, 97, 121] then some (3, 2, 1) else if s = [100, 101, 100, 117, 99, 116] then some (2, 1, 0) else if s = [115, 116, 114, 105, 112] then some (1, 2, 1) else if s = [100, 97, 121] then some (0, 1, 0) else none
set_option maxRecDepth 100000 in
set_option maxHeartbeats 1000000 in
theorem forms_calls (w : World) : Calls Tryz.prog 93 #[] w fun e w' => e = .returned (.map (some w.heap.size)) ∧ MapAt w' w.heap.size 9 formsF ∧ Below w.heap.size w w' := by
  have hmk : ∀ w : World, (Instr.makeMap 130 none).run Tryz.prog w = .ok (.map (some w.heap.size)) (w.alloc (.map #[] 0)) := fun w => by kernel_rfl
  have m0 := MapAt.new w rfl
  obtain ⟨w1, u1, m1, g1⟩ := m0.put (by decide) ⟨#[100, 97, 121]⟩ (by decide) (0, 1, 0)
  obtain ⟨w2, u2, m2, g2⟩ := m1.put (by decide) ⟨#[115, 116, 114, 105, 112]⟩ (by decide) (1, 2, 1)
  obtain ⟨w3, u3, m3, g3⟩ := m2.put (by decide) ⟨#[100, 101, 100, 117, 99, 116]⟩ (by decide) (2, 1, 0)
  obtain ⟨w4, u4, m4, g4⟩ := m3.put (by decide) ⟨#[108, 97, 121]⟩ (by decide) (3, 2, 1)
  obtain ⟨w5, u5, m5, g5⟩ := m4.put (by decide) ⟨#[104, 101, 97, 114]⟩ (by decide) (4, 1, 0)
  obtain ⟨w6, u6, m6, g6⟩ := m5.put (by decide) ⟨#[111, 98, 106, 101, 99, 116]⟩ (by decide) (5, 1, 1)
  obtain ⟨w7, u7, m7, g7⟩ := m6.put (by decide) ⟨#[109, 111, 118, 101]⟩ (by decide) (6, 3, 2)
  obtain ⟨w8, u8, m8, g8⟩ := m7.put (by decide) ⟨#[114, 101, 106, 101, 99, 116]⟩ (by decide) (7, 1, 1)
  obtain ⟨w9, u9, m9, g9⟩ := m8.put (by decide) ⟨#[101, 110, 116, 101, 114]⟩ (by decide) (8, 0, 0)
  unfold frmV at u1 u2 u3 u4 u5 u6 u7 u8 u9
  simp only at u1 u2 u3 u4 u5 u6 u7 u8 u9
  have HM := Lib.hid m9
  have HB : Hid (Below w.heap.size w w9) := by
    show Below _ _ _
    have h0 : Below w.heap.size w (w.alloc (.map #[] 0)) := by (repeat' (first | exact Below.refl _ _ | assumption | refine below_new ?_ _ | refine below_draw ?_ | refine below_tail (by assumption) ?_ | refine below_set ?_ (by first | omega | (simp <;> omega)) _))
    have st : ∀ {a b : World}, Below w.heap.size w a → a.grownBy b (some w.heap.size) → Below w.heap.size w b := fun h g => below_grow h g (fun k hk => Nat.le_of_eq (Option.some.inj hk))
    exact st (st (st (st (st (st (st (st (st h0 g1) g2) g3) g4) g5) g6) g7) g8) g9
  clear m0 m1 m2 m3 m4 m5 m6 m7 m8 m9 g1 g2 g3 g4 g5 g6 g7 g8 g9
  go_enter Tryz.func93, Tryz.ntmps93
  go_wp2
  go_ret
  refine ⟨rfl, ?_, HB.out⟩
  exact HM.out
theorem forms_some (w : World) : Calls Tryz.prog 93 #[] w fun e w' => ∃ b, e = .returned (.map (some b)) ∧ MapAt w' b 9 formsF ∧ Below w.heap.size w w' :=
  (forms_calls w).mono fun _ _ ⟨h1, h2, h3⟩ => ⟨_, h1, h2, h3⟩
end Go.Proofs.YthooacpfmjpdmaaGreatDoor
