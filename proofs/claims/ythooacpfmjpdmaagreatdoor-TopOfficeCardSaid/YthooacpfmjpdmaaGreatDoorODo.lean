/- What the method do does, for every order. Conditions: as said. -/
import Derived.Test.YthooacpfmjpdmaaGreatDoorODo0
import Derived.Test.YthooacpfmjpdmaaGreatDoorODo1
import Derived.Test.YthooacpfmjpdmaaGreatDoorODo2
import Derived.Test.YthooacpfmjpdmaaGreatDoorODo3a
import Derived.Test.YthooacpfmjpdmaaGreatDoorODo3b
import Derived.Test.YthooacpfmjpdmaaGreatDoorODo4
import Derived.Test.YthooacpfmjpdmaaGreatDoorODo5
import Derived.Test.YthooacpfmjpdmaaGreatDoorODo6a
import Derived.Test.YthooacpfmjpdmaaGreatDoorODo6b
import Derived.Test.YthooacpfmjpdmaaGreatDoorODo7
import Derived.Test.YthooacpfmjpdmaaGreatDoorODo8a
import Derived.Test.YthooacpfmjpdmaaGreatDoorODo8b
import Derived.Test.YthooacpfmjpdmaaGreatDoorODoN
import Derived.Test.YthooacpfmjpdmaaGreatDoorOOff
namespace Go.Proofs.YthooacpfmjpdmaaGreatDoor
open Go.RowKit

theorem DoR.none {m : Nat} {w : World} {B n g1 c1 g2 c2 g3 c3 : Nat} {err : Int} {s' : St} {e : Ending} {w' : World} (he : err = 4) (h : e = .returned (refV 4) ∧ Below m w w') : DoR m w B n g1 c1 g2 c2 g3 c3 err s' e w' := by
  subst he
  exact ⟨h.1, h.2, fun h0 => by cases h0⟩
theorem doE_none {c : Cal} {s : St} {t : Frm} {l : List Int} {n : Nat} (hn : s.strips.length = n) (h : ((l.take t.2.2.toNat).any fun x => decide ((n : Int) ≤ x)) = true) : doE c s t l = 4 := by
  unfold doE; rw [hn, if_pos h]
theorem doE_kind {c : Cal} {s : St} {t : Frm} {l : List Int} {n : Nat} (hn : s.strips.length = n) (h : ((l.take t.2.2.toNat).any fun x => decide ((n : Int) ≤ x)) = false) : doE c s t l = kindE c s t.1 l := by
  unfold doE; rw [hn, if_neg (by rw [h]; decide)]
theorem nat_of {a : Int} (h : 0 ≤ a) : ∃ i : Nat, a = (i : Int) := ⟨a.toNat, by omega⟩
set_option maxHeartbeats 1000000 in
theorem do_calls (m : Nat) (w : World) (B n : Nat) (s : St) (g1 c1 g2 c2 g3 c3 : Nat) (cv lv : Value) (c : Cal) (t : Frm) (l : List Int) (h : StBox m w B n s g1 c1 g2 c2 g3 c3) (hg : Good s) (hc : CalAt w cv c) (hv : validF c = 0)
    (ht : t = (0, 1, 0) ∨ t = (1, 2, 1) ∨ t = (2, 1, 0) ∨ t = (3, 2, 1) ∨ t = (4, 1, 0) ∨ t = (5, 1, 1) ∨ t = (6, 3, 2) ∨ t = (7, 1, 1) ∨ t = (8, 0, 0))
    (hn : (l.length : Int) = t.2.1) (hr : ∀ v ∈ l, 0 ≤ v ∧ v ≤ 9999) (hl : IntsAt w lv l) :
    Calls Tryz.prog 64 #[.pointer (some ⟨B, 0, none⟩), cv, frmV t, lv] w (DoR m w B n g1 c1 g2 c2 g3 c3 (doE c s t l) (doS c s t l)) := by
  have hn1 := h.st.l1
  unfold doS
  rcases ht with rfl | rfl | rfl | rfl | rfl | rfl | rfl | rfl | rfl
  · obtain ⟨a, rfl⟩ := len1 (l := l) (by have : (l.length : Int) = 1 := hn; omega)
    rw [doE_kind hn1 rfl]
    exact do_day m w B n s g1 c1 g2 c2 g3 c3 cv lv c a (hr a (by simp)) h hg hc hv hl
  · obtain ⟨a, b, rfl⟩ := len2 (l := l) (by have : (l.length : Int) = 2 := hn; omega)
    by_cases ha : (n : Int) ≤ a
    · exact (do_none1 m w B n s g1 c1 g2 c2 g3 c3 cv lv c 1 2 [a, b] (by simp) (by simp) (by simpa [gi] using ha) h hc hl).mono fun _ _ hh => DoR.none (doE_none hn1 (by simpa using ha)) hh
    · rw [doE_kind hn1 (by simpa using ha)]
      obtain ⟨i, rfl⟩ := nat_of (hr a (by simp)).1
      exact do_strip m w B n s g1 c1 g2 c2 g3 c3 cv lv c i (by omega) b (hr b (by simp)) h hg hc hv hl
  · obtain ⟨a, rfl⟩ := len1 (l := l) (by have : (l.length : Int) = 1 := hn; omega)
    rw [doE_kind hn1 rfl]
    exact do_deduct m w B n s g1 c1 g2 c2 g3 c3 cv lv c a (hr a (by simp)) h hg hc hv hl
  · obtain ⟨a, b, rfl⟩ := len2 (l := l) (by have : (l.length : Int) = 2 := hn; omega)
    by_cases ha : (n : Int) ≤ a
    · exact (do_none1 m w B n s g1 c1 g2 c2 g3 c3 cv lv c 3 2 [a, b] (by simp) (by simp) (by simpa [gi] using ha) h hc hl).mono fun _ _ hh => DoR.none (doE_none hn1 (by simpa using ha)) hh
    · rw [doE_kind hn1 (by simpa using ha)]
      obtain ⟨i, rfl⟩ := nat_of (hr a (by simp)).1
      cases hf : s.fixed
      · exact do_lay_n m w B n s g1 c1 g2 c2 g3 c3 cv lv c i (by omega) b (hr b (by simp)) h hg hf hc hv hl
      · exact do_lay_y m w B n s g1 c1 g2 c2 g3 c3 cv lv c i (by omega) b (hr b (by simp)) h hg hf hc hv hl
  · obtain ⟨a, rfl⟩ := len1 (l := l) (by have : (l.length : Int) = 1 := hn; omega)
    rw [doE_kind hn1 rfl]
    exact do_hear m w B n s g1 c1 g2 c2 g3 c3 cv lv c a (hr a (by simp)) h hg hc hv hl
  · obtain ⟨a, rfl⟩ := len1 (l := l) (by have : (l.length : Int) = 1 := hn; omega)
    by_cases ha : (n : Int) ≤ a
    · exact (do_none1 m w B n s g1 c1 g2 c2 g3 c3 cv lv c 5 1 [a] (by simp) (by simp) (by simpa [gi] using ha) h hc hl).mono fun _ _ hh => DoR.none (doE_none hn1 (by simpa using ha)) hh
    · rw [doE_kind hn1 (by simpa using ha)]
      obtain ⟨i, rfl⟩ := nat_of (hr a (by simp)).1
      exact do_object m w B n s g1 c1 g2 c2 g3 c3 cv lv c i (by omega) h hg hc hv hl
  · obtain ⟨a, b, v, rfl⟩ := len3 (l := l) (by have : (l.length : Int) = 3 := hn; omega)
    by_cases ha : (n : Int) ≤ a ∨ (n : Int) ≤ b
    · exact (do_none2 m w B n s g1 c1 g2 c2 g3 c3 cv lv c 6 3 [a, b, v] (by simp) (by simp) (by simpa [gi] using ha) h hc hl).mono fun _ _ hh => DoR.none (doE_none hn1 (by simpa using ha)) hh
    · rw [doE_kind hn1 (by simpa using ha)]
      obtain ⟨i, rfl⟩ := nat_of (hr a (by simp)).1
      obtain ⟨j, rfl⟩ := nat_of (hr b (by simp)).1
      by_cases hz : v = 0
      · exact do_move_n m w B n s g1 c1 g2 c2 g3 c3 cv lv c i (by omega) j (by omega) v (hr v (by simp)) h hg hz hc hv hl
      · exact do_move_y m w B n s g1 c1 g2 c2 g3 c3 cv lv c i (by omega) j (by omega) v (hr v (by simp)) h hg hz hc hv hl
  · obtain ⟨a, rfl⟩ := len1 (l := l) (by have : (l.length : Int) = 1 := hn; omega)
    by_cases ha : (n : Int) ≤ a
    · exact (do_none1 m w B n s g1 c1 g2 c2 g3 c3 cv lv c 7 1 [a] (by simp) (by simp) (by simpa [gi] using ha) h hc hl).mono fun _ _ hh => DoR.none (doE_none hn1 (by simpa using ha)) hh
    · rw [doE_kind hn1 (by simpa using ha)]
      obtain ⟨i, rfl⟩ := nat_of (hr a (by simp)).1
      exact do_reject m w B n s g1 c1 g2 c2 g3 c3 cv lv c i (by omega) h hg hc hv hl
  · obtain rfl : l = [] := List.eq_nil_of_length_eq_zero (by have : (l.length : Int) = 0 := hn; omega)
    rw [doE_kind hn1 rfl]
    cases hf : s.heard
    · exact do_enter_n m w B n s g1 c1 g2 c2 g3 c3 cv lv c h hg hf hc hv hl
    · exact do_enter_y m w B n s g1 c1 g2 c2 g3 c3 cv lv c h hg hf hc hv hl
end Go.Proofs.YthooacpfmjpdmaaGreatDoor
