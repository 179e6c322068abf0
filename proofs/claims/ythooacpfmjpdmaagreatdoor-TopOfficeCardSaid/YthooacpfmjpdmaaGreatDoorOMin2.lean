/- Minutes written and read by package office. Conditions: the library's variables read as they were laid. -/
import Derived.Test.YthooacpfmjpdmaaGreatDoorOMin
namespace Go.Proofs.YthooacpfmjpdmaaGreatDoor
open Go.RowKit

def cellsS (l : List ByteArray) : List Value := l.map Value.string
theorem cellsS_get {l : List ByteArray} {i : Nat} (h : i < l.length) : (cellsS l)[i]? = some (.string (gi l default i)) := by simp [cellsS, gi, h]
theorem cellsS_append (l : List ByteArray) (x : ByteArray) : cellsS (l ++ [x]) = cellsS l ++ [.string x] := by simp [cellsS]
theorem texts0 (w : World) (a : Option Addr) (cap : Nat) (h : cap ≤ 9223372036854775807) : TextsAt w (.slice a 0 cap) [] := ⟨a, cap, rfl, Nat.zero_le _, h, fun i hi => by simp at hi⟩
theorem own_texts {w : World} {base : Nat} {e : TypeId} {v : Value} {l : List ByteArray} (h : w.ownsRow base e 1 v l.length (cellsS l)) : TextsAt w v l := by
  rcases id h with ⟨_, ⟨rfl, h0⟩ | ⟨g, cap, cur, rfl, hb, hg, hn, hm, hs, ht⟩⟩
  · rw [List.length_eq_zero_iff] at h0; subst h0; exact texts0 _ _ _ (by decide)
  · refine ⟨_, cap, rfl, hn, by unfold maxLen at hm; omega, fun i hi => ⟨g, 0, rfl, (Array.getElem?_eq_some_iff.1 hg).1, ?_⟩⟩
    rw [Nat.zero_add, h.cellAt i (by omega), cellsS_get hi]
theorem infoStr : (Tryz.prog.info? 9).map (fun i => (i.zero, i.size, i.bytes)) = some (some (.string ⟨#[]⟩), 1, 16) := by kernel_rfl
theorem one_str (x : ByteArray) : ∀ u ∈ [Value.string x], u.oneCell' = true := by
  intro u hu
  simp only [List.mem_singleton] at hu
  subst hu; rfl
theorem minF_size {l : List ByteArray} (h : ∀ o ∈ l, okB o.data.toList = true) : (minF l).size ≤ 40 * l.length := by
  unfold minF
  have := book_len (l := l.map (·.data.toList)) (fun o ho => by obtain ⟨y, hy, rfl⟩ := List.mem_map.1 ho; exact h y hy) 0
  rw [List.length_map] at this
  exact (mkB_size _).symm ▸ this
end Go.Proofs.YthooacpfmjpdmaaGreatDoor
