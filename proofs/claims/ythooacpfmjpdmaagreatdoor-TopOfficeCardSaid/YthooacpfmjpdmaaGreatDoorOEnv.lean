/- What the library's variables hold, and what the library's functions give while they do. Conditions: the variables read as they were laid. -/
import Derived.Test.YthooacpfmjpdmaaGreatDoorOForms
import Derived.Test.YthooacpfmjpdmaaGreatDoorOShelf
import Derived.Test.YthooacpfmjpdmaaGreatDoorOSum
namespace Go.Proofs.YthooacpfmjpdmaaGreatDoor
open Go.RowKit

/-- The library's variables. -/
structure Env (w : World) : Prop where
  et : w.cell? ⟨0, 0, none⟩ = some errHandle
  ml : ∃ m, w.cell? ⟨3, 0, none⟩ = some (.int .i64 m)
  tab : Lib.TabIs Tryz.prog w "internal/strconv.uint64pow10" .u64 Lib.pow10Tab
  sy : ∃ t p, w.cell? ⟨1, 0, none⟩ = some (.iface t p)
  ra : ∃ t p, w.cell? ⟨2, 0, none⟩ = some (.iface t p)
theorem pow_named : Tryz.prog.globalNamed "internal/strconv.uint64pow10" = some 4 := by kernel_rfl
theorem tab_below {w w' : World} (h : Lib.TabIs Tryz.prog w "internal/strconv.uint64pow10" .u64 Lib.pow10Tab) (hb : Below w.heap.size w w') : Lib.TabIs Tryz.prog w' "internal/strconv.uint64pow10" .u64 Lib.pow10Tab := by
  unfold Lib.TabIs at h ⊢
  simp only [World.var?, pow_named, Option.bind_some] at h ⊢
  have hlt : 4 < w.heap.size := by
    rcases Nat.lt_or_ge 4 w.heap.size with h1 | h1
    · exact h1
    · rw [Array.getElem?_eq_none h1] at h; simp at h
  rw [hb.block _ hlt]; exact h
theorem Env.below {w w' : World} (h : Env w) (hb : Below w.heap.size w w') : Env w' := by
  obtain ⟨h1, ⟨m, h2⟩, h3, ⟨t, p, h4⟩, ⟨t2, p2, h5⟩⟩ := h
  exact ⟨(hb.cell (p := ⟨_, 0, none⟩) (block_lt_of_cell h1)).trans h1, ⟨m, (hb.cell (p := ⟨_, 0, none⟩) (block_lt_of_cell h2)).trans h2⟩, tab_below h3 hb, ⟨t, p, (hb.cell (p := ⟨_, 0, none⟩) (block_lt_of_cell h4)).trans h4⟩, ⟨t2, p2, (hb.cell (p := ⟨_, 0, none⟩) (block_lt_of_cell h5)).trans h5⟩⟩
theorem itoa_calls (n : Int) (w : World) (h0 : -9223372036854775808 ≤ n) (h1 : n ≤ 9223372036854775807) (he : Env w) : Gives Tryz.prog 54 #[.int .i64 n] w (.string ⟨(Lib.itoa n).toArray⟩) := by
  unfold Gives
  refine (Tryz.strconv_Itoa n h0 h1 w he.tab).mono ?_
  rintro e w' ⟨rfl, k, os, rfl⟩
  exact ⟨rfl, below_regrown w (w.drewN k).drawn os⟩
theorem itoa_is {n : Int} {w : World} {t : ByteArray} (h0 : -9223372036854775808 ≤ n) (h1 : n ≤ 9223372036854775807) (he : Env w) (ht : (⟨(Lib.itoa n).toArray⟩ : ByteArray) = t) : Gives Tryz.prog 54 #[.int .i64 n] w (.string t) := ht ▸ itoa_calls n w h0 h1 he
/-- How a text reads as a number. -/
def atoiE (s : ByteArray) : Option Int := match Lib.atoiAll s.data.toList with | .ok v => some v | _ => none
def atoiN (s : ByteArray) : Int := match Lib.atoiAll s.data.toList with | .ok v => v | Lib.NumEnd.syntax => 0 | .range => Lib.atoiSat s.data.toList
theorem atoi_ok {s : ByteArray} {v : Int} {w : World} (hs : s.size ≤ 1000000) (h : atoiE s = some v) : Gives Tryz.prog 49 #[.string s] w (.tuple #[.int .i64 v, .nilIface]) := by
  unfold Gives
  have h' : Lib.atoiAll s.data.toList = .ok v := by
    unfold atoiE at h
    split at h
    · rename_i e; injection h with h; rw [e, h]
    · cases h
  refine (Tryz.strconv_Atoi_ok s (by omega) v h' w).mono ?_
  rintro e w' ⟨rfl, hw⟩
  refine ⟨rfl, ?_⟩
  rcases hw with rfl | ⟨t, rfl⟩
  · exact Below.refl _ _
  · exact below_bytes w _ _
theorem atoi_bad {s : ByteArray} {w : World} (hs : s.size ≤ 1000000) (h : atoiE s = none) (he : Env w) :
    Calls Tryz.prog 49 #[.string s] w fun e w' => ∃ N, e = .returned (.tuple #[.int .i64 (atoiN s), .iface 145 (.pointer (some ⟨N, 0, none⟩))]) ∧ Below w.heap.size w w' := by
  match hh : Lib.atoiAll s.data.toList with
  | Lib.NumEnd.ok v => unfold atoiE at h; rw [hh] at h; cases h
  | Lib.NumEnd.syntax =>
    obtain ⟨t, p, hv⟩ := he.sy
    refine (Tryz.strconv_Atoi_syntax s (by omega) hh _ w hv (.inr ⟨t, p, rfl⟩)).mono ?_
    rintro e w' ⟨N, rfl, _, _, hb⟩
    exact ⟨N, by unfold atoiN; rw [hh], hb⟩
  | Lib.NumEnd.range =>
    obtain ⟨t, p, hv⟩ := he.ra
    refine (Tryz.strconv_Atoi_range s (by omega) hh _ w hv (.inr ⟨t, p, rfl⟩)).mono ?_
    rintro e w' ⟨N, rfl, _, _, hb⟩
    exact ⟨N, by unfold atoiN; rw [hh], hb⟩
theorem cut_calls (s sep : ByteArray) (w : World) (hs : s.size ≤ 1000000) (he : Env w) :
    Gives Tryz.prog 52 #[.string s, .string sep] w (.tuple #[.string ⟨(Lib.cut s.data.toList sep.data.toList).1.toArray⟩, .string ⟨(Lib.cut s.data.toList sep.data.toList).2.1.toArray⟩, .bool (Lib.cut s.data.toList sep.data.toList).2.2]) := by
  obtain ⟨m, hm⟩ := he.ml
  unfold Gives
  refine (Tryz.strings_Cut s sep m w (by omega) hm).mono ?_
  rintro e w' ⟨rfl, n, rfl⟩
  exact ⟨rfl, Joins.below_draws _ w n⟩
theorem split_calls (s sep : ByteArray) (w : World) (hs : s.size ≤ 1000000) (h1 : 1 ≤ sep.size) (he : Env w) :
    Calls Tryz.prog 92 #[.string s, .string sep] w fun e w' => e = .returned (.slice (some ⟨w.heap.size, 0, none⟩) (Lib.countB s sep + 1) (Lib.countB s sep + 1)) ∧ w' = w.alloc (.cells ((Lib.splitB sep 0 (Lib.countB s sep) s).map Value.string).toArray 9) := by
  obtain ⟨m, hm⟩ := he.ml
  exact Tryz.strings_Split s sep m w (by omega) hm h1
theorem contains_calls (s : ByteArray) (c : UInt8) (w : World) : Same Tryz.prog 86 #[.string s, .string ⟨#[c]⟩] w (.bool (decide (0 ≤ Lib.indexByte s.data.toList c))) := by
  unfold Same
  refine (Tryz.strings_Contains_one s c w).mono ?_
  rintro e w' ⟨rfl, rfl⟩
  exact ⟨rfl, rfl⟩
theorem trim_calls (s p : ByteArray) (w : World) (hs : s.size ≤ 1000000) : Same Tryz.prog 128 #[.string s, .string p] w (.string ⟨(Lib.trimSuffix s.data.toList p.data.toList).toArray⟩) := by
  unfold Same
  refine (Tryz.strings_TrimSuffix s p w (by omega)).mono ?_
  rintro e w' ⟨rfl, rfl⟩
  exact ⟨rfl, rfl⟩
end Go.Proofs.YthooacpfmjpdmaaGreatDoor
