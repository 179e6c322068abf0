/- The sum of a number and a text: of package office and of the document. Conditions: none but a text's greatest size. -/
import Derived.Test.YthooacpfmjpdmaaGreatDoorOTerm
import Derived.Test.YthooacpfmjpdmaaGreatDoorOShelf
namespace Go.Proofs.YthooacpfmjpdmaaGreatDoor
open Go.RowKit

/-- The sum goes on from n over some bytes. -/
def sumN (n : Nat) : List UInt8 → Nat
  | [] => n
  | c :: l => sumN ((n * 257 + c.toNat + 1) % 1000003) l
def begN (b : Int) : Nat := (b % 1000003).toNat
def sumF (b : Int) (l : List UInt8) : Nat := sumN (begN b) l
theorem sumN_append (l m : List UInt8) : ∀ n, sumN n (l ++ m) = sumN (sumN n l) m := by
  induction l with
  | nil => intro n; rfl
  | cons c l ih => intro n; exact ih _
theorem sumN_lt (l : List UInt8) : ∀ n, n < 1000003 → sumN n l < 1000003 := by
  induction l with
  | nil => intro n h; exact h
  | cons c l ih => intro n h; exact ih _ (Nat.mod_lt _ (by decide))
theorem begN_lt (b : Int) : begN b < 1000003 := by unfold begN; omega
theorem sumF_lt (b : Int) (l : List UInt8) : sumF b l < 1000003 := sumN_lt l _ (begN_lt b)
theorem tmod_cases (a : Int) : a.tmod 1000003 = a % 1000003 ∨ a.tmod 1000003 = a % 1000003 - 1000003 := by
  have h1 : a.tmod 1000003 = a % 1000003 - ((if 0 ≤ a ∨ (1000003 : Int) ∣ a then 0 else Int.natAbs 1000003 : Nat) : Int) := Int.tmod_eq_emod
  rw [h1]
  split
  · left; simp
  · right; rfl
theorem tmod_pos (a : Int) : (a.tmod 1000003 + 1000003).tmod 1000003 = ((begN a : Nat) : Int) := by
  unfold begN
  have := tmod_cases a
  rw [Int.tmod_eq_emod_of_nonneg (by omega)]
  omega
/-- Where the sum stands in front of byte k. -/
def atN (n : Nat) (l : List UInt8) (k : Nat) : Nat := sumN n (l.take k)
theorem atN_succ {n : Nat} {l : List UInt8} {k : Nat} (h : k < l.length) : atN n l (k + 1) = (atN n l k * 257 + (l[k]).toNat + 1) % 1000003 := by
  unfold atN
  rw [List.take_succ_eq_append_getElem h, sumN_append]; rfl
theorem atN_end (n : Nat) (l : List UInt8) : atN n l l.length = sumN n l := by unfold atN; rw [List.take_length]
theorem atN_lt {n : Nat} (h : n < 1000003) (l : List UInt8) (k : Nat) : atN n l k < 1000003 := sumN_lt _ _ h

theorem below_bytes (w : World) (e : TypeId) (s : ByteArray) : Below w.heap.size w (Lib.bytesWorld w e s) := by
  have h := Lib.bytesWorld_at_old w e s
  refine ⟨rfl, rfl, rfl, by rw [Lib.bytesWorld_size]; omega, fun k hk => h k hk⟩
theorem size_list (s : ByteArray) : s.data.toList.length = s.size := by rw [Array.length_toList]; rfl
theorem getD_lt {s : ByteArray} {k : Nat} (h : k < s.size) : s.data.toList.getD k 0 = s.data.toList[k]'(by rw [size_list]; exact h) := by
  rw [List.getD_eq_getElem?_getD, List.getElem?_eq_getElem (by rw [size_list]; exact h)]; rfl
set_option maxRecDepth 100000 in
set_option maxHeartbeats 1000000 in
theorem Sum_calls (b : Int) (s : ByteArray) (w : World) (hs : s.size ≤ 1000000) :
    Gives Tryz.prog 27 #[.int .i64 b, .string s] w (.int .i64 (sumF b s.data.toList : Nat)) := by
  unfold Gives
  have h0 := tmod_pos b
  have hw : IntKind.i64.wrap (b.tmod 1000003 + 1000003) = b.tmod 1000003 + 1000003 := IntWalk.i64_in _ (by have := tmod_cases b; omega)
  have hcv := fun (w : World) => Lib.run_convert_string_bytes (P := Tryz.prog) w 9 111 5 s Tryz.underlying9 Tryz.underlying111 Tryz.underlying5
  have HB := Lib.hid (begN_lt b)
  go_enter Tryz.func27, Tryz.ntmps27
  go_wp2
  have HBW : Hid (Below w.heap.size w (Lib.bytesWorld w 5 s)) := below_bytes w _ s
  have HC : Hid (∀ j, j < s.size → (Lib.bytesWorld w 5 s).cell? ⟨w.heap.size, j, none⟩ = some (.int .u8 (s.data.toList.getD j 0).toNat)) := fun j hj => Lib.bytesWorld_cell w _ s j hj
  obtain ⟨W1, hW1⟩ : ∃ W1, Lib.bytesWorld w 5 s = W1 := ⟨_, rfl⟩
  rw [hW1] at HBW HC ⊢
  clear hcv h0 hw hW1
  go_loop [5, 15] (fun v i => ∃ k : Nat, k ≤ s.size ∧ i = .int .i64 k ∧ v = .int .i64 (atN (begN b) s.data.toList k : Nat)) (fun _ i => s.size - (intOf i).toNat)
  case atStart => exact ⟨0, Nat.zero_le _, rfl, rfl⟩
  case round =>
    obtain ⟨k, hk, rfl, rfl⟩ := hrel
    by_cases hlt : k < s.size
    · have hc := HC.out k hlt
      rw [getD_lt hlt] at hc
      have hlt' : k < s.data.toList.length := by rw [size_list]; exact hlt
      have HS := Lib.hid (atN_succ (n := begN b) hlt')
      have hn := atN_lt HB.out s.data.toList k
      obtain ⟨c, hce⟩ : ∃ c, (s.data.toList[k]'hlt').toNat = c := ⟨_, rfl⟩
      have hc256 : c < 256 := by rw [← hce]; exact (s.data.toList[k]'hlt').toNat_lt
      rw [hce] at hc HS
      obtain ⟨n, hne⟩ : ∃ n, atN (begN b) s.data.toList k = n := ⟨_, rfl⟩
      rw [hne] at HS hn
      rw [hne]
      have hw1 : IntKind.i64.wrap ((n : Int) * 257) = (n : Int) * 257 := IntWalk.i64_in _ (by omega)
      have hw2 : IntKind.i64.wrap ((n : Int) * 257 + (c : Int)) = (n : Int) * 257 + (c : Int) := IntWalk.i64_in _ (by omega)
      have hw3 : IntKind.i64.wrap ((n : Int) * 257 + (c : Int) + 1) = (n : Int) * 257 + (c : Int) + 1 := IntWalk.i64_in _ (by omega)
      have hw4 : ((n : Int) * 257 + (c : Int) + 1).tmod 1000003 = (((n * 257 + c + 1) % 1000003 : Nat) : Int) := by rw [Int.tmod_eq_emod_of_nonneg (by omega)]; omega
      have hw5 : IntKind.i64.wrap (c : Int) = (c : Int) := IntWalk.i64_in _ (by omega)
      have hw6 : IntKind.i64.wrap ((k : Int) + 1) = (k : Int) + 1 := IntWalk.i64_in _ (by omega)
      clear hce hne
      go_wp2
      go_round
      case rel => exact ⟨k + 1, by omega, by go_num, by rw [HS.out]; simp⟩
      case measure => simp [intOf]; omega
    · obtain rfl : k = s.size := by omega
      go_wp2
      go_ret
      exact ⟨ret_int (by rw [← size_list, atN_end]; rfl), HBW.out⟩
theorem Sum_is {b : Int} {s : ByteArray} {n : Nat} {w : World} (hs : s.size ≤ 1000000) (hn : sumF b s.data.toList = n) :
    Gives Tryz.prog 27 #[.int .i64 b, .string s] w (.int .i64 (n : Nat)) := hn ▸ Sum_calls b s w hs
end Go.Proofs.YthooacpfmjpdmaaGreatDoor
