/- slices.SortFunc and SortedFunc at points, by order, as package plot calls them. Conditions: at most 12 points and at least one; the list lies in memory as said. -/
import Derived.Test.YthiemglckmociaaPShelf
import Derived.Test.YthiemglckmociaaPtColl
import Derived.Test.YthiemglckmociaaPtMin
import Derived.Test.YthiemglckmociaaPtChain
namespace Go.Proofs.Ythiemglckmociaa
open Go.RowKit Go.Sort Go.Lib Go.Shelf

theorem dg_refl (W : World) : ∃ (q : Nat) (os : Array Obj), W = grow (W.drewN q) os := ⟨0, #[], by simp [grow, World.drewN]⟩
theorem dg_alloc {W w : World} (h : ∃ (q : Nat) (os : Array Obj), w = grow (W.drewN q) os) (o : Obj) : ∃ (q : Nat) (os : Array Obj), w.alloc o = grow (W.drewN q) os := by
  obtain ⟨q, os, rfl⟩ := h
  exact ⟨q, os ++ #[o], by rw [alloc_eq_grow, grow_grow]⟩
theorem dg_drew {W w : World} (h : ∃ (q : Nat) (os : Array Obj), w = grow (W.drewN q) os) : ∃ (q : Nat) (os : Array Obj), w.drew = grow (W.drewN q) os := by
  obtain ⟨q, os, rfl⟩ := h
  exact ⟨q + 1, os, rfl⟩
set_option maxHeartbeats 1000000 in
theorem orderX_calls (a b : Int × Int) (w : World) : Calls Try.prog 82 #[.agg #[.int .i64 a.1, .int .i64 a.2], .agg #[.int .i64 b.1, .int .i64 b.2]] w fun e w' => e = .returned (.int .i64 (ordF a b)) ∧ ∃ (q : Nat) (os : Array Obj), w' = grow (w.drewN q) os := by
  have H : Hid (ordF a b = orFrom [cmpF a.1 b.1, cmpF a.2 b.2] 0) := by
    unfold Hid; rw [orFrom_2]; rfl
  obtain ⟨r, hr⟩ : ∃ r, ordF a b = r := ⟨_, rfl⟩
  rw [hr] at H ⊢
  clear hr
  go_enter Try.func82, Try.ntmps82
  go_wp2_with fail
  go_region_held3 (fun w' => w'.cell? ⟨w.heap.size, 0, none⟩ = some (.int .i64 a.1) ∧ w'.cell? ⟨w.heap.size, 1, none⟩ = some (.int .i64 a.2) ∧ w'.cell? ⟨w.heap.size + 1, 0, none⟩ = some (.int .i64 b.1) ∧ w'.cell? ⟨w.heap.size + 1, 1, none⟩ = some (.int .i64 b.2)) (go_keep)
    (first | (go_at_call 113; refine (compare_calls _ _ _).mono ?_; rintro e w' ⟨rfl, rfl⟩) | (go_at_call 112; refine (or_is _ [cmpF a.1 b.1, cmpF a.2 b.2] r _ (IntsAt.below (ints2 (by simp)) (below_draw (Below.refl _ _))) H.out.symm).mono ?_; rintro e w' ⟨rfl, rfl⟩))
  all_goals go_wp2
  all_goals go_ret
  all_goals refine ⟨rfl, ?_⟩
  all_goals repeat (first | exact dg_refl _ | refine dg_alloc ?_ _ | refine dg_drew ?_)
def encP (x : Int × Int) : List Value := [.int .i64 x.1, .int .i64 x.2]
theorem ltO (x y : Int × Int) : ltOf ordF x y = decide (ordF x y < 0) := rfl
theorem swoO : SWO (ltOf ordF) where
  irrefl x := by rw [ltO, decide_eq_false]; rw [ordF_neg]; unfold lexLt; omega
  trans x y z h1 h2 := by
    rw [ltO, decide_eq_true_iff, ordF_neg] at *
    unfold lexLt at *; omega
  ntrans x y z h1 h2 := by
    rw [ltO, decide_eq_false_iff_not, ordF_neg] at *
    unfold lexLt at *; omega
theorem flatP_cells (l : List (Int × Int)) : l.flatMap encP = cells2 l := by
  induction l with
  | nil => rfl
  | cons p l ih => rw [List.flatMap_cons, ih]; rfl
theorem flatP_eq (d : Array (Int × Int)) : flatK encP 2 d = (cells2 d.toList).toArray := by
  apply Array.ext
  · simp [cells2_length]
  · intro i h1 h2
    have hi : i < d.size * 2 := by simpa using h1
    have g := get_flatK encP 2 d i hi
    rw [getElem!_pos _ i h1] at g
    rw [g, List.getElem_toArray]
    have hd : i / 2 < d.size := by omega
    have hl : i / 2 < d.toList.length := by simpa using hd
    obtain ⟨c1, c2⟩ := cells2_get hl
    have e1 : gi d.toList (0, 0) (i / 2) = d[i / 2]! := by
      rw [gi_lt hl]; simp [hd]
    rw [e1] at c1 c2
    apply Option.some.inj
    rw [← List.getElem?_eq_getElem]
    by_cases hp : i % 2 = 0
    · rw [show i / 2 * 2 = i by omega] at c1
      rw [c1, hp]; rfl
    · rw [show i / 2 * 2 + 1 = i by omega] at c2
      rw [c2, show i % 2 = 1 by omega]; rfl
theorem heap_putId {w : World} {g n : Nat} {os : Array Obj} {cur : Array Value} {e : TypeId} {fr : Nat × Nat} (d : Array Value) (hb : w.heap[g]? = some (.cells cur e fr)) :
    (grow (putRow id (Sort.ahead w n) g 0 d) os).heap[g]? = some (.cells (putCells id 0 d cur) e fr) := by
  have hg : g < w.heap.size := (Array.getElem?_eq_some_iff.1 hb).1
  rw [heap_grow_old _ _ (by simpa using hg)]
  simp [putRow, mapBlock, Sort.ahead, Array.getElem?_modify, hb, onCells]
theorem grownBy_putId {w : World} {g n : Nat} {os : Array Obj} (d : Array Value) : w.grownBy (grow (putRow id (Sort.ahead w n) g 0 d) os) (some g) := by
  refine ⟨rfl, rfl, rfl, by simp, fun k hk hne => ?_⟩
  rw [heap_grow_old _ _ (by simpa using hk)]
  have : g ≠ k := fun e => hne (by rw [e])
  simp [putRow, mapBlock, Sort.ahead, Array.getElem?_modify, this]
theorem take_putId (cur : Array Value) (ts : List Value) (h : ts.length ≤ cur.size) : (putCells id 0 ts.toArray cur).toList.take ts.length = ts := by
  apply List.ext_getElem?
  intro j
  by_cases hj : j < ts.length
  · rw [List.getElem?_take_of_lt hj, Array.getElem?_toList]
    simp [putCells, hj, show j < cur.size by omega]
  · rw [List.getElem?_take_eq_none (by omega), List.getElem?_eq_none (by omega)]
/-- The sort of points that the call owns. -/
theorem sortP_own {base g cap : Nat} {l : List (Int × Int)} {w : World} (hown : w.ownsRow base 32 2 (.slice (some ⟨g, 0, none⟩) l.length cap) l.length (cells2 l)) (hl : l.length ≤ 12) :
    Calls Try.prog 110 #[.slice (some ⟨g, 0, none⟩) l.length cap, .func (.func 82) #[] #[]] w fun e w' => e = .returned (.tuple #[]) ∧
      ∃ l', l'.Perm l ∧ l'.Pairwise (fun a b => ¬ lexLt b a) ∧ w'.ownsRow base 32 2 (.slice (some ⟨g, 0, none⟩) l'.length cap) l'.length (cells2 l') ∧ w.grownBy w' (some g) := by
  rcases hown.2 with ⟨h, _⟩ | ⟨g', cap', cur, h, hbg, hg, h1, h2, h3, h4⟩
  · cases h
  simp only [Value.slice.injEq, Option.some.injEq, Addr.mk.injEq, and_true, true_and] at h
  obtain ⟨rfl, rfl⟩ := h
  have hlt : g < w.heap.size := (Array.getElem?_eq_some_iff.1 hg).1
  have hd : (l.toArray).size = l.length := by simp
  have hfl : flatK encP 2 l.toArray = (cells2 l).toArray := by rw [flatP_eq]
  have hH : HoldsK encP 2 w g 0 l.toArray := by
    unfold HoldsK
    rw [hfl]
    intro j hj
    have hj' : j < l.length * 2 := by simpa [cells2_length] using hj
    refine ⟨?_, ?_⟩
    · rw [Nat.zero_add, hown.cellAt j hj']
      rw [List.getElem?_eq_getElem (by rw [cells2_length]; exact hj')]
      simp [getElem!_pos, cells2_length, hj']
    · rw [Nat.zero_add]; exact hown.frozenAt j
  have hcon := AnyQ.slices_SortFunc_small_sorted Try.sortP 2 Try.isAgg32 Try.sizeOf32 encP (fun _ => rfl) (fun x v hv => by simp [encP] at hv; rcases hv with rfl | rfl <;> rfl) ordF 82 #[] swoO g 0 cap l.toArray w
    (enters_of Try.func82 (by kernel_rfl) rfl) (fun _ _ _ _ x y => orderX_calls x y _) hH hlt (by rw [hd]; exact hl) (fun n W h => (Try.bits_Len n W (by omega) (by omega)).mono fun _ _ ⟨he, hw⟩ => ⟨⟨_, he⟩, hw⟩)
  rw [hd] at hcon
  refine Calls.mono hcon ?_
  rintro e w' ⟨he, d', n, os, hp, hs, rfl⟩
  obtain ⟨hps, _, hpp⟩ := hp
  have hds : d'.size = l.length := by rw [hps, hd]
  have hx1 : d'.extract 0 l.length = d' := by rw [← hds]; simp
  have hx2 : (l.toArray).extract 0 l.length = l.toArray := by
    simp only [List.extract_toArray, List.extract_eq_take_drop, List.drop_zero, Nat.sub_zero]
    rw [List.take_of_length_le (by simp)]
  rw [hx1, hx2] at hpp
  have hperm : d'.toList.Perm l := by simpa using hpp
  have hlen : d'.toList.length = l.length := by simp [hds]
  refine ⟨he, d'.toList, hperm, ?_, ?_, ?_⟩
  · rw [List.pairwise_iff_getElem]
    intro i j hi hj hij
    have := hs i j (Nat.zero_le _) hij (by omega)
    rw [ltO] at this
    have := of_decide_eq_false this
    have hi' : i < d'.size := by omega
    have hj' : j < d'.size := by omega
    rw [getElem!_pos _ i hi', getElem!_pos _ j hj', ordF_neg] at this
    simpa using this
  · unfold sortWorldK putRowK
    rw [flatP_eq, hlen]
    refine ⟨by rw [cells2_length, hlen], .inr ⟨g, cap, _, rfl, hbg, heap_putId _ hg, h1, h2, by simp [putCells, h3], ?_⟩⟩
    have := take_putId cur (cells2 d'.toList) (by rw [cells2_length, hlen, h3]; omega)
    rw [cells2_length, hlen] at this
    exact this
  · unfold sortWorldK putRowK
    exact grownBy_putId _
set_option maxHeartbeats 1000000 in
theorem sortedP_calls (b0 : Nat) (v : Value) (l : List (Int × Int)) (w : World) (hc : w.cell? ⟨b0, 0, none⟩ = some v) (h : PairsAt w v l) (h0 : 0 < l.length) (hl : l.length ≤ 12) :
    Calls Try.prog 80 #[.func (.func 111) #[] #[.pointer (some ⟨b0, 0, none⟩)], .func (.func 82) #[] #[]] w fun e w' => ∃ (g cap : Nat) (l' : List (Int × Int)), e = .returned (.slice (some ⟨g, 0, none⟩) l'.length cap) ∧ l'.Perm l ∧ l'.Pairwise (fun a b => ¬ lexLt b a) ∧ w'.ownsRow w.heap.size 32 2 (.slice (some ⟨g, 0, none⟩) l'.length cap) l'.length (cells2 l') ∧ Below w.heap.size w w' := by
  have H := Lib.hid (collectP_calls b0 v l w hc h (by omega))
  clear hc h
  go_enter Try.func80, Try.ntmps80
  go_wp2_with (first | (go_at_call 109; refine H.out.mono ?_; rintro e w1 ⟨v1, rfl, hr1, hb1⟩; obtain ⟨g, cap, rfl, hg1, hg2, hg3, hg4⟩ := own_slice0 hr1 h0; have HR := Lib.hid hr1; clear hr1) | (go_at_call 110; refine (sortP_own HR.out hl).mono ?_; rintro e w2 ⟨rfl, l', hp, hs, ho, hgr⟩; have HP := Lib.hid hp; have HS := Lib.hid hs; have HO := Lib.hid ho; have hlen := hp.length_eq; clear hp hs ho))
  refine bodyPost_ret (v := .slice (some ⟨g, 0, none⟩) l.length cap) (by simp [results, Try.f80, go_sem]) rfl ?_
  exact ⟨g, cap, l', by rw [hlen], HP.out, HS.out, HO.out, hb1.grown hgr hb1.size (fun k e => by cases e; exact hg1)⟩
end Go.Proofs.Ythiemglckmociaa
