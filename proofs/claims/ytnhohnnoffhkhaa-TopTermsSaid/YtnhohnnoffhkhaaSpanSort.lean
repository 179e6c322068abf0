/- slices.SortFunc of spans by their first day, as package term calls it. Conditions: at most 12 spans, each beginning on a day, in a list that the call owns. -/
import Derived.Test.YtnhohnnoffhkhaaSpanShelf
import Derived.Test.YtnhohnnoffhkhaaShelf
import Derived.Test.YtnhohnnoffhkhaaOwn2
namespace Go.Proofs.Ytnhohnnoffhkhaa
open Go.RowKit Go.Sort Go.Lib Go.Shelf

def encS (x : Fin 10001 × Int) : List Value := [.int .i64 (x.1.val : Int), .int .i64 x.2]
def toS (p : Int × Int) : Fin 10001 × Int := (⟨p.1.toNat % 10001, Nat.mod_lt _ (by decide)⟩, p.2)
def ofS (x : Fin 10001 × Int) : Int × Int := (x.1.val, x.2)
theorem ofS_toS {p : Int × Int} (h0 : 0 ≤ p.1) (h1 : p.1 ≤ 10000) : ofS (toS p) = p := by
  unfold ofS toS
  ext
  · simp only []
    rw [Nat.mod_eq_of_lt (by omega)]; omega
  · rfl
def cmpS (x y : Fin 10001 × Int) : Int := (x.1.val : Int) - y.1.val
theorem ltS (x y : Fin 10001 × Int) : ltOf cmpS x y = decide (x.1.val < y.1.val) := by
  unfold ltOf cmpS
  by_cases h : x.1.val < y.1.val
  · simp [h]; omega
  · simp [h]; omega
theorem swoS : SWO (ltOf cmpS) where
  irrefl x := by rw [ltS]; simp
  trans x y z h1 h2 := by rw [ltS] at *; simp at *; omega
  ntrans x y z h1 h2 := by rw [ltS] at *; simp at *; omega

set_option maxHeartbeats 400000 in
theorem with1_calls (x y : Fin 10001 × Int) (W : World) : Calls Try.prog 71 #[.agg #[.int .i64 (x.1.val : Int), .int .i64 x.2], .agg #[.int .i64 (y.1.val : Int), .int .i64 y.2]] W fun e w' => e = .returned (.int .i64 (cmpS x y)) ∧ ∃ q os', w' = grow (W.drewN q) os' := by
  have hx := x.1.isLt
  have hy := y.1.isLt
  have hc : Hid (cmpS x y = (x.1.val : Int) - (y.1.val : Int)) := rfl
  generalize x.1.val = a at *
  generalize y.1.val = b at *
  go_enter Try.func71, Try.ntmps71
  go_wp2
  go_ret
  exact ⟨ret_int (by rw [hc.out]), 0, _, by rw [alloc_eq_grow, alloc_eq_grow, grow_grow]; rfl⟩
theorem flat_cells (l : List (Int × Int)) (h : ∀ p ∈ l, 0 ≤ p.1 ∧ p.1 ≤ 10000) : (l.map toS).flatMap encS = cells2 l := by
  induction l with
  | nil => rfl
  | cons p l ih =>
    have hp := h p (by simp)
    have ho := ofS_toS hp.1 hp.2
    have e1 : ((toS p).1.val : Int) = p.1 := congrArg Prod.fst ho
    have e2 : (toS p).2 = p.2 := congrArg Prod.snd ho
    rw [List.map_cons, List.flatMap_cons, ih (fun q hq => h q (by simp [hq]))]
    unfold encS
    rw [e1, e2]; rfl
theorem toS_ofS (x : Fin 10001 × Int) : toS (ofS x) = x := by
  unfold toS ofS
  obtain ⟨⟨a, ha⟩, b⟩ := x
  simp only [Int.toNat_natCast, Prod.mk.injEq, and_true]
  exact Fin.ext (Nat.mod_eq_of_lt ha)
theorem flat_eq (d : Array (Fin 10001 × Int)) : flatK encS 2 d = (cells2 (d.toList.map ofS)).toArray := by
  apply Array.ext
  · simp [cells2_length]
  · intro i h1 h2
    have hi : i < d.size * 2 := by simpa using h1
    have g := get_flatK encS 2 d i hi
    rw [getElem!_pos _ i h1] at g
    rw [g, List.getElem_toArray]
    have hd : i / 2 < d.size := by omega
    have hl : i / 2 < (d.toList.map ofS).length := by simpa using hd
    obtain ⟨c1, c2⟩ := cells2_get hl
    have e1 : gi (d.toList.map ofS) (0, 0) (i / 2) = ofS d[i / 2]! := by
      rw [gi_lt hl]; simp [hd]
    rw [e1] at c1 c2
    apply Option.some.inj
    rw [← List.getElem?_eq_getElem]
    by_cases hp : i % 2 = 0
    · rw [show i / 2 * 2 = i by omega] at c1
      rw [c1, hp]; rfl
    · rw [show i / 2 * 2 + 1 = i by omega] at c2
      rw [c2, show i % 2 = 1 by omega]; rfl
theorem heap_putId {w : World} {g n : Nat} {os : Array Obj} {cur : Array Value} {e : TypeId} {fr : Nat × Nat} (d : Array Value) (hb : w.heap[g]? = some (.cells cur e fr)) :
    (grow (putRow id (Sort.ahead w n) g 0 d) os).heap[g]? = some (.cells (putCells id 0 d cur) e fr) := by
  have hg : g < w.heap.size := (Array.getElem?_eq_some_iff.1 hb).1
  rw [heap_grow_old _ _ (by simpa using hg)]
  simp [putRow, mapBlock, Sort.ahead, Array.getElem?_modify, hb, onCells]
theorem grownBy_putId {w : World} {g n : Nat} {os : Array Obj} (d : Array Value) : w.grownBy (grow (putRow id (Sort.ahead w n) g 0 d) os) (some g) := by
  refine ⟨rfl, rfl, rfl, by simp, fun k hk hne => ?_⟩
  rw [heap_grow_old _ _ (by simpa using hk)]
  have : g ≠ k := fun e => hne (by rw [e])
  simp [putRow, mapBlock, Sort.ahead, Array.getElem?_modify, this]
theorem take_putId (cur : Array Value) (ts : List Value) (h : ts.length ≤ cur.size) : (putCells id 0 ts.toArray cur).toList.take ts.length = ts := by
  apply List.ext_getElem?
  intro j
  by_cases hj : j < ts.length
  · rw [List.getElem?_take_of_lt hj, Array.getElem?_toList]
    simp [putCells, hj, show j < cur.size by omega]
  · rw [List.getElem?_take_eq_none (by omega), List.getElem?_eq_none (by omega)]
/-- The sort of spans that the call owns. -/
theorem sortSpan_own {base g cap : Nat} {l : List (Int × Int)} {w : World} (hown : w.ownsRow base 50 2 (.slice (some ⟨g, 0, none⟩) l.length cap) l.length (cells2 l)) (hl : l.length ≤ 12) (hb : ∀ p ∈ l, 0 ≤ p.1 ∧ p.1 ≤ 10000) :
    Calls Try.prog 70 #[.slice (some ⟨g, 0, none⟩) l.length cap, .func (.func 71) #[] #[]] w fun e w' => e = .returned (.tuple #[]) ∧
      ∃ l', l'.Perm l ∧ l'.Pairwise (fun a b => a.1 ≤ b.1) ∧ w'.ownsRow base 50 2 (.slice (some ⟨g, 0, none⟩) l'.length cap) l'.length (cells2 l') ∧ w.grownBy w' (some g) := by
  rcases hown.2 with ⟨h, _⟩ | ⟨g', cap', cur, h, hbg, hg, h1, h2, h3, h4⟩
  · cases h
  simp only [Value.slice.injEq, Option.some.injEq, Addr.mk.injEq, and_true, true_and] at h
  obtain ⟨rfl, rfl⟩ := h
  have hlt : g < w.heap.size := (Array.getElem?_eq_some_iff.1 hg).1
  have hd : ((l.map toS).toArray).size = l.length := by simp
  have hfl : flatK encS 2 (l.map toS).toArray = (cells2 l).toArray := by
    rw [flat_eq]
    congr 2
    simp only [List.map_map]
    conv => rhs; rw [← List.map_id l]
    exact List.map_congr_left fun p hp => ofS_toS (hb p hp).1 (hb p hp).2
  have hH : HoldsK encS 2 w g 0 (l.map toS).toArray := by
    unfold HoldsK
    rw [hfl]
    intro j hj
    have hj' : j < l.length * 2 := by simpa [cells2_length] using hj
    refine ⟨?_, ?_⟩
    · rw [Nat.zero_add, hown.cellAt j hj']
      rw [List.getElem?_eq_getElem (by rw [cells2_length]; exact hj')]
      simp [getElem!_pos, cells2_length, hj']
    · rw [Nat.zero_add]; exact hown.frozenAt j
  have hcon := AnyQ.slices_SortFunc_small_sorted Try.sortSpan 2 Try.isAgg50 Try.sizeOf50 encS (fun _ => rfl) (fun x v hv => by simp [encS] at hv; rcases hv with rfl | rfl <;> rfl) cmpS 71 #[] swoS g 0 cap (l.map toS).toArray w
    (enters_of Try.func71 (by kernel_rfl) rfl) (fun _ _ _ _ x y => with1_calls x y _) hH hlt (by rw [hd]; exact hl) (fun n W h => (Try.bits_Len n W (by omega) (by omega)).mono fun _ _ ⟨he, hw⟩ => ⟨⟨_, he⟩, hw⟩)
  rw [hd] at hcon
  refine Calls.mono hcon ?_
  rintro e w' ⟨he, d', n, os, hp, hs, rfl⟩
  obtain ⟨hps, _, hpp⟩ := hp
  have hds : d'.size = l.length := by rw [hps, hd]
  have hx1 : d'.extract 0 l.length = d' := by rw [← hds]; simp
  have hx2 : ((l.map toS).toArray).extract 0 l.length = (l.map toS).toArray := by
    simp only [List.extract_toArray, List.extract_eq_take_drop, List.drop_zero, Nat.sub_zero]
    rw [List.take_of_length_le (by simp)]
  rw [hx1, hx2] at hpp
  have hperm : (d'.toList.map ofS).Perm l := by
    have := hpp.map ofS
    simp only [List.map_map] at this
    have e : (l.map (ofS ∘ toS)) = l := by
      conv => rhs; rw [← List.map_id l]
      exact List.map_congr_left fun p hp => ofS_toS (hb p hp).1 (hb p hp).2
    rw [e] at this; exact this
  have hlen : (d'.toList.map ofS).length = l.length := by simp [hds]
  refine ⟨he, d'.toList.map ofS, hperm, ?_, ?_, ?_⟩
  · rw [List.pairwise_iff_getElem]
    intro i j hi hj hij
    have := hs i j (Nat.zero_le _) hij (by omega)
    rw [ltS] at this
    have := of_decide_eq_false this
    have hi' : i < d'.size := by omega
    have hj' : j < d'.size := by omega
    rw [getElem!_pos _ i hi', getElem!_pos _ j hj'] at this
    simp [ofS]; omega
  · unfold sortWorldK putRowK
    rw [flat_eq, hlen]
    refine ⟨by rw [cells2_length, hlen], .inr ⟨g, cap, _, rfl, hbg, heap_putId _ hg, h1, h2, by simp [putCells, h3], ?_⟩⟩
    have := take_putId cur (cells2 (d'.toList.map ofS)) (by rw [cells2_length, hlen, h3]; omega)
    rw [cells2_length, hlen] at this
    exact this
  · unfold sortWorldK putRowK
    exact grownBy_putId _
end Go.Proofs.Ytnhohnnoffhkhaa
