/- What changing all corners of a plot gives. Conditions: the list lies in memory as said; the change of a single point is known. -/
import Derived.Test.YthiemglckmociaaPtLowA
import Derived.Test.YthiemglckmociaaPtKnown
import Derived.Test.YthiemglckmociaaKit
namespace Go.Proofs.Ythiemglckmociaa
open Go.RowKit

/-- The call gives a list of points of its own and an error. -/
def GivesPts (P : Program) (f : FuncId) (args : Array Value) (w : World) (l : List (Int × Int)) (err : Int) : Prop :=
  Calls P f args w fun e w' => ∃ v, e = .returned (.tuple #[v, .int .i64 err]) ∧ w'.ownsRow w.heap.size 32 2 v l.length (cells2 l) ∧ Below w.heap.size w w'
theorem GivesPts.use {P : Program} {f : FuncId} {args : Array Value} {w : World} {l : List (Int × Int)} {err : Int} {R : Ending → World → Prop} (h : GivesPts P f args w l err)
    (k : ∀ a cap w1, Below w.heap.size w w1 → w.heap.size ≤ w1.heap.size → (∀ b o, b < w.heap.size → w1.cell? ⟨b, o, none⟩ = w.cell? ⟨b, o, none⟩) →
      (∀ b o, b < w.heap.size → w1.frozen? ⟨b, o, none⟩ = w.frozen? ⟨b, o, none⟩) → Hid (w1.ownsRow w.heap.size 32 2 (.slice a l.length cap) l.length (cells2 l)) → R (.returned (.tuple #[.slice a l.length cap, .int .i64 err])) w1) : Calls P f args w R :=
  h.mono fun _ w1 ⟨v, he, hi, hb⟩ => by
    obtain ⟨a, cap, rfl⟩ := own_slice hi
    exact he ▸ k a cap w1 hb hb.size (fun b o h => hb.cell (p := ⟨b, o, none⟩) h) (fun b o h => hb.frozen (p := ⟨b, o, none⟩) h) hi
theorem infoPoint : (Try.prog.info? 32).map (fun i => (i.zero, i.size, i.bytes)) = some (some (.agg #[.int .i64 0, .int .i64 0]), 2, 16) := by kernel_rfl
/-- The first k corners, changed. -/
def mapK (g : Int × Int → Int × Int) (l : List (Int × Int)) (k : Nat) : List (Int × Int) := (List.range k).map fun i => g (gi l (0, 0) i)
theorem mapK_succ (g : Int × Int → Int × Int) (l : List (Int × Int)) (k : Nat) : mapK g l (k + 1) = mapK g l k ++ [g (gi l (0, 0) k)] := by
  unfold mapK; rw [List.range_succ, List.map_append]; rfl
theorem mapK_length (g : Int × Int → Int × Int) (l : List (Int × Int)) (k : Nat) : (mapK g l k).length = k := by simp [mapK]
theorem mapK_all (g : Int × Int → Int × Int) (l : List (Int × Int)) : mapK g l l.length = l.map g := by
  refine List.ext_getElem (by simp [mapK]) fun i h1 h2 => ?_
  have h3 : i < l.length := by rw [mapK_length] at h1; exact h1
  simp [mapK, gi_lt h3]
def chL (g : Int × Int → Int × Int) (l : List (Int × Int)) : List (Int × Int) := if validF l = 0 then (if rangedB (l.map g) = true then l.map g else []) else []
def chE (g : Int × Int → Int × Int) (l : List (Int × Int)) : Int := if validF l = 0 then (if rangedB (l.map g) = true then 0 else 1) else validF l
theorem ranged_no {g : Int × Int → Int × Int} {l : List (Int × Int)} {k : Nat} (hk : k < l.length) (h : inR (g (gi l (0, 0) k)) = false) : rangedB (l.map g) = false := by
  cases c : rangedB (l.map g)
  · rfl
  · have := List.all_eq_true.1 c (g (gi l (0, 0) k)) (List.mem_map.2 ⟨_, by rw [gi_lt hk]; exact List.getElem_mem _, rfl⟩)
    rw [h] at this; cases this
theorem ranged_all {g : Int × Int → Int × Int} {l : List (Int × Int)} (h : ∀ i, i < l.length → inR (g (gi l (0, 0) i)) = true) : rangedB (l.map g) = true := by
  refine List.all_eq_true.2 fun x hx => ?_
  obtain ⟨y, hy, rfl⟩ := List.mem_map.1 hx
  obtain ⟨i, hi, rfl⟩ := List.getElem_of_mem hy
  have := h i hi
  rwa [gi_lt hi] at this
theorem own_more2 {w : World} {base e : Nat} {v : Value} {l : List (Int × Int)} {x : Int × Int} {n : Nat} (h : w.ownsRow base e 2 v n (cells2 l ++ cells2 [x])) (hn : n = l.length + 1) : w.ownsRow base e 2 v (l ++ [x]).length (cells2 (l ++ [x])) := by
  rw [cells2_append, List.length_append, List.length_singleton, ← hn]; exact h
theorem own_below {w w' : World} {base e size n : Nat} {v : Value} {xs : List Value} (h : w.ownsRow base e size v n xs) (hb : Below w.heap.size w w') : w'.ownsRow base e size v n xs := by
  obtain ⟨hl, h | ⟨g, cap, cur, hv, hg, hh, hr⟩⟩ := h
  · exact ⟨hl, .inl h⟩
  · refine ⟨hl, .inr ⟨g, cap, cur, hv, hg, ?_, hr⟩⟩
    rw [hb.block g (Array.getElem?_eq_some_iff.1 hh).1]; exact hh
theorem own_block_le2 {w : World} {base e size n : Nat} {v : Value} {xs : List Value} (h : w.ownsRow base e size v n xs) : ∀ k, v.ownBlock = some k → base ≤ k := fun k hk => (h.lt k hk).1
/-- The one point that is appended lies in a block of its own. -/
theorem app_src2 (w : World) (x : Int × Int) (t : TypeId) : ∀ j u, (cells2 [x])[j]? = some u → (w.alloc (.cells #[.int .i64 x.1, .int .i64 x.2] t)).cell? ((⟨w.heap.size, 0, none⟩ : Addr).add j) = some u := by
  intro j u hj
  match j, hj with
  | 0, hj => simp [cells2] at hj; subst hj; simp [Addr.add]
  | 1, hj => simp [cells2] at hj; subst hj; simp [Addr.add]
set_option maxHeartbeats 1000000 in
theorem changed_calls (v : Value) (l : List (Int × Int)) (g : Int × Int → Int × Int) (F : Nat) (capt : Array Value) (w : World) (h : PairsAt w v l)
    (eg : ∀ args w, (callFunc F args).run Try.prog w = .ok (.enter F args) w)
    (hp : ∀ i w', i < l.length → Valid l → Below w.heap.size w w' → Gives Try.prog F (#[.agg #[.int .i64 (gi l (0, 0) i).1, .int .i64 (gi l (0, 0) i).2]] ++ capt) w' (.agg #[.int .i64 (g (gi l (0, 0) i)).1, .int .i64 (g (gi l (0, 0) i)).2])) :
    GivesPts Try.prog 74 #[v, .func (.func F) #[] capt] w (chL g l) (chE g l) := by
  have HP := Lib.hid h
  have HG := Lib.hid hp
  clear hp
  obtain ⟨sa, cap, rfl, hlc, hcm, _⟩ := h
  have HL : Hid (chL g l = if validF l = 0 then (if rangedB (l.map g) = true then l.map g else []) else []) := rfl
  have HQ : Hid (chE g l = if validF l = 0 then (if rangedB (l.map g) = true then 0 else 1) else validF l) := rfl
  unfold GivesPts
  obtain ⟨e, he⟩ : ∃ e, validF l = e := ⟨_, rfl⟩
  have HE := Lib.hid he
  clear he
  by_cases hz : e = 0
  · have HZ := Lib.hid (HE.out.trans hz)
    have HV := Lib.hid (valid_iff.1 HZ.out)
    have hhi := HV.out.hi
    have x0 : (e != 0) = false := by simpa using hz
    obtain ⟨i0, hi0, hz0, hi1, hi2⟩ := info_parts infoPoint
    clear hz
    go_enter Try.func74, Try.ntmps74
    go_wp2_with (go_at_call 27; (with_reducible refine (validate_is _ (HP.out.below (by (repeat' (first | exact Below.refl _ _ | assumption | refine below_new ?_ _ | refine below_draw ?_ | refine below_tail (by assumption) ?_ | refine below_set ?_ (by first | omega | (simp <;> omega)) _)))) HE.out).use ?_); intro w1 hb1 hz1 hc1 hf1; clear hc1 hf1)
    go_loopw [7, 18] (fun vv kk wr => ∃ k : Nat, k ≤ l.length ∧ kk = .int .i64 k ∧ wr.ownsRow w.heap.size 32 2 vv (mapK g l k).length (cells2 (mapK g l k)) ∧ Hid (∀ i, i < k → inR (g (gi l (0, 0) i)) = true) ∧ Below w.heap.size w wr) (fun _ kk _ => l.length - (intOf kk).toNat)
    case atStart => exact ⟨0, Nat.zero_le _, rfl, World.ownsRow_nil _ _ _ _, fun i hi => absurd hi (by omega), hb1⟩
    case round =>
      obtain ⟨k, hk, rfl, hown, HA, hbw⟩ := hrel
      by_cases hlt : k < l.length
      · have hg : decide ((k : Int) < (l.length : Int)) = true := by simpa using hlt
        obtain ⟨sa', sc', e1, _, _, hcell0⟩ := HP.out.below hbw
        simp only [Value.slice.injEq] at e1
        obtain ⟨rfl, _, rfl⟩ := e1
        obtain ⟨b, o, rfl, hB, hcell, hdell⟩ := hcell0 k hlt
        clear hcell0
        have HW := fun w' hb => Lib.hid (HG.out k w' hlt HV.out hb)
        obtain ⟨ya, hya⟩ : ∃ y, (g (gi l (0, 0) k)).1 = y := ⟨_, rfl⟩
        obtain ⟨yb, hyb⟩ : ∃ y, (g (gi l (0, 0) k)).2 = y := ⟨_, rfl⟩
        have hy : g (gi l (0, 0) k) = (ya, yb) := Prod.ext hya hyb
        rw [hya, hyb] at HW
        have HY := Lib.hid hy
        clear hya hyb hy
        cases ht : withinL 30 [ya, yb]
        · have HT := Lib.hid ht
          have hno : rangedB (l.map g) = false := ranged_no hlt (by rw [HY.out]; exact ht)
          have HN := Lib.hid hno
          clear ht hno
          go_wp2_with (first | (go_at_call 64; refine (within_is (l := [ya, yb]) _ (ints2 (by simp)) (by decide) (by decide) HT.out).use ?_; intro w3 hb3 hz3 hc3 hf3; clear hc3 hf3) | (refine (HW _ (by (repeat' (first | exact Below.refl _ _ | assumption | refine below_new ?_ _ | refine below_draw ?_ | refine below_tail (by assumption) ?_ | refine below_set ?_ (by first | omega | (simp <;> omega)) _)))).out.use ?_; intro w2 hb2 hz2 hc2 hf2; clear hc2 hf2))
          go_ret2
          exact ⟨_, by rw [HQ.out, if_pos HZ.out, if_neg (by rw [HN.out]; decide)]; rfl, by rw [HL.out, if_pos HZ.out, if_neg (by rw [HN.out]; decide)]; exact World.ownsRow_nil _ _ _ _, by (repeat' (first | exact Below.refl _ _ | assumption | refine below_new ?_ _ | refine below_draw ?_ | refine below_tail (by assumption) ?_ | refine below_set ?_ (by first | omega | (simp <;> omega)) _))⟩
        · have HT := Lib.hid ht
          have HI := Lib.hid (show inR (g (gi l (0, 0) k)) = true by rw [HY.out]; exact ht)
          clear ht
          have hml := mapK_length g l k
          go_wp2_with (first | (go_at_call 64; refine (within_is (l := [ya, yb]) _ (ints2 (by simp)) (by decide) (by decide) HT.out).use ?_; intro w3 hb3 hz3 hc3 hf3; have hx3 := fun o => hc3 w2.heap.size o (by first | omega | (simp <;> omega)); have hb3w : Below wr.heap.size wr w3 := (by (repeat' (first | exact Below.refl _ _ | assumption | refine below_new ?_ _ | refine below_draw ?_ | refine below_tail (by assumption) ?_ | refine below_set ?_ (by first | omega | (simp <;> omega)) _))); have hown3 := own_below hown hb3w; have hbw3 := below_tail hb3w hbw; clear hc3 hf3) | (at_builtin; refine wpList_append_own _ rfl _ _ 22 rfl w.heap.size 32 i0 (.agg #[.int .i64 0, .int .i64 0]) 2 16 Try.underlying22 hi0 hz0 hi1 hi2 rfl (by decide) _ _ _ rfl (hown3.alloc _) ⟨w3.heap.size, 0, none⟩ 1 1 (cells2 [(ya, yb)]) rfl rfl (app_src2 _ _ _) (cells2_one _) (by unfold maxLen; omega) (by omega) (by have := hbw3.size; simp; omega) ?_; intro v' w4 hown4 hgrow _) | (refine (HW _ (by (repeat' (first | exact Below.refl _ _ | assumption | refine below_new ?_ _ | refine below_draw ?_ | refine below_tail (by assumption) ?_ | refine below_set ?_ (by first | omega | (simp <;> omega)) _)))).out.use ?_; intro w2 hb2 hz2 hc2 hf2; clear hc2 hf2))
          have hb4 := (hbw3.alloc hbw3.size _).grown hgrow (by have := hbw3.size; simp; omega) (own_block_le2 hown3)
          go_roundw
          case rel => exact ⟨k + 1, by omega, by go_num, by rw [mapK_succ, HY.out]; exact own_more2 hown4 rfl, fun i hi => by
            rcases Nat.lt_or_ge i k with c | c
            · exact HA i c
            · rw [show i = k by omega]; exact HI.out, hb4⟩
          case measure => simp [intOf]; omega
      · have hg : decide ((k : Int) < (l.length : Int)) = false := by simpa using hlt
        obtain rfl : k = l.length := by omega
        have HR := Lib.hid (ranged_all HA)
        go_wp2
        go_ret2
        exact ⟨_, by rw [HQ.out, if_pos HZ.out, if_pos HR.out]; rfl, by rw [HL.out, if_pos HZ.out, if_pos HR.out, ← mapK_all]; exact hown, hbw⟩
  · have h1 : (e == 0) = false := by simpa using hz
    have h2 : (e != 0) = true := by simpa using hz
    have HZ := Lib.hid hz
    clear hz
    go_enter Try.func74, Try.ntmps74
    go_wp2_with (go_at_call 27; (with_reducible refine (validate_is _ (HP.out.below (by (repeat' (first | exact Below.refl _ _ | assumption | refine below_new ?_ _ | refine below_draw ?_ | refine below_tail (by assumption) ?_ | refine below_set ?_ (by first | omega | (simp <;> omega)) _)))) HE.out).use ?_); intro w1 hb1 hz1 hc1 hf1; clear hc1 hf1)
    go_ret2
    exact ⟨_, by rw [HQ.out, if_neg (by rw [HE.out]; exact HZ.out), HE.out]; rfl, by rw [HL.out, if_neg (by rw [HE.out]; exact HZ.out)]; exact World.ownsRow_nil _ _ _ _, by (repeat' (first | exact Below.refl _ _ | assumption | refine below_new ?_ _ | refine below_draw ?_ | refine below_tail (by assumption) ?_ | refine below_set ?_ (by first | omega | (simp <;> omega)) _))⟩
end Go.Proofs.Ythiemglckmociaa
