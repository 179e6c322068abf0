/- Rows of triangles in memory. Conditions: as said in each. -/
import Derived.Test.YthiemglckmociaaPtTriA
import Derived.Test.YthiemglckmociaaPtCan
import Derived.Test.YthiemglckmociaaPtBtw
import Derived.Test.YthiemglckmociaaPtNormal
namespace Go.Proofs.Ythiemglckmociaa
open Go.RowKit
theorem infoPts : (Try.prog.info? 22).map (fun i => (i.zero, i.size, i.bytes)) = some (some (.slice none 0 0), 1, 24) := by kernel_rfl
/-- The slice u holds the points t, in a block of its own from base on, not in the row's. -/
structure Elem (base : Nat) (row : Option Nat) (w : World) (u : Value) (t : List (Int × Int)) : Prop where
  pairs : PairsAt w u t
  at_ : ∃ b n cap, u = .slice (some ⟨b, 0, none⟩) n cap ∧ base ≤ b ∧ b < w.heap.size ∧ row ≠ some b
/-- Row by row. -/
def Elems (base : Nat) (row : Option Nat) (w : World) : List Value → List (List (Int × Int)) → Prop
  | [], [] => True
  | u :: vs, t :: T => Elem base row w u t ∧ Elems base row w vs T
  | [], _ :: _ => False
  | _ :: _, [] => False
theorem Elems.map {base base' : Nat} {row row' : Option Nat} {w w' : World} (f : ∀ u t, Elem base row w u t → Elem base' row' w' u t) : ∀ {vs : List Value} {T : List (List (Int × Int))}, Elems base row w vs T → Elems base' row' w' vs T
  | [], [], _ => trivial
  | _ :: _, _ :: _, ⟨h, k⟩ => ⟨f _ _ h, Elems.map f k⟩
  | [], _ :: _, h => h.elim
  | _ :: _, [], h => h.elim
theorem Elems.app {base : Nat} {row : Option Nat} {w : World} : ∀ {vs us : List Value} {T U : List (List (Int × Int))}, Elems base row w vs T → Elems base row w us U → Elems base row w (vs ++ us) (T ++ U)
  | [], _, [], _, _, k => k
  | _ :: _, _, _ :: _, _, ⟨h, k⟩, k2 => ⟨h, Elems.app k k2⟩
  | [], _, _ :: _, _, h, _ => h.elim
  | _ :: _, _, [], _, h, _ => h.elim
theorem Elems.len {base : Nat} {row : Option Nat} {w : World} : ∀ {vs : List Value} {T : List (List (Int × Int))}, Elems base row w vs T → vs.length = T.length
  | [], [], _ => rfl
  | _ :: _, _ :: _, ⟨_, k⟩ => congrArg (· + 1) k.len
  | [], _ :: _, h => h.elim
  | _ :: _, [], h => h.elim
theorem Elems.get {base : Nat} {row : Option Nat} {w : World} : ∀ {vs : List Value} {T : List (List (Int × Int))}, Elems base row w vs T → ∀ {i : Nat}, i < T.length → ∃ u, vs[i]? = some u ∧ Elem base row w u (T.getD i [])
  | [], [], _, _, hi => by simp at hi
  | u :: _, t :: _, ⟨h, _⟩, 0, _ => ⟨u, rfl, h⟩
  | _ :: _, _ :: _, ⟨_, k⟩, i + 1, hi => by
    obtain ⟨u, h1, h2⟩ := k.get (i := i) (by simp at hi; omega)
    exact ⟨u, h1, by simpa using h2⟩
  | [], _ :: _, h, _, _ => h.elim
  | _ :: _, [], h, _, _ => h.elim
theorem Elems.one {base : Nat} {row : Option Nat} {w : World} : ∀ {vs : List Value} {T : List (List (Int × Int))}, Elems base row w vs T → ∀ u ∈ vs, u.oneCell' = true
  | [], [], _, _, hu => by cases hu
  | _ :: _, _ :: _, ⟨h, k⟩, u, hu => by
    rcases List.mem_cons.1 hu with e | e
    · obtain ⟨b, n, c, rfl, _⟩ := h.at_
      rw [e]; rfl
    · exact k.one u e
  | [], _ :: _, h, _, _ => h.elim
  | _ :: _, [], h, _, _ => h.elim
/-- A row of triangles that a call has made. -/
def TriRow (base : Nat) (w : World) (v : Value) (T : List (List (Int × Int))) : Prop := ∃ vs, w.ownsRow base 22 1 v T.length vs ∧ Elems base v.ownBlock w vs T
theorem PairsAt.kept {w w' : World} {row : Option Nat} {b n cap : Nat} {l : List (Int × Int)} (h : PairsAt w (.slice (some ⟨b, 0, none⟩) n cap) l) (hg : w.grownBy w' row) (hb : b < w.heap.size) (hn : row ≠ some b) : PairsAt w' (.slice (some ⟨b, 0, none⟩) n cap) l := by
  obtain ⟨a, c, he, h1, h2, h3⟩ := h
  refine ⟨a, c, he, h1, h2, fun i hi => ?_⟩
  obtain ⟨b', o, ha, hlt, c0, c1⟩ := h3 i hi
  have hb' : b' = b := by injection he with e1 e2 e3; rw [ha] at e1; injection e1 with e1; injection e1 with e1; exact e1.symm
  subst hb'
  have hk := hg.block b' hlt (fun e => hn e.symm)
  refine ⟨b', o, ha, Nat.lt_of_lt_of_le hlt hg.size, ?_, ?_⟩
  · simp only [World.cell?, hk] at c0 ⊢; exact c0
  · simp only [World.cell?, hk] at c1 ⊢; exact c1
theorem TriRow.below {base : Nat} {w w' : World} {v : Value} {T : List (List (Int × Int))} (h : TriRow base w v T) (hb : Below w.heap.size w w') : TriRow base w' v T := by
  obtain ⟨vs, h1, h2⟩ := h
  exact ⟨vs, own_below h1 hb, h2.map fun u t ⟨k1, b, n, c, e, k2, k3, k4⟩ => ⟨k1.below hb, b, n, c, e, k2, Nat.lt_of_lt_of_le k3 hb.size, k4⟩⟩
theorem TriRow.src {base : Nat} {w : World} {v : Value} {T : List (List (Int × Int))} (h : TriRow base w v T) : ∃ vs, SrcAt w v T.length 1 vs ∧ vs.length = T.length ∧ Elems base v.ownBlock w vs T := by
  obtain ⟨vs, h1, h2⟩ := h
  refine ⟨vs, ?_, h2.len, h2⟩
  refine ⟨h1.1, h2.one, ?_⟩
  rcases id h1.2 with ⟨k1, k2⟩ | ⟨g, cap, cur, hv, _⟩
  · exact .inl ⟨0, by rw [k1, k2], k2⟩
  · exact .inr ⟨_, cap, hv, h1.cells (g := g) (by rw [hv]; rfl)⟩
/-- One row behind another one. -/
theorem TriRow.join {base : Nat} {w1 w2 w3 : World} {v1 v2 v3 : Value} {T U : List (List (Int × Int))} {vs us : List Value} (h1 : Elems base v1.ownBlock w2 vs T) (h2 : Elems w1.heap.size v2.ownBlock w2 us U) (hlt : ∀ k, v1.ownBlock = some k → k < w1.heap.size) (hle : base ≤ w1.heap.size) (_ : w1.heap.size ≤ w2.heap.size)
    (ho : w3.ownsRow base 22 1 v3 (T.length + U.length) (vs ++ us)) (hg : w2.grownBy w3 v1.ownBlock) (ha : v3.ownBlock = v1.ownBlock ∨ v3.ownBlock = some w2.heap.size) : TriRow base w3 v3 (T ++ U) := by
  refine ⟨vs ++ us, by rw [List.length_append]; exact ho, Elems.app (h1.map fun u t ⟨k1, b, n, c, e, k2, k3, k4⟩ => ?_) (h2.map fun u t ⟨k1, b, n, c, e, k2, k3, k4⟩ => ?_)⟩
  · subst e
    refine ⟨k1.kept hg k3 k4, b, n, c, rfl, k2, Nat.lt_of_lt_of_le k3 hg.size, ?_⟩
    rcases ha with e | e
    · rw [e]; exact k4
    · rw [e]; intro q; injection q with q; omega
  · subst e
    have k5 : v1.ownBlock ≠ some b := fun q => by have := hlt b q; omega
    refine ⟨k1.kept hg k3 k5, b, n, c, rfl, by omega, Nat.lt_of_lt_of_le k3 hg.size, ?_⟩
    rcases ha with e | e
    · rw [e]; exact k5
    · rw [e]; intro q; injection q with q; omega
/-- One triangle. -/
theorem TriRow.single {base : Nat} {w : World} {b n cap : Nat} {t : List (Int × Int)} {g : Nat} (hp : PairsAt w (.slice (some ⟨b, 0, none⟩) n cap) t) (hb : base ≤ b) (hb2 : b < w.heap.size) (hg : g = w.heap.size) :
    TriRow base (w.alloc (.cells #[.slice (some ⟨b, 0, none⟩) n cap] 22)) (.slice (some ⟨g, 0, none⟩) 1 1) [t] := by
  subst hg
  refine ⟨[.slice (some ⟨b, 0, none⟩) n cap], ?_, ⟨⟨hp.below (by (repeat' (first | exact Below.refl _ _ | assumption | refine below_new ?_ _ | refine below_draw ?_ | refine below_tail (by assumption) ?_ | refine below_set ?_ (by first | omega | (simp <;> omega)) _))), b, n, cap, rfl, hb, by simp; omega, ?_⟩, trivial⟩⟩
  · exact World.ownsRow_lit (base := base) (e := 22) (size := 1) w #[.slice (some ⟨b, 0, none⟩) n cap] 1 (by omega) (by decide) (by simp)
  · intro q
    have q : some w.heap.size = some b := q
    injection q with q
    omega
/-- A slice of slices of points. -/
def TrisAt (w : World) (v : Value) (T : List (List (Int × Int))) : Prop := ∃ (a : Option Addr) (cap : Nat), v = .slice a T.length cap ∧ T.length ≤ cap ∧ cap ≤ 9223372036854775807 ∧ ∀ i, i < T.length → ∃ b u, a = some ⟨b, 0, none⟩ ∧ b < w.heap.size ∧ w.cell? ⟨b, i, none⟩ = some u ∧ PairsAt w u (T.getD i [])
theorem TrisAt.below {w w' : World} {v : Value} {T : List (List (Int × Int))} (h : TrisAt w v T) (hb : Below w.heap.size w w') : TrisAt w' v T := by
  obtain ⟨a, cap, hv, h1, h2, h3⟩ := h
  refine ⟨a, cap, hv, h1, h2, fun i hi => ?_⟩
  obtain ⟨b, u, ha, hlt, hc, hp⟩ := h3 i hi
  exact ⟨b, u, ha, Nat.lt_of_lt_of_le hlt hb.size, (hb.cell (p := ⟨b, i, none⟩) hlt).trans hc, hp.below hb⟩
theorem TriRow.tris {base : Nat} {w : World} {v : Value} {T : List (List (Int × Int))} (h : TriRow base w v T) : TrisAt w v T := by
  obtain ⟨vs, h1, h2⟩ := h
  rcases id h1.2 with ⟨k1, k2⟩ | ⟨g, cap, cur, hv, hg, hh, c1, c2, c3, c4⟩
  · refine ⟨none, 0, by rw [k1, k2], by omega, by omega, fun i hi => by omega⟩
  · refine ⟨_, cap, hv, c1, by unfold maxLen at c2; omega, fun i hi => ?_⟩
    obtain ⟨u, e1, e2⟩ := h2.get hi
    have hc := h1.cells (g := g) (by rw [hv]; rfl) i u e1
    rw [addr_add, Nat.zero_add] at hc
    exact ⟨g, u, rfl, (Array.getElem?_eq_some_iff.1 hh).1, hc, e2.pairs⟩
theorem far_sum {n i j : Nat} (hi : i < n) (hj : j < n) (hij : i ≠ j) : farM n i j + farM n j i = n := by unfold farM; split <;> split <;> omega
theorem IsTri.len {l : List (Int × Int)} {T : List (List (Int × Int))} (t : IsTri l T) : T.length + 2 = l.length := by
  induction t with
  | @base l h => simp [h]
  | @split l T U i j hi hj hsp _ _ iht ihu =>
    rw [btw_length] at iht ihu
    have hij : i ≠ j := fun e => by
      subst e
      have : nextTo l.length i i = true := by simp [nextTo]
      rw [splitB_no this] at hsp; cases hsp
    have := far_sum hi hj hij
    rw [List.length_append]
    omega
end Go.Proofs.Ythiemglckmociaa
/- What triangles and Triangles of package plot give: a plot split part by part, in rows of the call's own. Conditions: the list lies in memory as said. -/
namespace Go.Proofs.Ythiemglckmociaa
open Go.RowKit

theorem splits_code {l : List (Int × Int)} (hv : Valid l) (h4 : l.length ≠ 3) : ∃ i j, i < j ∧ 2 ≤ j ∧ j < l.length ∧ splitB l i j = true := by
  have h3 := hv.lo
  obtain ⟨i, j, hi, hj, hs⟩ := has_split hv (by omega)
  have hs2 := split_symm hv hi (by omega) hs
  refine ⟨j, i, hj, ?_, hi, hs2⟩
  apply Classical.byContradiction
  intro c
  have hi1 : i = 1 ∧ j = 0 := by omega
  rw [hi1.1, hi1.2, splitB_no] at hs2
  · cases hs2
  · unfold nextTo
    rw [Nat.mod_eq_of_lt (show 0 + 1 < l.length by omega)]
    simp
set_option maxHeartbeats 4000000 in
set_option maxRecDepth 100000 in
theorem triangles_step (N : Nat) (ih : ∀ (v : Value) (l : List (Int × Int)) (w : World), l.length ≤ N → PairsAt w v l → Valid l → Calls Try.prog 88 #[v] w fun e w' => ∃ v' T, e = .returned v' ∧ IsTri l T ∧ TriRow w.heap.size w' v' T ∧ Below w.heap.size w w')
    (v : Value) (l : List (Int × Int)) (w : World) (hN : l.length ≤ N + 1) (h : PairsAt w v l) (hv : Valid l) : Calls Try.prog 88 #[v] w fun e w' => ∃ v' T, e = .returned v' ∧ IsTri l T ∧ TriRow w.heap.size w' v' T ∧ Below w.heap.size w w' := by
    have IH := Lib.hid ih
    clear ih
    have HP := Lib.hid h
    have HV := Lib.hid hv
    have h3 := hv.lo
    have h10 := hv.hi
    obtain ⟨sa, cap, rfl, hlc, hcm, -⟩ := h
    by_cases hl3 : l.length = 3
    · have x0 : ((l.length : Int) == 3) = true := by rw [hl3]; rfl
      have HT := Lib.hid (IsTri.base hl3)
      have hn3 : 0 < (normF l).length := by rw [(norm_valid hv).2.2]; omega
      clear hv hl3
      go_enter Try.func88, Try.ntmps88
      go_wp2_with (go_at_call 93; refine (normal_calls _ l _ (HP.out.below (by (repeat' (first | exact Below.refl _ _ | assumption | refine below_new ?_ _ | refine below_draw ?_ | refine below_tail (by assumption) ?_ | refine below_set ?_ (by first | omega | (simp <;> omega)) _)))) HV.out).mono ?_; rintro e w1 ⟨v1, rfl, hown1, hb1⟩; obtain ⟨g, cp, rfl, hg1, hg2, hgc, hgm⟩ := own_slice0 hown1 (by omega); have HP1 := Lib.hid (own_pairs hown1); clear hown1)
      go_ret
      exact ⟨_, _, rfl, HT.out, TriRow.single HP1.out hg1 hg2 rfl, by (repeat' (first | exact Below.refl _ _ | assumption | refine below_new ?_ _ | refine below_draw ?_ | refine below_tail (by assumption) ?_ | refine below_set ?_ (by first | omega | (simp <;> omega)) _))⟩
    · have x0 : ((l.length : Int) == 3) = false := by
        have : ¬ (l.length : Int) = 3 := by omega
        simpa using this
      have HEX := Lib.hid (splits_code hv hl3)
      clear hv hl3
      go_enter Try.func88, Try.ntmps88
      go_wp2_with fail
      go_loopw [3] (fun a wr => ∃ j : Nat, 2 ≤ j ∧ j ≤ l.length ∧ a = .int .i64 j ∧ Hid (∀ q, q < j → ∀ r, r < q → splitB l r q = false ∨ q < 2) ∧ Below w.heap.size w wr) (fun a _ => l.length - (intOf a).toNat)
      case atStart => exact ⟨2, Nat.le_refl _, by omega, rfl, fun q hq r hr => .inr hq, Below.refl _ _⟩
      case round =>
        obtain ⟨j, hj2, hj, rfl, u1, hbw⟩ := hrel
        by_cases hlt : j < l.length
        · have hg : decide ((j : Int) < (l.length : Int)) = true := decide_eq_true (by omega)
          go_wp2_with fail
          go_loopw [18] (fun a wr => ∃ i : Nat, i ≤ j ∧ a = .int .i64 i ∧ Hid (∀ r, r < i → splitB l r j = false) ∧ Below w.heap.size w wr) (fun a _ => j - (intOf a).toNat)
          case atStart => exact ⟨0, Nat.zero_le _, rfl, fun r hr => absurd hr (by omega), hbw⟩
          case round =>
            obtain ⟨i, hi, rfl, u2, hbw2⟩ := hrel
            by_cases hlt2 : i < j
            · have hg2 : decide ((i : Int) < (j : Int)) = true := decide_eq_true (by omega)
              have hil : i < l.length := by omega
              obtain ⟨b, hb⟩ : ∃ b, splitB l i j = b := ⟨_, rfl⟩
              have HSB := Lib.hid hb
              clear hb
              cases b
              · go_wp2_with (go_at_call 86; (with_reducible refine (splits_is _ (HP.out.below (by (repeat' (first | exact Below.refl _ _ | assumption | refine below_new ?_ _ | refine below_draw ?_ | refine below_tail (by assumption) ?_ | refine below_set ?_ (by first | omega | (simp <;> omega)) _)))) HV.out hil hlt HSB.out).use ?_); intro w1 hb1 hz1 hc1 hf1; clear hc1 hf1)
                go_roundw
                case rel => exact ⟨i + 1, by omega, by go_num, fun r hr => (Nat.lt_succ_iff_lt_or_eq.1 hr).elim (u2.out r) (fun e => by subst e; exact HSB.out), by (repeat' (first | exact Below.refl _ _ | assumption | refine below_new ?_ _ | refine below_draw ?_ | refine below_tail (by assumption) ?_ | refine below_set ?_ (by first | omega | (simp <;> omega)) _))⟩
                case measure => simp [intOf]; omega
              · obtain ⟨m, m2, m3, hm, d, -⟩ := split_parts HV.out hil hlt HSB.out
                have e1 : farM l.length i j = m := by unfold farM; split <;> omega
                have e2 : farM l.length j i = l.length - m := by unfold farM; split <;> omega
                have L1 : (btw l i (farM l.length i j)).length ≤ N := by rw [btw_length, e1]; omega
                have L2 : (btw l j (farM l.length j i)).length ≤ N := by rw [btw_length, e2]; omega
                have M1 : (btw l i (farM l.length i j)).length ≤ 10 := by rw [btw_length, e1]; omega
                have M2 : (btw l j (farM l.length j i)).length ≤ 10 := by rw [btw_length, e2]; omega
                have hsl := split_law HV.out hil hlt HSB.out
                have V1 := Lib.hid hsl.2.2.2.1
                have V2 := Lib.hid hsl.2.2.2.2.1
                have HT : Hid (∀ T U, IsTri (btw l i (farM l.length i j)) T → IsTri (btw l j (farM l.length j i)) U → IsTri l (T ++ U)) := fun T U a b => IsTri.split i j hil hlt HSB.out a b
                clear hsl e1 e2 d hm m2 m3
                obtain ⟨p, hp⟩ : ∃ p, btw l i (farM l.length i j) = p := ⟨_, rfl⟩
                obtain ⟨q, hq⟩ : ∃ q, btw l j (farM l.length j i) = q := ⟨_, rfl⟩
                have HPE := Lib.hid hp
                have HQE := Lib.hid hq
                rw [hp] at L1 M1 V1 HT
                rw [hq] at L2 M2 V2 HT
                clear hp hq
                obtain ⟨i0, hi0, hz0, hi1, hi2⟩ := info_parts infoPts
                go_wp2_with (first
                  | (go_at_call 86; (with_reducible refine (splits_is _ (HP.out.below (by (repeat' (first | exact Below.refl _ _ | assumption | refine below_new ?_ _ | refine below_draw ?_ | refine below_tail (by assumption) ?_ | refine below_set ?_ (by first | omega | (simp <;> omega)) _)))) HV.out hil hlt HSB.out).use ?_); intro w1 hb1 hz1 hc1 hf1; clear hc1 hf1)
                  | (go_at_call 87; first
                      | ((with_reducible refine (between_calls _ l i j _ (HP.out.below (by (repeat' (first | exact Below.refl _ _ | assumption | refine below_new ?_ _ | refine below_draw ?_ | refine below_tail (by assumption) ?_ | refine below_set ?_ (by first | omega | (simp <;> omega)) _)))) hil hlt (by omega)).mono ?_); rintro e w2 ⟨v2, rfl, hown2, hb2⟩; rw [HPE.out] at hown2; have HP2 := Lib.hid (own_pairs hown2); clear hown2)
                      | ((with_reducible refine (between_calls _ l j i _ (HP.out.below (by (repeat' (first | exact Below.refl _ _ | assumption | refine below_new ?_ _ | refine below_draw ?_ | refine below_tail (by assumption) ?_ | refine below_set ?_ (by first | omega | (simp <;> omega)) _)))) hlt hil (by omega)).mono ?_); rintro e w4 ⟨v4, rfl, hown4, hb4⟩; rw [HQE.out] at hown4; have HP4 := Lib.hid (own_pairs hown4); clear hown4))
                  | (go_at_call 88; first
                      | ((with_reducible refine (IH.out v2 p _ L1 HP2.out V1.out).mono ?_); rintro e w3 ⟨v3, T, rfl, ht3, hr3, hb3⟩; have HT3 := Lib.hid ht3; have HR3 := Lib.hid hr3; clear ht3 hr3)
                      | ((with_reducible refine (IH.out v4 q _ L2 HP4.out V2.out).mono ?_); rintro e w5 ⟨v5, U, rfl, ht5, hr5, hb5⟩; have HT5 := Lib.hid ht5; have HR5 := Lib.hid hr5; clear ht5 hr5; have hB35 : Hid (Below w3.heap.size w3 w5) := (by unfold Hid; exact (hb4.trans (hb5.mono hb4.size))); have hBB : Hid (Below w.heap.size w w5) := (by unfold Hid; (repeat' (first | exact Below.refl _ _ | assumption | refine below_new ?_ _ | refine below_draw ?_ | refine below_tail (by assumption) ?_ | refine below_set ?_ (by first | omega | (simp <;> omega)) _))); have hlT := HT3.out.len; have hlU := HT5.out.len; obtain ⟨vs, ho3, he3⟩ := HR3.out.below hB35.out; obtain ⟨us, hsrc, hul, he5⟩ := HR5.out.src; have hw2 : w.heap.size ≤ w2.heap.size := (by have := (show Below w.heap.size w w2 by (repeat' (first | exact Below.refl _ _ | assumption | refine below_new ?_ _ | refine below_draw ?_ | refine below_tail (by assumption) ?_ | refine below_set ?_ (by first | omega | (simp <;> omega)) _))).size; exact this); have hw23 := hb3.size; have hw34 := hb4.size; have hw45 := hb5.size; have HE3 := Lib.hid he3; have HE5 := Lib.hid he5; have HO3 := Lib.hid ho3; have HSR := Lib.hid hsrc; clear he3 he5 ho3 hsrc))
                  | (at_builtin; refine wpList_append_any rfl _ _ 43 rfl w2.heap.size 22 i0 (.slice none 0 0) 1 24 Try.underlying43 hi0 hz0 hi1 hi2 rfl (by decide) v3 T.length vs rfl HO3.out v5 U.length us rfl HSR.out (by unfold maxLen; omega) (by omega) (by omega) ?_; intro v6 w6 hown6 hgrow6 hat6; have HR6 : Hid (TriRow w2.heap.size w6 v6 (T ++ U)) := TriRow.join (w1 := w4) (w2 := w5) HE3.out (HE5.out) (fun k hk => by have := (HR3.out.choose_spec.1.lt k hk).2; omega) (by omega) (by omega) hown6 hgrow6 hat6; have HB6 : Hid (Below w.heap.size w w6) := below_grow hBB.out hgrow6 (fun k hk => by have := (HO3.out.lt k hk).1; omega); clear hown6 hgrow6 hat6))
                go_ret
                refine ⟨_, _, rfl, HT.out _ _ HT3.out HT5.out, ?_, HB6.out⟩
                obtain ⟨xs, y1, y2⟩ := HR6.out
                exact ⟨xs, own_base y1 hw2, y2.map fun u t ⟨k1, b, n, c, e, k2, k3, k4⟩ => ⟨k1, b, n, c, e, Nat.le_trans hw2 k2, k3, k4⟩⟩
            · have hg2 : decide ((i : Int) < (j : Int)) = false := decide_eq_false (by omega)
              obtain rfl : i = j := by omega
              go_wp2_with fail
              go_roundw
              case rel => exact ⟨i + 1, by omega, by omega, by go_num, fun q hq r hr => (Nat.lt_succ_iff_lt_or_eq.1 hq).elim (fun c => u1.out q c r hr) (fun e => by subst e; exact .inl (u2.out r hr)), hbw2⟩
              case measure => simp [intOf]; omega
        · exfalso
          obtain ⟨i', j', c1, c2, c3, c4⟩ := HEX.out
          rcases u1.out j' (by omega) i' c1 with e | e
          · rw [e] at c4; cases c4
          · omega
theorem triangles_calls : ∀ (N : Nat) (v : Value) (l : List (Int × Int)) (w : World), l.length ≤ N → PairsAt w v l → Valid l → Calls Try.prog 88 #[v] w fun e w' => ∃ v' T, e = .returned v' ∧ IsTri l T ∧ TriRow w.heap.size w' v' T ∧ Below w.heap.size w w' := by
  intro N
  induction N with
  | zero => intro v l w hN _ hv; have := hv.lo; omega
  | succ N ih => exact triangles_step N ih
theorem Triangles_err {l : List (Int × Int)} : (validF l ≠ 0 → triE l = validF l) ∧ (validF l = 0 → colB l = true → triE l = 8) ∧ (validF l = 0 → colB l = false → triE l = 0) := by
  refine ⟨fun h => ?_, fun h k => ?_, fun h k => ?_⟩ <;> unfold triE
  · rw [if_neg h]
  · rw [if_pos h, if_pos k]
  · rw [if_pos h, if_neg (by rw [k]; decide)]
/-- Triangles of a plot, or an error and none. -/
def GivesTris (w : World) (l : List (Int × Int)) (args : Array Value) : Prop := Calls Try.prog 37 args w fun e w' => ∃ v T, e = .returned (.tuple #[v, .int .i64 (triE l)]) ∧ (triE l = 0 → IsTri l T) ∧ (triE l ≠ 0 → T = []) ∧ TriRow w.heap.size w' v T ∧ Below w.heap.size w w'
theorem TriRow.none (base : Nat) (w : World) : TriRow base w (.slice none 0 0) [] := ⟨[], World.ownsRow_nil _ _ _ _, trivial⟩
set_option maxHeartbeats 4000000 in
set_option maxRecDepth 100000 in
theorem Triangles_calls (v : Value) (l : List (Int × Int)) (w : World) (h : PairsAt w v l) : GivesTris w l #[v] := by
  have HP := Lib.hid h
  obtain ⟨sa, cap, rfl, hlc, hcm, -⟩ := h
  obtain ⟨t1, t2, t3⟩ := Triangles_err (l := l)
  obtain ⟨e, he⟩ : ∃ e, validF l = e := ⟨_, rfl⟩
  have HE := Lib.hid he
  rw [he] at t1 t2 t3
  clear he
  unfold GivesTris
  by_cases hz : e = 0
  · subst hz
    have hv := valid_iff.1 HE.out
    have h3 := hv.lo
    have h10 := hv.hi
    have HV := Lib.hid hv
    have HT2 := Lib.hid (t2 rfl)
    have HT3 := Lib.hid (t3 rfl)
    obtain ⟨b, o, rfl, hB, _, _⟩ := HP.out.cellAt (show 0 < l.length by omega)
    clear hv t1 t2 t3
    go_enter Try.func37, Try.ntmps37
    go_wp2_with (go_at_call 27; (with_reducible refine (validate_is _ (HP.out.below (by (repeat' (first | exact Below.refl _ _ | assumption | refine below_new ?_ _ | refine below_draw ?_ | refine below_tail (by assumption) ?_ | refine below_set ?_ (by first | omega | (simp <;> omega)) _)))) HE.out).use ?_); intro w1 hb1 hz1 hc1 hf1; clear hc1 hf1)
    go_loopw [15] (fun a wr => ∃ k : Nat, k ≤ l.length ∧ a = .int .i64 k ∧ Hid (∀ q, q < k → anyN (fun r => anyN (col3 l q r) r) q = false) ∧ Below w.heap.size w wr) (fun a _ => l.length - (intOf a).toNat)
    case atStart => exact ⟨0, Nat.zero_le _, rfl, fun q hq => absurd hq (by omega), by (repeat' (first | exact Below.refl _ _ | assumption | refine below_new ?_ _ | refine below_draw ?_ | refine below_tail (by assumption) ?_ | refine below_set ?_ (by first | omega | (simp <;> omega)) _))⟩
    case round =>
      obtain ⟨k, hk, rfl, h1, hbw⟩ := hrel
      by_cases hlt : k < l.length
      · have hg : decide ((k : Int) < (l.length : Int)) = true := decide_eq_true (by omega)
        have HK := Lib.hid hbw
        go_wp2_with fail
        go_loopw [19] (fun a wr2 => ∃ r : Nat, r ≤ k ∧ a = .int .i64 r ∧ Hid (∀ q, q < r → anyN (col3 l k q) q = false) ∧ Below w.heap.size w wr2) (fun a _ => k - (intOf a).toNat)
        case atStart => exact ⟨0, Nat.zero_le _, rfl, fun q hq => absurd hq (by omega), hbw⟩
        case round =>
          obtain ⟨r, hr, rfl, h2, hbw2⟩ := hrel
          by_cases hlt2 : r < k
          · have hg2 : decide ((r : Int) < (k : Int)) = true := decide_eq_true (by omega)
            go_wp2_with fail
            go_loopw [23] (fun a wr3 => ∃ m : Nat, m ≤ r ∧ a = .int .i64 m ∧ Hid (∀ q, q < m → col3 l k r q = false) ∧ Below w.heap.size w wr3) (fun a _ => r - (intOf a).toNat)
            case atStart => exact ⟨0, Nat.zero_le _, rfl, fun q hq => absurd hq (by omega), hbw2⟩
            case round =>
              obtain ⟨m, hm, rfl, h4, hbw3⟩ := hrel
              by_cases hlt3 : m < r
              · have hg3 : decide ((m : Int) < (r : Int)) = true := decide_eq_true (by omega)
                obtain ⟨b1, o1, e1, _, a0, a1⟩ := HP.out.cellB hbw3 hlt
                cases e1
                obtain ⟨b1, o1, e1, _, a2, a3⟩ := HP.out.cellB hbw3 (show r < l.length by omega)
                cases e1
                obtain ⟨b1, o1, e1, _, a4, a5⟩ := HP.out.cellB hbw3 (show m < l.length by omega)
                cases e1
                have q0 := fun d os => cell_regrown a0 d os
                have q1 := fun d os => cell_regrown a1 d os
                have q2 := fun d os => cell_regrown a2 d os
                have q3 := fun d os => cell_regrown a3 d os
                have q4 := fun d os => cell_regrown a4 d os
                have q5 := fun d os => cell_regrown a5 d os
                have hi1 : (r : Int) < (l.length : Int) := by omega
                have hi2 : (m : Int) < (l.length : Int) := by omega
                have HA := gi_bd HV.out hlt
                have HB := gi_bd HV.out (show r < l.length by omega)
                have HC := gi_bd HV.out (show m < l.length by omega)
                obtain ⟨t, ht⟩ : ∃ t, turn (gi l (0, 0) k) (gi l (0, 0) r) (gi l (0, 0) m) = t := ⟨_, rfl⟩
                have HTT := Lib.hid ht
                clear ht a0 a1 a2 a3 a4 a5
                cases hd : (t == 0)
                · have HD : Hid (col3 l k r m = false) := by unfold Hid col3; rw [HTT.out]; exact hd
                  go_wp2_with fail
                  refine region_q mixed (by kernel_rfl) ?_
                  repeat (go_big_quiet_step ((go_at_call 66; exact Calls.regrown_of (turn_is _ HA HB HC HTT.out))))
                  refine wpQuiet_nil ?_
                  intro wq hbq
                  clear q0 q1 q2 q3 q4 q5
                  go_wp2_with fail
                  go_roundw
                  case rel => exact ⟨m + 1, by omega, by go_num, fun q hq => (Nat.lt_succ_iff_lt_or_eq.1 hq).elim (h4.out q) (fun e => by subst e; exact HD.out), by (repeat' (first | exact Below.refl _ _ | assumption | refine below_new ?_ _ | refine below_draw ?_ | refine below_tail (by assumption) ?_ | refine below_set ?_ (by first | omega | (simp <;> omega)) _))⟩
                  case measure => simp [intOf]; omega
                · have HD : Hid (triE l = 8) := HT2.out (anyN_true hlt (anyN_true hlt2 (anyN_true hlt3 (by unfold col3; rw [HTT.out]; exact hd))))
                  go_wp2_with fail
                  refine region_q mixed (by kernel_rfl) ?_
                  repeat (go_big_quiet_step ((go_at_call 66; exact Calls.regrown_of (turn_is _ HA HB HC HTT.out))))
                  refine wpQuiet_nil ?_
                  intro wq hbq
                  clear q0 q1 q2 q3 q4 q5
                  go_wp2_with fail
                  refine bodyPost_ret (v := .tuple #[.slice none 0 0, .int .i64 8]) (by simp [results, Try.f37, go_sem]) rfl ?_
                  exact ⟨_, [], by rw [HD.out], fun c => (by rw [HD.out] at c; cases c), fun _ => rfl, TriRow.none _ _, by (repeat' (first | exact Below.refl _ _ | assumption | refine below_new ?_ _ | refine below_draw ?_ | refine below_tail (by assumption) ?_ | refine below_set ?_ (by first | omega | (simp <;> omega)) _))⟩
              · have hg3 : decide ((m : Int) < (r : Int)) = false := decide_eq_false (by omega)
                obtain rfl : m = r := by omega
                have HD := Lib.hid (anyN_false h4.out)
                go_wp2_with fail
                go_roundw
                case rel => exact ⟨m + 1, by omega, by go_num, fun q hq => (Nat.lt_succ_iff_lt_or_eq.1 hq).elim (h2.out q) (fun e => by subst e; exact HD.out), hbw3⟩
                case measure => simp [intOf]; omega
          · have hg2 : decide ((r : Int) < (k : Int)) = false := decide_eq_false (by omega)
            obtain rfl : r = k := by omega
            have HD := Lib.hid (anyN_false h2.out)
            go_wp2_with fail
            go_roundw
            case rel => exact ⟨r + 1, by omega, by go_num, fun q hq => (Nat.lt_succ_iff_lt_or_eq.1 hq).elim (h1.out q) (fun e => by subst e; exact HD.out), hbw2⟩
            case measure => simp [intOf]; omega
      · have hg : decide ((k : Int) < (l.length : Int)) = false := decide_eq_false (by omega)
        obtain rfl : k = l.length := by omega
        have HD : Hid (triE l = 0) := HT3.out (anyN_false h1.out)
        go_wp2_with (go_at_call 88; refine (triangles_calls l.length _ l _ (Nat.le_refl _) (HP.out.below (by (repeat' (first | exact Below.refl _ _ | assumption | refine below_new ?_ _ | refine below_draw ?_ | refine below_tail (by assumption) ?_ | refine below_set ?_ (by first | omega | (simp <;> omega)) _)))) HV.out).mono ?_; rintro e w2 ⟨v2, T, rfl, ht2, hr2, hb2⟩; have HTT := Lib.hid ht2; have HRR := Lib.hid hr2; clear ht2 hr2)
        refine bodyPost_ret (v := .tuple #[v2, .int .i64 0]) (by simp [results, Try.f37, go_sem]) rfl ?_
        obtain ⟨xs, y1, y2⟩ := HRR.out
        exact ⟨_, T, by rw [HD.out], fun _ => HTT.out, fun c => absurd HD.out c, ⟨xs, own_base y1 hbw.size, y2.map fun u t ⟨k1, b, n, c, e, k2, k3, k4⟩ => ⟨k1, b, n, c, e, Nat.le_trans hbw.size k2, k3, k4⟩⟩, by (repeat' (first | exact Below.refl _ _ | assumption | refine below_new ?_ _ | refine below_draw ?_ | refine below_tail (by assumption) ?_ | refine below_set ?_ (by first | omega | (simp <;> omega)) _))⟩
  · have h1 : (e == 0) = false := by simpa using hz
    have h2 : (e != 0) = true := by simpa using hz
    have HD := Lib.hid (t1 hz)
    have HZ := Lib.hid hz
    clear hz t1 t2 t3
    go_enter Try.func37, Try.ntmps37
    go_wp2_with (go_at_call 27; (with_reducible refine (validate_is _ (HP.out.below (by (repeat' (first | exact Below.refl _ _ | assumption | refine below_new ?_ _ | refine below_draw ?_ | refine below_tail (by assumption) ?_ | refine below_set ?_ (by first | omega | (simp <;> omega)) _)))) HE.out).use ?_); intro w1 hb1 hz1 hc1 hf1; clear hc1 hf1)
    refine bodyPost_ret (v := .tuple #[.slice none 0 0, .int .i64 e]) (by simp [results, Try.f37, go_sem]) rfl ?_
    exact ⟨_, [], by rw [HD.out], fun c => absurd (HD.out.symm.trans c) HZ.out, fun _ => rfl, TriRow.none _ _, by (repeat' (first | exact Below.refl _ _ | assumption | refine below_new ?_ _ | refine below_draw ?_ | refine below_tail (by assumption) ?_ | refine below_set ?_ (by first | omega | (simp <;> omega)) _))⟩
end Go.Proofs.Ythiemglckmociaa
