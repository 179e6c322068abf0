/- An office and a row of texts beside it: what each call keeps of the other. Conditions: as said. -/
import Derived.Test.YthooacpfmjpdmaaGreatDoorOTell
namespace Go.Proofs.YthooacpfmjpdmaaGreatDoor
open Go.RowKit
/-- An office (its orders at ov) and a row of texts that lies in no block of the office. -/
structure Beside (m base : Nat) (w : World) (B n : Nat) (x : Off) (ov v : Value) (l : List ByteArray) : Prop where
  off : OffIn m w B n x ov
  made : Made n x
  row : w.ownsRow base 9 1 v l.length (cellsS l)
  nB : v.ownBlock ≠ some B
  nO : ∀ b, v.ownBlock = some b → ov.ownBlock ≠ some b
theorem own_lt {w : World} {base e size n : Nat} {v : Value} {xs : List Value} {b : Nat} (h : w.ownsRow base e size v n xs) (hb : v.ownBlock = some b) : b < w.heap.size := by
  obtain ⟨cs, hc⟩ := own_ty h hb
  exact (Array.getElem?_eq_some_iff.1 hc).1
/-- An order leaves the row as it lies. -/
theorem Beside.step {m base : Nat} {w : World} {B n : Nat} {x : Off} {ov v : Value} {l : List ByteArray} (o : ByteArray) (h : Beside m base w B n x ov v l) (hm : 9 ≤ m) (he : Base w) :
    Calls Tryz.prog 21 #[.pointer (some ⟨B, 0, none⟩), .string o] w fun e w' => e = .returned (.int .i64 (stepE x o)) ∧ (∃ ov', Beside m base w' B n (stepO x o) ov' v l) ∧ Below m w w' := by
  refine (Do_calls m w B n x ov o h.off h.made hm he.env).mono fun e w' hd => ?_
  obtain ⟨he1, hon, ov', ho', hnew⟩ := id hd
  refine ⟨he1, ⟨ov', { off := ho', made := h.made.step o, row := own_same h.row (fun b hb => hon.block b (own_lt h.row hb) (fun e => h.nB (e ▸ hb)) (h.nO b hb)), nB := h.nB, nO := fun b hb e => ?_ }⟩, DoO.below h.off hd⟩
  rcases hnew b e with h1 | h1
  · exact h.nO b hb h1
  · have := own_lt h.row hb; omega
/-- What changes the row alone, or lays new blocks, leaves the office. -/
theorem OffIn.grown {m base size n0 : Nat} {w w' : World} {B n : Nat} {x : Off} {ov v : Value} {xs : List Value} (h : OffIn m w B n x ov) (hr : w.ownsRow base 9 size v n0 xs) (hB : v.ownBlock ≠ some B) (hO : ∀ b, v.ownBlock = some b → ov.ownBlock ≠ some b) (hg : w.grownBy w' v.ownBlock) : OffIn m w' B n x ov := by
  obtain ⟨fv, sv, g1, c1, g2, c2, g3, c3, hat⟩ := h
  have same : ∀ b, b < w.heap.size → v.ownBlock ≠ some b → w'.heap[b]? = w.heap[b]? := fun b hb hn => hg.block b hb hn.symm
  have other : ∀ {b : Nat} {cs : Array Value} {t : TypeId} {f : Nat × Nat}, w.heap[b]? = some (.cells cs t f) → t ≠ 9 → w'.heap[b]? = w.heap[b]? := by
    intro b cs t f hb ht
    refine same b (Array.getElem?_eq_some_iff.1 hb).1 (fun e => ?_)
    obtain ⟨ds, hd⟩ := own_ty hr e
    exact ty_ne hb hd ht rfl
  obtain ⟨q1, hq1⟩ := hat.st.r1.ty
  obtain ⟨q2, hq2⟩ := hat.st.r2.ty
  obtain ⟨q3, hq3⟩ := hat.st.r3.ty
  refine ⟨fv, sv, g1, c1, g2, c2, g3, c3, { box := (same B hat.lt hB).trans hat.box, st := hat.st.same (other hq1 (by decide)) (other hq2 (by decide)) (other hq3 (by decide)), fr := own_same hat.fr (fun b hb => ?_), sp := own_same hat.sp (fun b hb => ?_), od := own_same hat.od (fun b hb => ?_), mB := hat.mB }⟩
  · obtain ⟨ds, hd⟩ := own_ty hat.fr hb
    exact other hd (by decide)
  · obtain ⟨ds, hd⟩ := own_ty hat.sp hb
    exact other hd (by decide)
  · exact same b (own_lt hat.od hb) (fun e => hO b e hb)
/-- One more text in the row. -/
theorem Beside.more {m base : Nat} {w w' : World} {B n : Nat} {x : Off} {ov v v' : Value} {l : List ByteArray} (o : ByteArray) (h : Beside m base w B n x ov v l) (hb : B < base) (hrow : w'.ownsRow base 9 1 v' (l ++ [o]).length (cellsS (l ++ [o]))) (hg : w.grownBy w' v.ownBlock) (hnew : ∀ b, v'.ownBlock = some b → v.ownBlock = some b ∨ w.heap.size ≤ b) : Beside m base w' B n x ov v' (l ++ [o]) := by
  refine { off := h.off.grown h.row h.nB h.nO hg, made := h.made, row := hrow, nB := fun e => ?_, nO := fun b hb1 e => ?_ }
  · have := (hrow.lt B e).1; omega
  · rcases hnew b hb1 with h1 | h1
    · exact h.nO b h1 e
    · obtain ⟨fv, sv, g1, c1, g2, c2, g3, c3, hat⟩ := h.off
      have := own_lt hat.od e
      omega
theorem beside_cell {w w' : World} {base size n : Nat} {v u : Value} {xs : List Value} {b o : Nat} {z : Obj} (hr : w.ownsRow base 9 size v n xs) (hg : (w.alloc z).grownBy w' v.ownBlock) (hb : b < base) (hlt : b < w.heap.size) (hc : w.cell? ⟨b, o, none⟩ = some u) : w'.cell? ⟨b, o, none⟩ = some u := by
  have h1 : w'.heap[b]? = (w.alloc z).heap[b]? := hg.block b (by simp; omega) (fun e => by have := (hr.lt b e.symm).1; omega)
  have h2 : (w.alloc z).heap[b]? = w.heap[b]? := ((Below.refl w.heap.size w).alloc (Nat.le_refl _) z).block b hlt
  exact (World.cell?_of_block (a := ⟨b, o, none⟩) (h1.trans h2)).trans hc
theorem beside_below {m : Nat} {w w' : World} {base size n : Nat} {v : Value} {xs : List Value} {z : Obj} (hr : w.ownsRow base 9 size v n xs) (hg : (w.alloc z).grownBy w' v.ownBlock) (hm : m ≤ base) (hw : m ≤ w.heap.size) : Below m w w' :=
  below_app ((Below.refl w.heap.size w).mono hw) hw hg (fun j hj => Nat.le_trans hm (hr.lt j hj).1)
theorem Beside.grow {m base : Nat} {w w' : World} {B n j : Nat} {x : Off} {ov v v' : Value} {l l2 : List ByteArray} {q : ByteArray} {z : Obj} (h : Beside m base w B n x ov v l) (hb : B < base) (hrow : w'.ownsRow base 9 1 v' (j + 1) (cellsS l ++ [.string q])) (hg : (w.alloc z).grownBy w' v.ownBlock) (hat : v'.ownBlock = v.ownBlock ∨ v'.ownBlock = some (w.alloc z).heap.size) (e : l2 = l ++ [q]) (hl : l.length = j) : Beside m base w' B n x ov v' l2 := by
  subst e hl
  have h0 : Beside m base (w.alloc z) B n x ov v l := ⟨h.off.below ((Below.refl _ _).alloc (Nat.le_refl _) z), h.made, own_below h.row ((Below.refl _ _).alloc (Nat.le_refl _) z), h.nB, h.nO⟩
  refine h0.more q hb (by rw [List.length_append, cellsS_append]; exact hrow) hg (fun b hb1 => ?_)
  rcases hat with h1 | h1
  · exact .inl (h1 ▸ hb1)
  · right; rw [h1] at hb1; injection hb1 with hb1; omega
theorem Beside.toS {m base : Nat} {w : World} {B n : Nat} {x : Off} {ov v : Value} {l : List ByteArray} (h : Beside m base w B n x ov v l) : OffS m w B n x := ⟨⟨ov, h.off⟩, h.made⟩
theorem Beside.below {m base : Nat} {w w' : World} {B n : Nat} {x : Off} {ov v : Value} {l : List ByteArray} (h : Beside m base w B n x ov v l) (hb : Below w.heap.size w w') : Beside m base w' B n x ov v l := ⟨h.off.below hb, h.made, own_below h.row hb, h.nB, h.nO⟩
theorem Beside.rowN {m base : Nat} {w : World} {B n N : Nat} {x : Off} {ov v : Value} {l : List ByteArray} (h : Beside m base w B n x ov v l) (e : l.length = N) : w.ownsRow base 9 1 v N (cellsS l) := e ▸ h.row
theorem writeE_fit {l : List ByteArray} (h : ∀ o ∈ l, okB o.data.toList = true) (hl : l.length ≤ 80) : writeE l = 0 ∧ writeT l = minF l := by
  have h0 : writeE l = 0 := by
    unfold writeE
    rw [if_neg (by omega), if_pos (List.all_eq_true.2 h)]
  exact ⟨h0, by unfold writeT; rw [if_pos h0]⟩
theorem u64_range (p : Int) : 0 ≤ IntKind.u64.wrap p ∧ IntKind.u64.wrap p < 18446744073709551616 := by
  rw [IntKind.wrap_u64]
  omega
theorem TextsAt.first {w : World} {a : Option Addr} {n cap : Nat} {l : List ByteArray} {M : Nat} (h : TextsAt w (.slice a n cap) l) (hM : M ≤ l.length) : TextsAt w (.slice a M M) (l.take M) := by
  obtain ⟨a', cap', e, h1, h2, h3⟩ := h
  simp only [Value.slice.injEq] at e
  obtain ⟨rfl, rfl, rfl⟩ := e
  have hl : (l.take M).length = M := by rw [List.length_take]; omega
  refine ⟨a, M, by rw [hl], by omega, by omega, fun i hi => ?_⟩
  rw [hl] at hi
  obtain ⟨b, o, e1, e2, e3⟩ := h3 i (by omega)
  refine ⟨b, o, e1, e2, e3.trans ?_⟩
  rw [gi_lt (by omega), gi_lt (by rw [hl]; exact hi), List.getElem_take]
/-- The office after its first i orders. -/
def partF (x0 : Off) (os : List ByteArray) (i : Nat) : Off := (runs x0 (os.take i)).getD x0
theorem part_run {x0 x : Off} {os : List ByteArray} (h : runs x0 os = some x) {i : Nat} (hi : i ≤ os.length) : runs x0 (os.take i) = some (partF x0 os i) := by
  unfold partF
  rcases Nat.lt_or_ge i os.length with h1 | h1
  · obtain ⟨z, h2, _, _⟩ := runs_take os x0 x h i h1
    rw [h2]; rfl
  · rw [List.take_of_length_le h1, h]; rfl
theorem part_step {x0 x : Off} {os : List ByteArray} (h : runs x0 os = some x) {i : Nat} (hi : i < os.length) : stepE (partF x0 os i) (gi os default i) = 0 ∧ stepO (partF x0 os i) (gi os default i) = partF x0 os (i + 1) := by
  obtain ⟨z, h2, h3, h4⟩ := runs_take os x0 x h i hi
  have e1 : partF x0 os i = z := by unfold partF; rw [h2]; rfl
  have e2 : partF x0 os (i + 1) = stepO z os[i] := by unfold partF; rw [h4]; rfl
  rw [e1, e2, gi_lt hi]
  exact ⟨h3, rfl⟩
theorem part_end {x0 x : Off} {os : List ByteArray} (h : runs x0 os = some x) : partF x0 os os.length = x := by
  unfold partF
  rw [List.take_of_length_le (Nat.le_refl _), h]; rfl
theorem part_os {x0 x : Off} {os : List ByteArray} (h : runs x0 os = some x) (h0 : x0.os = []) {i : Nat} (hi : i ≤ os.length) : (partF x0 os i).os = os.take i := by
  have := runs_os (part_run h hi)
  rw [this, h0, List.nil_append]
theorem take_ok {l : List ByteArray} (h : ∀ o ∈ l, okB o.data.toList = true) (i : Nat) : ∀ o ∈ l.take i, okB o.data.toList = true := fun o ho => h o (List.mem_of_mem_take ho)
/-- What was done, one order on. -/
theorem many_next {x0 : Off} {l : List ByteArray} {j : Nat} {d : ByteArray} (ht : l.take (j + 1) = l.take j ++ [d]) : manyO x0 (l.take (j + 1)) = stepO (manyO x0 (l.take j)) d := by rw [ht, manyO_snoc]
theorem step_os_yes {x : Off} {o : ByteArray} (h : stepE x o = 0) : (stepO x o).os = x.os ++ [o] := by rw [stepO_ok h]
theorem step_os_no {x : Off} {o : ByteArray} (h : stepE x o ≠ 0) : (stepO x o).os = x.os := by rw [stepO_no h]
set_option maxRecDepth 100000 in
set_option maxHeartbeats 4000000 in
theorem sameOffice_calls {m1 m2 : Nat} {w : World} {B B2 n1 n2 : Nat} {x : Off} (h1 : OffS m1 w B n1 x) (h2 : OffS m2 w B2 n2 x) :
    Gives Tryz.prog 45 #[.pointer (some ⟨B, 0, none⟩), .pointer (some ⟨B2, 0, none⟩)] w (.bool true) := by
  have HO := Lib.hid h1
  have HP := Lib.hid h2
  have BW : Hid (Below w.heap.size w w) := Below.refl _ _
  clear h1 h2
  obtain ⟨t, ht⟩ : ∃ t, minF x.os = t := ⟨_, rfl⟩
  have HMIN := Lib.hid ht
  obtain ⟨d, hd⟩ : ∃ d, x.s.day = d := ⟨_, rfl⟩
  have HDAY := Lib.hid hd
  obtain ⟨pt, hpt⟩ : ∃ d, x.s.part = d := ⟨_, rfl⟩
  obtain ⟨fx, hfx⟩ : ∃ d, x.s.fixed = d := ⟨_, rfl⟩
  have HPART := Lib.hid (And.intro hpt hfx)
  obtain ⟨st, hst⟩ : ∃ d, x.s.stop = d := ⟨_, rfl⟩
  obtain ⟨hr, hhr⟩ : ∃ d, x.s.heard = d := ⟨_, rfl⟩
  have HEND := Lib.hid (And.intro hst hhr)
  obtain ⟨en, hen⟩ : ∃ d, x.s.ent = d := ⟨_, rfl⟩
  have HENT := Lib.hid hen
  clear ht hd hpt hfx hst hhr hen
  unfold Gives
  go_enter Tryz.func45, Tryz.ntmps45
  go_wp2_with (first
    | (go_at_call 32; (with_reducible refine (HO.out.part HPART.out).use ?_); intro w1 hb1 hz1 hc1 hf1; clear hc1 hf1 hz1; replace HO := Lib.hid (HO.out.below hb1); replace HP := Lib.hid (HP.out.below hb1); replace BW := Lib.hid (Below.trans BW.out (hb1.mono BW.out.size)); clear hb1)
    | (go_at_call 32; (with_reducible refine (HP.out.part HPART.out).use ?_); intro w2 hb2 hz2 hc2 hf2; clear hc2 hf2 hz2; replace HO := Lib.hid (HO.out.below hb2); replace HP := Lib.hid (HP.out.below hb2); replace BW := Lib.hid (Below.trans BW.out (hb2.mono BW.out.size)); clear hb2)
    | (go_at_call 33; (with_reducible refine (HO.out.stop HEND.out).use ?_); intro w3 hb3 hz3 hc3 hf3; clear hc3 hf3 hz3; replace HO := Lib.hid (HO.out.below hb3); replace HP := Lib.hid (HP.out.below hb3); replace BW := Lib.hid (Below.trans BW.out (hb3.mono BW.out.size)); clear hb3)
    | (go_at_call 33; (with_reducible refine (HP.out.stop HEND.out).use ?_); intro w4 hb4 hz4 hc4 hf4; clear hc4 hf4 hz4; replace HO := Lib.hid (HO.out.below hb4); replace HP := Lib.hid (HP.out.below hb4); replace BW := Lib.hid (Below.trans BW.out (hb4.mono BW.out.size)); clear hb4)
    | (go_at_call 42; (with_reducible refine (HO.out.day HDAY.out).use ?_); intro w5 hb5 hz5 hc5 hf5; clear hc5 hf5 hz5; replace HO := Lib.hid (HO.out.below hb5); replace HP := Lib.hid (HP.out.below hb5); replace BW := Lib.hid (Below.trans BW.out (hb5.mono BW.out.size)); clear hb5)
    | (go_at_call 42; (with_reducible refine (HP.out.day HDAY.out).use ?_); intro w6 hb6 hz6 hc6 hf6; clear hc6 hf6 hz6; replace HO := Lib.hid (HO.out.below hb6); replace HP := Lib.hid (HP.out.below hb6); replace BW := Lib.hid (Below.trans BW.out (hb6.mono BW.out.size)); clear hb6)
    | (go_at_call 44; (with_reducible refine (HO.out.strips).use ?_); intro vIA w7 hi hb7; have IA := Lib.hid hi.1; clear hi; replace HO := Lib.hid (HO.out.below hb7); replace HP := Lib.hid (HP.out.below hb7); replace BW := Lib.hid (Below.trans BW.out (hb7.mono BW.out.size)); clear hb7)
    | (go_at_call 44; (with_reducible refine (HP.out.strips).use ?_); intro vIB w8 hi hb8; have IB := Lib.hid hi.1; clear hi; replace HO := Lib.hid (HO.out.below hb8); replace HP := Lib.hid (HP.out.below hb8); replace IA := Lib.hid (IA.out.below hb8); replace BW := Lib.hid (Below.trans BW.out (hb8.mono BW.out.size)); clear hb8)
    | (go_at_call 24; refine (sameInts_is (t := true) IA.out IB.out (by simp)).use ?_; intro w9 hb9 hz9 hc9 hf9; clear hc9 hf9 hz9 IA IB; replace HO := Lib.hid (HO.out.below hb9); replace HP := Lib.hid (HP.out.below hb9); replace BW := Lib.hid (Below.trans BW.out (hb9.mono BW.out.size)); clear hb9)
    | (go_at_call 31; (with_reducible refine (HO.out.laid).use ?_); intro vIC w10 hi hb10; have IC := Lib.hid hi.1; clear hi; replace HO := Lib.hid (HO.out.below hb10); replace HP := Lib.hid (HP.out.below hb10); replace BW := Lib.hid (Below.trans BW.out (hb10.mono BW.out.size)); clear hb10)
    | (go_at_call 31; (with_reducible refine (HP.out.laid).use ?_); intro vID w11 hi hb11; have ID := Lib.hid hi.1; clear hi; replace HO := Lib.hid (HO.out.below hb11); replace HP := Lib.hid (HP.out.below hb11); replace IC := Lib.hid (IC.out.below hb11); replace BW := Lib.hid (Below.trans BW.out (hb11.mono BW.out.size)); clear hb11)
    | (go_at_call 24; refine (sameInts_is (t := true) IC.out ID.out (by simp)).use ?_; intro w12 hb12 hz12 hc12 hf12; clear hc12 hf12 hz12 IC ID; replace HO := Lib.hid (HO.out.below hb12); replace HP := Lib.hid (HP.out.below hb12); replace BW := Lib.hid (Below.trans BW.out (hb12.mono BW.out.size)); clear hb12)
    | (go_at_call 30; (with_reducible refine (HO.out.clm).use ?_); intro vIE w13 hi hb13; have IE := Lib.hid hi.1; clear hi; replace HO := Lib.hid (HO.out.below hb13); replace HP := Lib.hid (HP.out.below hb13); replace BW := Lib.hid (Below.trans BW.out (hb13.mono BW.out.size)); clear hb13)
    | (go_at_call 30; (with_reducible refine (HP.out.clm).use ?_); intro vIF w14 hi hb14; have IF := Lib.hid hi.1; clear hi; replace HO := Lib.hid (HO.out.below hb14); replace HP := Lib.hid (HP.out.below hb14); replace IE := Lib.hid (IE.out.below hb14); replace BW := Lib.hid (Below.trans BW.out (hb14.mono BW.out.size)); clear hb14)
    | (go_at_call 24; refine (sameInts_is (t := true) IE.out IF.out (by simp)).use ?_; intro w15 hb15 hz15 hc15 hf15; clear hc15 hf15 hz15 IE IF; replace HO := Lib.hid (HO.out.below hb15); replace HP := Lib.hid (HP.out.below hb15); replace BW := Lib.hid (Below.trans BW.out (hb15.mono BW.out.size)); clear hb15)
    | (go_at_call 35; (with_reducible refine (HO.out.opn).use ?_); intro vIG w16 hi hb16; have IG := Lib.hid hi.1; clear hi; replace HO := Lib.hid (HO.out.below hb16); replace HP := Lib.hid (HP.out.below hb16); replace BW := Lib.hid (Below.trans BW.out (hb16.mono BW.out.size)); clear hb16)
    | (go_at_call 35; (with_reducible refine (HP.out.opn).use ?_); intro vIH w17 hi hb17; have IH := Lib.hid hi.1; clear hi; replace HO := Lib.hid (HO.out.below hb17); replace HP := Lib.hid (HP.out.below hb17); replace IG := Lib.hid (IG.out.below hb17); replace BW := Lib.hid (Below.trans BW.out (hb17.mono BW.out.size)); clear hb17)
    | (go_at_call 24; refine (sameInts_is (t := true) IG.out IH.out (by simp)).use ?_; intro w18 hb18 hz18 hc18 hf18; clear hc18 hf18 hz18 IG IH; replace HO := Lib.hid (HO.out.below hb18); replace HP := Lib.hid (HP.out.below hb18); replace BW := Lib.hid (Below.trans BW.out (hb18.mono BW.out.size)); clear hb18)
    | (go_at_call 36; (with_reducible refine (HO.out.ent HENT.out).use ?_); intro w19 hb19 hz19 hc19 hf19; clear hc19 hf19 hz19; replace HO := Lib.hid (HO.out.below hb19); replace HP := Lib.hid (HP.out.below hb19); replace BW := Lib.hid (Below.trans BW.out (hb19.mono BW.out.size)); clear hb19)
    | (go_at_call 36; (with_reducible refine (HP.out.ent HENT.out).use ?_); intro w20 hb20 hz20 hc20 hf20; clear hc20 hf20 hz20; replace HO := Lib.hid (HO.out.below hb20); replace HP := Lib.hid (HP.out.below hb20); replace BW := Lib.hid (Below.trans BW.out (hb20.mono BW.out.size)); clear hb20)
    | (go_at_call 20; (with_reducible refine (HO.out.min HMIN.out).use ?_); intro w21 hb21 hz21 hc21 hf21; clear hc21 hf21 hz21; replace HO := Lib.hid (HO.out.below hb21); replace HP := Lib.hid (HP.out.below hb21); replace BW := Lib.hid (Below.trans BW.out (hb21.mono BW.out.size)); clear hb21)
    | (go_at_call 20; (with_reducible refine (HP.out.min HMIN.out).use ?_); intro w22 hb22 hz22 hc22 hf22; clear hc22 hf22 hz22; replace HO := Lib.hid (HO.out.below hb22); replace HP := Lib.hid (HP.out.below hb22); replace BW := Lib.hid (Below.trans BW.out (hb22.mono BW.out.size)); clear hb22))
  go_ret
  exact ⟨rfl, BW.out⟩
end Go.Proofs.YthooacpfmjpdmaaGreatDoor
