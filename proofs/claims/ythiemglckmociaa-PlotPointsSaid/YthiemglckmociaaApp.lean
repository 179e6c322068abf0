/- Appending whatever lies in memory to a row of the call's own; rows and blocks apart. No program in sight. Conditions: as said in each. -/
import Derived.Test.YthiemglckmociaaOwn
import Derived.Maps.AppendAt
import Derived.Laws.OwnMore
namespace Go.Proofs.Ythiemglckmociaa
open Go.RowKit

theorem own_slice {w : World} {base e size n : Nat} {v : Value} {xs : List Value} (h : w.ownsRow base e size v n xs) : ∃ a cap, v = .slice a n cap := by
  obtain ⟨_, ⟨h, h0⟩ | ⟨g, cap, _, h, _⟩⟩ := h
  · subst h0; exact ⟨_, _, h⟩
  · exact ⟨_, _, h⟩
theorem own_base {w : World} {base base' e size n : Nat} {v : Value} {xs : List Value} (h : w.ownsRow base e size v n xs) (hb : base' ≤ base) : w.ownsRow base' e size v n xs := by
  obtain ⟨hl, h | ⟨g, cap, cur, hv, hg, hr⟩⟩ := h
  · exact ⟨hl, .inl h⟩
  · exact ⟨hl, .inr ⟨g, cap, cur, hv, Nat.le_trans hb hg, hr⟩⟩
theorem cell_of_block {w : World} {g : Nat} {cs : Array Value} {t : TypeId} {fr : Nat × Nat} (h : w.heap[g]? = some (.cells cs t fr)) (i : Nat) : w.cell? ⟨g, i, none⟩ = cs[i]? := by
  unfold World.cell?
  rw [h]; rfl
theorem frozen_of_block {w : World} {g : Nat} {cs : Array Value} {t : TypeId} (h : w.heap[g]? = some (.cells cs t (0, 0))) (i : Nat) : w.frozen? ⟨g, i, none⟩ = false := by
  unfold World.frozen?
  rw [h]; simp
theorem grown_set (w : World) (a : Addr) (u : Value) : w.grownBy (w.setCell a u) (some a.block) :=
  ⟨rfl, rfl, rfl, by simp [World.setCell], fun k _ hne => Below.heap_setCell _ _ _ _ (fun e => hne (by rw [e]))⟩
theorem grown_trans {a b c : World} {r : Option Nat} (h : a.grownBy b r) (k : b.grownBy c r) : a.grownBy c r :=
  ⟨k.os.trans h.os, k.tape.trans h.tape, k.output.trans h.output, Nat.le_trans h.size k.size, fun i hi hne => (k.block i (Nat.lt_of_lt_of_le hi h.size) hne).trans (h.block i hi hne)⟩
theorem block_set {w : World} {g : Nat} {cs : Array Value} {t : TypeId} {fr : Nat × Nat} (h : w.heap[g]? = some (.cells cs t fr)) (i : Nat) (v : Value) : (w.setCell ⟨g, i, none⟩ v).heap[g]? = some (.cells (cs.setIfInBounds i v) t fr) := by
  simp [World.setCell, Array.getElem?_modify, h]
theorem own_set1 {w : World} {base e size n b i : Nat} {v u0 : Value} {xs : List Value} (h : w.ownsRow base e size v n xs) (hb : v.ownBlock ≠ some b) : (w.setCell ⟨b, i, none⟩ u0).ownsRow base e size v n xs :=
  h.kept (grown_set w ⟨b, i, none⟩ u0) (.inr hb)
theorem own_set3 {w : World} {base e size n b : Nat} {v u0 u1 u2 : Value} {xs : List Value} (h : w.ownsRow base e size v n xs) (hb : v.ownBlock ≠ some b) : (((w.setCell ⟨b, 0, none⟩ u0).setCell ⟨b, 1, none⟩ u1).setCell ⟨b, 2, none⟩ u2).ownsRow base e size v n xs :=
  own_set1 (own_set1 (own_set1 h hb) hb) hb
/-- Two values lie in two blocks. -/
def apt (u v : Value) : Prop := ∀ k, u.ownBlock = some k → v.ownBlock ≠ some k
theorem apt_symm {u v : Value} (h : apt u v) : apt v u := fun k hv hu => h k hu hv
theorem apt_or {u v : Value} (h : apt u v) : u.ownBlock = none ∨ u.ownBlock ≠ v.ownBlock := by
  cases hu : u.ownBlock with
  | none => exact .inl rfl
  | some k => exact .inr fun e => h k hu e.symm
theorem apt_some {v : Value} {g : Nat} (h : v.ownBlock ≠ some g) : v.ownBlock = none ∨ v.ownBlock ≠ some g := .inr h
theorem not_both {a : Bool} {P : Prop} (h : a = true) (h' : a = false) : P := by rw [h] at h'; cases h'
/-- A block below is the same block. -/
theorem blk_below {x x' : World} {g : Nat} {o : Obj} (h : x.heap[g]? = some o) (hb : Below x.heap.size x x') : x'.heap[g]? = some o := (hb.block g (Array.getElem?_eq_some_iff.1 h).1).trans h
theorem src_below {x x' : World} {g : Nat} {l : List Value} (h : ∀ j u, l[j]? = some u → x.cell? ((⟨g, 0, none⟩ : Addr).add j) = some u) (hb : Below x.heap.size x x') : ∀ j u, l[j]? = some u → x'.cell? ((⟨g, 0, none⟩ : Addr).add j) = some u := by
  intro j u hu
  have h1 := h j u hu
  exact (hb.cell (block_lt_of_cell h1)).trans h1
theorem ne_new {x : World} {base e size n : Nat} {v : Value} {xs : List Value} (h : x.ownsRow base e size v n xs) {g : Nat} (hg : x.heap.size ≤ g) : v.ownBlock ≠ some g := by
  intro hk
  have := (h.lt g hk).2; omega
theorem ne_old {x : World} {base e size n : Nat} {v : Value} {xs : List Value} (h : x.ownsRow base e size v n xs) {g : Nat} (hg : g < base) : v.ownBlock ≠ some g := by
  intro hk
  have := (h.lt g hk).1; omega
theorem apt_new {x x' : World} {base base' e e' size size' n n' : Nat} {v v' : Value} {xs xs' : List Value} (h : x.ownsRow base e size v n xs) (h' : x'.ownsRow base' e' size' v' n' xs') (hb : x.heap.size ≤ base') : apt v v' := by
  intro g hv e
  have h1 := (h.lt g hv).2
  have h2 := (h'.lt g e).1
  omega
theorem apt_nil {x : World} {base e size n : Nat} {v : Value} {xs : List Value} (h : x.ownsRow base e size v n xs) {g : Nat} (hg : x.heap.size ≤ g) (hv : v.ownBlock = some g) : False := by
  have := (h.lt g hv).2; omega
/-- What an append leaves: its row stands where the old one stood, or new. -/
theorem apt_app {x : World} {base e size n : Nat} {u v v' : Value} {xs : List Value} (h : x.ownsRow base e size u n xs) (hap : apt u v) (hat : v'.ownBlock = v.ownBlock ∨ v'.ownBlock = some x.heap.size) : apt u v' := by
  intro k hk e
  rcases hat with hat | hat
  · exact hap k hk (hat ▸ e)
  · rw [hat] at e
    exact apt_nil h (Nat.le_of_eq (Option.some.inj e)) hk
theorem ne_app {x : World} {v v' : Value} {g : Nat} (hg : g < x.heap.size) (h : v.ownBlock ≠ some g) (hat : v'.ownBlock = v.ownBlock ∨ v'.ownBlock = some x.heap.size) : v'.ownBlock ≠ some g := by
  intro e
  rcases hat with hat | hat
  · exact h (hat ▸ e)
  · rw [hat] at e
    have := Option.some.inj e; omega
theorem ge_app {x : World} {N : Nat} {v v' : Value} (h : ∀ k, v.ownBlock = some k → N ≤ k) (hN : N ≤ x.heap.size) (hat : v'.ownBlock = v.ownBlock ∨ v'.ownBlock = some x.heap.size) : ∀ k, v'.ownBlock = some k → N ≤ k := by
  intro k e
  rcases hat with hat | hat
  · exact h k (hat ▸ e)
  · rw [hat] at e
    have := Option.some.inj e; omega

/-- m elements that can be appended: none at all, or cells that lie somewhere. -/
def SrcAt (w : World) (x : Value) (m size : Nat) (news : List Value) : Prop :=
  news.length = m * size ∧ (∀ u ∈ news, u.oneCell' = true) ∧ ((∃ c, x = .slice none m c ∧ m = 0) ∨ ∃ ad c, x = .slice (some ad) m c ∧ ∀ j u, news[j]? = some u → w.cell? (ad.add j) = some u)
theorem SrcAt.below {w w' : World} {x : Value} {m size : Nat} {news : List Value} (h : SrcAt w x m size news) (hb : Below w.heap.size w w') : SrcAt w' x m size news := by
  obtain ⟨h1, h2, h | ⟨ad, c, e, h⟩⟩ := h
  · exact ⟨h1, h2, .inl h⟩
  · exact ⟨h1, h2, .inr ⟨ad, c, e, fun j u hu => (hb.cell (block_lt_of_cell (h j u hu))).trans (h j u hu)⟩⟩
theorem ints_src {w : World} {v : Value} {l : List Int} (h : IntsAt w v l) : SrcAt w v l.length 1 (cells1 l) := by
  refine ⟨cells1_length l, cells1_one l, ?_⟩
  obtain ⟨a, cap, rfl, _⟩ := id h
  rcases Nat.eq_zero_or_pos l.length with h0 | hpos
  · cases a with
    | none => exact .inl ⟨_, rfl, h0⟩
    | some ad => exact .inr ⟨ad, _, rfl, fun j u hu => by rw [List.eq_nil_of_length_eq_zero h0] at hu; simp [cells1] at hu⟩
  · obtain ⟨b, o, rfl, hc⟩ := ints_source h hpos
    exact .inr ⟨_, _, rfl, hc⟩
theorem pairs_src {w : World} {v : Value} {l : List (Int × Int)} (h : PairsAt w v l) : SrcAt w v l.length 2 (cells2 l) := by
  refine ⟨cells2_length l, cells2_one l, ?_⟩
  obtain ⟨a, cap, rfl, _⟩ := id h
  rcases Nat.eq_zero_or_pos l.length with h0 | hpos
  · cases a with
    | none => exact .inl ⟨_, rfl, h0⟩
    | some ad => exact .inr ⟨ad, _, rfl, fun j u hu => by rw [List.eq_nil_of_length_eq_zero h0] at hu; simp [cells2] at hu⟩
  · obtain ⟨b, o, rfl, hc⟩ := pairs_source h hpos
    exact .inr ⟨_, _, rfl, hc⟩

section
variable {P : Program} {w : World}
theorem run_append_any (base : Nat) (t ty e : TypeId) (i : TypeInfo) (z : Value) (size bytes : Nat) (ht : P.underlying t = some (.slice e)) (hi : P.info? e = some i) (hz : i.zero = some z)
    (hsize : i.size = size) (hby : i.bytes = bytes) (hzs : z.cells.size = size) (hsz : 0 < size)
    (v : Value) (n : Nat) (xs : List Value) (hown : w.ownsRow base e size v n xs)
    (x : Value) (m : Nat) (news : List Value) (hsrc : SrcAt w x m size news)
    (h63 : n + m ≤ maxLen) (hbytes : (n + m) * bytes ≤ 140737488355328) (hbase : base ≤ w.heap.size) :
    ∃ v' w', (Builtin.append_ #[t, t] ty #[v, x]).run P w = .ok v' w' ∧ w'.ownsRow base e size v' (n + m) (xs ++ news) ∧ w.grownBy w' v.ownBlock ∧ (v'.ownBlock = v.ownBlock ∨ v'.ownBlock = some w.heap.size) := by
  obtain ⟨hl, h1, ⟨c, rfl, rfl⟩ | ⟨ad, c, rfl, hnews⟩⟩ := hsrc
  · have hnil : news = [] := List.eq_nil_of_length_eq_zero (by omega)
    subst hnil
    refine ⟨v, w, ?_, by simpa using hown, ⟨rfl, rfl, rfl, Nat.le_refl _, fun _ _ _ => rfl⟩, .inl rfl⟩
    rcases hown.2 with ⟨rfl, rfl⟩ | ⟨g, cap, cur, rfl, _, _, hnc, _⟩
    · simp [Builtin.append_, run_underlying ht, sizeOf, typeInfo, hi, Builtin.lenOf, Builtin.firstCells]
    · simp [Builtin.append_, run_underlying ht, sizeOf, typeInfo, hi, Builtin.lenOf, Builtin.firstCells, hnc, storeCells]
  · obtain ⟨v', w', hr, h2, h3, _, h5⟩ := run_append_own_at (P := P) w base t ty e i z size bytes ht hi hz hsize hby hzs hsz v n xs hown ad m c news hl hnews h1 h63 hbytes hbase
    exact ⟨v', w', hr, h2, h3, h5⟩

theorem wp_append_any {o : Oper} {a : Act} {K : Act → World → Prop} {Q : Exit → Act → World → Prop} (s x : Operand) (t : TypeId)
    (ho : o.op = .call { callee := .builtin .append, args := #[s, x], argTypes := #[t, t] })
    (base : Nat) (e : TypeId) (i : TypeInfo) (z : Value) (size bytes : Nat) (ht : P.underlying t = some (.slice e)) (hi : P.info? e = some i) (hz : i.zero = some z)
    (hsize : i.size = size) (hby : i.bytes = bytes) (hzs : z.cells.size = size) (hsz : 0 < size)
    (v : Value) (n : Nat) (xs : List Value) (hs : a.eval s = v) (hown : w.ownsRow base e size v n xs)
    (xv : Value) (m : Nat) (news : List Value) (hx : a.eval x = xv) (hsrc : SrcAt w xv m size news)
    (h63 : n + m ≤ maxLen) (hbytes : (n + m) * bytes ≤ 140737488355328) (hbase : base ≤ w.heap.size)
    (h : ∀ v' w', w'.ownsRow base e size v' (n + m) (xs ++ news) → w.grownBy w' v.ownBlock → (v'.ownBlock = v.ownBlock ∨ v'.ownBlock = some w.heap.size) → K (a.put o.dst v') w') : o.wp P a w K Q := by
  obtain ⟨v', w', hr, h2, h3, h4⟩ := run_append_any (P := P) (w := w) base t o.type e i z size bytes ht hi hz hsize hby hzs hsz v n xs hown xv m news hsrc h63 hbytes hbase
  unfold Oper.wp execOp
  simp only [ho, resolve, invoke, builtin, Sem.run_bind, Sem.run_pure, Result.andThen_ok, List.map_toArray, List.map_cons, List.map_nil, hs, hx, hr]
  exact h v' w' h2 h3 h4
theorem wpList_append_any {ops : Array Oper} {rest : List Oper} {o : Oper} {a : Act} {Q : Exit → Act → World → Prop} (hgd : o.guard = none) (s x : Operand) (t : TypeId)
    (ho : o.op = .call { callee := .builtin .append, args := #[s, x], argTypes := #[t, t] })
    (base : Nat) (e : TypeId) (i : TypeInfo) (z : Value) (size bytes : Nat) (ht : P.underlying t = some (.slice e)) (hi : P.info? e = some i) (hz : i.zero = some z)
    (hsize : i.size = size) (hby : i.bytes = bytes) (hzs : z.cells.size = size) (hsz : 0 < size)
    (v : Value) (n : Nat) (xs : List Value) (hs : a.eval s = v) (hown : w.ownsRow base e size v n xs)
    (xv : Value) (m : Nat) (news : List Value) (hx : a.eval x = xv) (hsrc : SrcAt w xv m size news)
    (h63 : n + m ≤ maxLen) (hbytes : (n + m) * bytes ≤ 140737488355328) (hbase : base ≤ w.heap.size)
    (h : ∀ v' w', w'.ownsRow base e size v' (n + m) (xs ++ news) → w.grownBy w' v.ownBlock → (v'.ownBlock = v.ownBlock ∨ v'.ownBlock = some w.heap.size) → wpList P ops Q rest (a.put o.dst v') w') : wpList P ops Q (o :: rest) a w :=
  wpList_plain hgd fun _ hK => wp_append_any s x t ho base e i z size bytes ht hi hz hsize hby hzs hsz v n xs hs hown xv m news hx hsrc h63 hbytes hbase fun v' w' h2 h3 h4 => hK _ _ (h v' w' h2 h3 h4)
theorem step_append_any {ops : Array Oper} {o : Oper} {a : Act} {K : Act → World → Prop} {Q : Exit → Act → World → Prop} {E : Prop} (hgd : o.guard = none) (s x : Operand) (t : TypeId)
    (ho : o.op = .call { callee := .builtin .append, args := #[s, x], argTypes := #[t, t] })
    (base : Nat) (e : TypeId) (i : TypeInfo) (z : Value) (size bytes : Nat) (ht : P.underlying t = some (.slice e)) (hi : P.info? e = some i) (hz : i.zero = some z)
    (hsize : i.size = size) (hby : i.bytes = bytes) (hzs : z.cells.size = size) (hsz : 0 < size)
    (v : Value) (n : Nat) (xs : List Value) (hs : a.eval s = v) (hown : w.ownsRow base e size v n xs)
    (xv : Value) (m : Nat) (news : List Value) (hx : a.eval x = xv) (hsrc : SrcAt w xv m size news)
    (h63 : n + m ≤ maxLen) (hbytes : (n + m) * bytes ≤ 140737488355328) (hbase : base ≤ w.heap.size)
    (h : ∀ v' w', w'.ownsRow base e size v' (n + m) (xs ++ news) → w.grownBy w' v.ownBlock → (v'.ownBlock = v.ownBlock ∨ v'.ownBlock = some w.heap.size) → K (a.put o.dst v') w') :
    if Region.wanted o (yielded ops a.tmps) = true then Oper.wp P o a w K Q else E := by
  have hw : Region.wanted o (yielded ops a.tmps) = true := by simp [Region.wanted, hgd]
  rw [if_pos hw]
  exact wp_append_any s x t ho base e i z size bytes ht hi hz hsize hby hzs hsz v n xs hs hown xv m news hx hsrc h63 hbytes hbase h
end
end Go.Proofs.Ythiemglckmociaa
