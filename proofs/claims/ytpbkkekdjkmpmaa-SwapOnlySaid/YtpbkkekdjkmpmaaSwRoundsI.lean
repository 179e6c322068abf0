/- What rounds of package swap goes over. Conditions: the lists are right, and lie in memory as said. -/
import Derived.Test.YtpbkkekdjkmpmaaSwMem
namespace Go.Proofs.Ytpbkkekdjkmpmaa
open Go.RowKit Go.Shelf

theorem wide_depth : Fence.wide.depth = none := rfl
attribute [local go_sem] Oper.semAt_some wide_fn wide_depth

theorem c1_enters : ∀ args w, (callFunc 57 args).run Try.prog w = .ok (.enter 57 args) w := fun args w => enters_of Try.func57 (by kernel_rfl) rfl args w
theorem c2_enters : ∀ args w, (callFunc 58 args).run Try.prog w = .ok (.enter 58 args) w := fun args w => enters_of Try.func58 (by kernel_rfl) rfl args w
set_option maxHeartbeats 400000 in
theorem c1_is (p s B n : Nat) (lf : Nat → Bool) (w : World) (hp : p < n) (hB : w.cell? ⟨B, 0, none⟩ = some (.slice (some ⟨s, 0, none⟩) n n)) (hs : w.cell? ⟨s, p, none⟩ = some (.bool (lf p))) :
    Same Try.prog 57 #[.int .i64 p, .pointer (some ⟨B, 0, none⟩)] w (.bool (lf p)) := by
  unfold Same
  go_enter Try.func57, Try.ntmps57
  go_wp2
  go_ret
  exact ⟨rfl, rfl⟩
set_option maxHeartbeats 400000 in
theorem c2_is (u : Value) (l : List Int) (i : Int) (b : Nat) (w : World) (h : IntsAt w u l) (hb : w.cell? ⟨b, 0, none⟩ = some (.int .i64 i)) :
    Same Try.prog 58 #[u, .pointer (some ⟨b, 0, none⟩)] w (.bool (hasB l i)) := by
  have HL := Lib.hid h
  obtain ⟨ua, uc, rfl, -⟩ := h
  unfold Same
  go_enter Try.func58, Try.ntmps58
  go_wp2_with (go_at_call 52; refine (contains_ints _ l _ _ HL.out).use ?_)
  go_ret
  exact ⟨rfl, rfl⟩
set_option maxHeartbeats 400000 in
theorem rounds_calls (a : Option Addr) (n c : Nat) (w : World) :
    Calls Try.prog 37 #[.slice a n c] w fun e w' => e = .returned (.func (.func 54) #[] #[.pointer (some ⟨w.heap.size, 0, none⟩)]) ∧ w.alloc (.cells #[.slice a n c] 22) = w' := by
  go_enter Try.func37, Try.ntmps37
  go_wp2
  go_ret
  exact ⟨rfl, rfl⟩

/-- A bool of a block, as it lies. -/
def boolAt (w : World) (s j : Nat) : Bool := match w.cell? ⟨s, j, none⟩ with | some (.bool b) => b | _ => false
def lenOf : Value → Nat | .slice _ n _ => n | _ => 0
theorem cnt_blk {w : World} {s n : Nat} {e : TypeId} {lf : Nat → Bool} (h : blk w s e (fun j => .bool (lf j)) n) : cntL n (boolAt w s) = cntL n lf := by
  unfold cntL
  refine List.countP_congr fun j hj => ?_
  unfold boolAt
  rw [h.cell (List.mem_range.1 hj)]
theorem any_contains (n : Nat) (lf : Nat → Bool) : ((List.range n).map lf).contains true = anyL n lf := by
  unfold anyL
  rw [Bool.eq_iff_iff, List.contains_iff_mem, List.mem_map, List.any_eq_true]
/-- The state of the rounds: who is left, in the block s; where it lies, in the box behind it. -/
structure RSt (s n : Nat) (lf : Nat → Bool) (w : World) : Prop where
  left : blk w s 4 (fun j => .bool (lf j)) n
  box : w.heap[s + 1]? = some (.cells #[.slice (some ⟨s, 0, none⟩) n n] 68 (0, 0))
theorem RSt.below {s n : Nat} {lf : Nat → Bool} {w w' : World} (h : RSt s n lf w) (hb : Below w.heap.size w w') : RSt s n lf w' :=
  ⟨h.left.below hb, (hb.block _ (Array.getElem?_eq_some_iff.1 h.box).1).trans h.box⟩
theorem RSt.size {s n : Nat} {lf : Nat → Bool} {w : World} (h : RSt s n lf w) : s + 1 < w.heap.size := (Array.getElem?_eq_some_iff.1 h.box).1
theorem RSt.cellB {s n : Nat} {lf : Nat → Bool} {w : World} (h : RSt s n lf w) : w.cell? ⟨s + 1, 0, none⟩ = some (.slice (some ⟨s, 0, none⟩) n n) := by rw [cell_of_block h.box 0]; rfl
theorem contains_bools_is {v : Value} {l : List Bool} {x t : Bool} {w : World} (h : BoolsAt w v l) (ht : l.contains x = t) :
    Same Try.prog 55 #[v, .bool x] w (.bool t) := ht ▸ contains_bools v l x w h
theorem Below.priv {B D : Nat} {w w' : World} (h : Below w.heap.size w w') : Priv B D w w' := Priv.of_below h
theorem alloc_new (w : World) (o : Obj) {b : Nat} (hb : b = w.heap.size) : (w.alloc o).heap[b]? = some o := by subst hb; exact World.alloc_heap_new w o
theorem below_app {B : Nat} {a w w' : World} {o : Obj} {row : Option Nat} (h : Below B a w) (hB : B ≤ a.heap.size) (hg : (w.alloc o).grownBy w' row) (hr : ∀ j, row = some j → B ≤ j) : Below B a w' :=
  (h.alloc (Nat.le_trans hB h.size) o).trans ((Below.refl B _).grown hg (by have := h.size; simp; omega) hr)
theorem lit_int (w : World) (k : Nat) (f : Nat → Nat) {base b : Nat} (hb : b = w.heap.size) (hbase : base ≤ w.heap.size) : (w.alloc (.cells #[.int .i64 k] 3)).ownsRow base 3 1 (.slice (some ⟨b, 0, none⟩) 1 1) 1 (cells1 (numsL (orb f k 1))) := by
  subst hb
  exact World.ownsRow_lit (base := base) (e := 3) (size := 1) w #[.int .i64 k] 1 hbase (by decide) rfl
theorem IntsT.mono {m m' : Nat} {w : World} {v : Value} {l : List Int} (h : IntsT m w v l) (hm : m' ≤ m) : IntsT m' w v l := ⟨h.1, fun b hb => ⟨Nat.le_trans hm (h.2 b hb).1, (h.2 b hb).2⟩⟩
theorem TableT.mono {m m' : Nat} {w : World} {v : Value} {L : List (List Int)} (h : TableT m w v L) (hm : m' ≤ m) : TableT m' w v L := by
  obtain ⟨a, cap, hv, h1, h2, h4, h3⟩ := h
  refine ⟨a, cap, hv, h1, h2, fun b hb => ⟨Nat.le_trans hm (h4 b hb).1, (h4 b hb).2⟩, fun i hi => ?_⟩
  obtain ⟨b, o, u, ha, hlt, hc, hu⟩ := h3 i hi
  exact ⟨b, o, u, ha, hlt, hc, hu.mono hm⟩
/-- What the k-th round hands on. -/
def RoundE (L : List (List Int)) (B k : Nat) (W : World) (args : Array Value) : Prop := ∃ v, args = #[v] ∧ TableT (B + 2) W v ((cyN L k).map numsL)

set_option maxRecDepth 100000 in
set_option maxHeartbeats 4000000 in
theorem rounds_iter (b0 : Nat) (v : Value) (L : List (List Int)) (hv : vB L = true) :
    IterV Try.prog 54 #[.pointer (some ⟨b0, 0, none⟩)] (RoundE L) (nrN L) 2
      (fun W => W.cell? ⟨b0, 0, none⟩ = some v ∧ TableAt W v L) := by
  intro n ll J Jx W hR hJ hJx hY hJ0
  have hR0 := (hR 0 W hJ0).2
  obtain ⟨a, cap, rfl, hlc, hcm, _⟩ := hR0
  have h15 := vB_len hv
  have h5 : L.length ≤ 5 := h15.2
  have hmb := fun w => mk_bools w L.length h5
  have hmi := fun w => mk_ints w L.length h5
  have HR := Lib.hid hR
  have HJ0 := Lib.hid hJ0
  have HY := Lib.hid hY
  have HJ := Lib.hid hJ
  have HV := Lib.hid hv
  have hc := (hR 0 W hJ0).1
  clear hR hJ hJx hY hJ0 hv h15
  refine callsIn_of_wp Try.func54 rfl trivial ?_ rfl
  simp only [Try.ntmps54, List.size_toArray, List.length_cons, List.length_nil, Nat.reduceAdd, Nat.reduceSub, Array.replicate_succ, Array.replicate_zero, List.push_toArray, List.append_toArray, List.nil_append, List.cons_append]
  gi_wp2
  gi_loopw [21] (fun p wr => ∃ k : Nat, k ≤ L.length ∧ p = .int .i64 k ∧ Hid (Priv W.heap.size 2 W wr) ∧ Hid (RSt W.heap.size L.length (fun j => decide (j < k)) wr)) (fun p _ => L.length - (intOf p).toNat)
  case atStart =>
    refine ⟨0, Nat.zero_le _, rfl, Priv.of_below (by (repeat' (first | exact Below.refl _ _ | assumption | refine below_new ?_ _ | refine below_draw ?_ | refine below_tail (by assumption) ?_ | refine below_set ?_ (by first | omega | (simp <;> omega)) _))), ⟨?_, ?_⟩⟩
    · exact ((blk.new W 4 (fun _ => .bool false) L.length rfl).congr (fun j _ => by simp)).alloc _
    · exact alloc_new _ _ (by simp)
  case round =>
    obtain ⟨k, hk, rfl, hpr, hst⟩ := hrel
    have HST := hst
    have hcB := hst.out.cellB
    have hsz := hst.out.size
    by_cases hlt : k < L.length
    · have hcs := hst.out.left.cell hlt
      have hfs := hst.out.left.frozen k
      clear hst
      gi_wp2
      go_roundw
      case rel =>
        refine ⟨k + 1, by omega, by go_num, hpr.out.trans (Priv.set _ _ _ (Nat.le_refl _) (by simp)), ⟨HST.out.left.set (fun j hj => ?_), (Below.heap_setCell _ _ _ _ (by simp)).trans HST.out.box⟩⟩
        by_cases e : j = k
        · subst e; simp
        · rw [if_neg e]; congr 1; rw [decide_eq_decide]; omega
      case measure => simp [intOf]; omega
    · obtain rfl : k = L.length := by omega
      clear hst
      gi_wp2
      have hst0 : Hid (RSt W.heap.size L.length (lfN L 0) wr) := show RSt _ _ _ _ from ⟨HST.out.left.congr (fun j hj => by rw [decide_eq_true hj]; rfl), HST.out.box⟩
      have hJ1 : Hid (J 0 wr) := HJ.out 0 W wr (Nat.le_refl _) HJ0.out hpr.out
      clear HST hcB hsz hlt hk hpr HJ0 hc
      gi_loopw [8] (fun _ wm => ∃ r : Nat, r ≤ nrN L ∧ Hid (RSt W.heap.size L.length (lfN L r) wm) ∧ Hid (J r wm)) (fun _ wm => cntL L.length (boolAt wm W.heap.size))
      case atStart => exact ⟨0, Nat.zero_le _, hst0, hJ1⟩
      case round =>
        obtain ⟨r, hr, hst, hJr⟩ := hrel
        obtain ⟨wm, hwm⟩ : ∃ x, x = wr := ⟨_, rfl⟩
        subst hwm
        clear hst0 hJ1
        have hcB := hst.out.cellB
        have hsz := hst.out.size
        obtain ⟨hcl, hT⟩ := HR.out r wm hJr.out
        have HT := Lib.hid hT
        clear hT
        have hlb : b0 < wm.heap.size := block_lt_of_cell hcl
        have HBO := Lib.hid (hst.out.left.bools h5)
        cases hany : anyL L.length (lfN L r)
        · have hend : r = nrN L := by
            apply Classical.byContradiction
            intro hne
            have := (nrN_iff HV.out (r := r)).1 (by omega)
            rw [this] at hany; cases hany
          have HA : Hid (((List.range L.length).map (lfN L r)).contains true = false) := (any_contains _ _).trans hany
          clear hany
          gi_wp2_with (gi_at_call 55; refine callsIn_wide.2 ((contains_bools_is HBO.out HA.out).use ?_))
          go_end0
          exact ⟨⟨_, rfl⟩, .inl (hend ▸ hJr.out)⟩
        · have hlt : r < nrN L := (nrN_iff HV.out).2 hany
          have HA : Hid (((List.range L.length).map (lfN L r)).contains true = true) := (any_contains _ _).trans hany
          have HANY := Lib.hid hany
          clear hany
          gi_wp2_with (gi_at_call 55; refine callsIn_wide.2 ((contains_bools_is HBO.out HA.out).use ?_))
          clear HA HBO hcB
          gi_loopw [35] (fun p wq => ∃ k : Nat, k ≤ L.length ∧ p = .int .i64 k ∧ Hid (Below wm.heap.size wm wq) ∧ Hid (blk wq wm.heap.size 3 (fun j => .int .i64 (if j < k then (ptN L (lfN L r) j : Int) else 0)) L.length)) (fun p _ => L.length - (intOf p).toNat)
          case atStart =>
            exact ⟨0, Nat.zero_le _, rfl, (by (repeat' (first | exact Below.refl _ _ | assumption | refine below_new ?_ _ | refine below_draw ?_ | refine below_tail (by assumption) ?_ | refine below_set ?_ (by first | omega | (simp <;> omega)) _)) : Below wm.heap.size wm _), (blk.new wm 3 (fun _ => .int .i64 0) L.length rfl).congr (fun j _ => by simp)⟩
          case round =>
            obtain ⟨k, hk, rfl, hbl, hbk⟩ := hrel
            by_cases hlk : k < L.length
            · obtain ⟨b, o, u, rfl, hB, hcell, hu⟩ := (HT.out.below hbl.out).row hlk
              have HU := Lib.hid hu
              obtain ⟨ua, uc, rfl, -⟩ := hu
              obtain ⟨m, hm1, hm2, hm3, hm4, hm5, -⟩ := pt_spec HV.out hlk HANY.out
              obtain ⟨b2, o2, rfl, hB2, hcell2⟩ := HU.out.cellAt hm2
              rw [hm3] at hcell2
              have HST1 := Lib.hid (hst.out.below hbl.out)
              have hcB := HST1.out.cellB
              have hcs := hbk.out.cell hlk
              have hfs := hbk.out.frozen k
              have hpz := hbk.out.lt
              have HIF : Hid (Same Try.prog 56 #[.slice (some ⟨b2, o2, none⟩) (gi L [] k).length uc, .func (.func 57) #[] #[.pointer (some ⟨W.heap.size + 1, 0, none⟩)]] wr (.int .i64 m)) := by
                have hh := indexFunc_ints _ (gi L [] k) 57 #[.pointer (some ⟨W.heap.size + 1, 0, none⟩)] (fun p => lfN L r p.toNat) wr HU.out c1_enters (fun i hi => by
                  have hnum := (vB_num HV.out hlk (k := i) (by rw [← (vB_ord HV.out hlk).1]; exact hi)).1
                  obtain ⟨q, hq⟩ := Int.eq_ofNat_of_zero_le hnum.1
                  rw [hq] at hnum ⊢
                  simp only [Int.toNat_natCast]
                  have hqn : q < L.length := by omega
                  exact c1_is q W.heap.size (W.heap.size + 1) L.length (lfN L r) wr hqn HST1.out.cellB (HST1.out.left.cell hqn))
                rw [hm1] at hh
                exact hh
              clear hm1 hm3 hm5
              gi_wp2_with (gi_at_call 56; refine callsIn_wide.2 (HIF.out.use ?_))
              go_roundw
              case rel =>
                refine ⟨k + 1, by omega, by go_num, below_set hbl.out (Nat.le_refl _) _, hbk.out.set (fun j hj => ?_)⟩
                by_cases e : j = k
                · subst e; simp
                · rw [if_neg e]
                  by_cases e2 : j < k
                  · rw [if_pos e2, if_pos (by omega)]
                  · rw [if_neg e2, if_neg (by omega)]
              case measure => simp [intOf]; omega
            · obtain rfl : k = L.length := by omega
              obtain ⟨w1, hw1⟩ : ∃ x, x = wr := ⟨_, rfl⟩
              subst hw1
              have hcl1 := (hbl.out.cell (p := ⟨b0, 0, none⟩) hlb).trans hcl
              obtain ⟨f, hf⟩ : ∃ f, ptN L (lfN L r) = f := ⟨_, rfl⟩
              obtain ⟨lf, hlf⟩ : ∃ f, lfN L r = f := ⟨_, rfl⟩
              have HCY : Hid (cyN L r = cycK f L.length lf L.length) := by show cyN L r = _; rw [cyN_eq, hf, hlf]
              have HLF := Lib.hid hlf
              have HFL : Hid (∀ i, i < L.length → f i < L.length) := by show ∀ i, _ → _; rw [← hf]; exact fun i hi => (points_of HV.out).lt _ i hi HANY.out
              have HFF : Hid (∀ i, i < L.length → lf i = true → lf (f i) = true) := by show ∀ i, _ → _ → _; rw [← hf, ← hlf]; exact fun i hi _ => (points_of HV.out).left _ i hi HANY.out
              have HS1 : Hid (RSt W.heap.size L.length lf w1) := by show RSt _ _ _ _; rw [← hlf]; exact hst.out.below hbl.out
              have HP1 : Hid (blk w1 wm.heap.size 3 (fun j => .int .i64 (f j)) L.length) := by show blk _ _ _ _ _; rw [← hf]; exact hbk.out.congr (fun j hj => by rw [if_pos hj])
              have HB01 : Hid (Below wm.heap.size wm w1) := hbl
              have HST0 := hst
              clear hf hlf hbk hbl hst hlk hk HT hcl
              gi_wp2
              obtain ⟨i0, hi0, hz0, hi1, hi2⟩ := info_parts infoInt
              obtain ⟨i8, hi8, hz8, hi81, hi82⟩ := info_parts infoInts
              gi_loopw [8, 52] (fun v p wc => ∃ k : Nat, k ≤ L.length ∧ p = .int .i64 k ∧ Hid (Below w1.heap.size w1 wc) ∧ Hid (OwnTab w1.heap.size wc v ((cycK f L.length lf k).map numsL)) ∧ Hid ((cycK f L.length lf k).length ≤ k)) (fun _ p _ => L.length - (intOf p).toNat)
              case atStart => exact ⟨0, Nat.zero_le _, rfl, Below.refl _ _, OwnTab.nil _ _, Nat.le_refl _⟩
              case round =>
                obtain ⟨v8, hv8⟩ : ∃ x, x = u8 := ⟨_, rfl⟩
                subst hv8
                obtain ⟨k, hk, rfl, hbc, hot, hcl8⟩ := hrel
                by_cases hlk : k < L.length
                · obtain ⟨wc, hwc⟩ : ∃ x, x = wr := ⟨_, rfl⟩
                  subst hwc
                  have HSc := Lib.hid (HS1.out.below hbc.out)
                  have HPc := Lib.hid (HP1.out.below hbc.out)
                  have hcB := HSc.out.cellB
                  have hszB := HSc.out.size
                  have hszs : W.heap.size < wc.heap.size := by omega
                  have hszp := HPc.out.lt
                  have hcs := HSc.out.left.cell hlk
                  have hcp := HPc.out.cell hlk
                  have hsk := cycK_succ f L.length lf k
                  unfold stepC at hsk
                  have HTi : Hid (TableAt (wc.alloc (.cells #[.int .i64 k] 3)) v8 ((cycK f L.length lf k).map numsL)) := hot.out.table.table.below (by (repeat' (first | exact Below.refl _ _ | assumption | refine below_new ?_ _ | refine below_draw ?_ | refine below_tail (by assumption) ?_ | refine below_set ?_ (by first | omega | (simp <;> omega)) _)))
                  obtain ⟨b2, hb2⟩ : ∃ b, ((cycK f L.length lf k).map numsL).any (fun l => hasB l k) = b := ⟨_, rfl⟩
                  have HCF : Hid (Same Try.prog 32 #[v8, .func (.func 58) #[] #[.pointer (some ⟨wc.heap.size, 0, none⟩)]] (wc.alloc (.cells #[.int .i64 k] 3)) (.bool b2)) := by
                    have hh := containsFunc_rows v8 _ 58 #[.pointer (some ⟨wc.heap.size, 0, none⟩)] (fun l => hasB l k) _ HTi.out c2_enters (fun i u hi hu => c2_is u _ k wc.heap.size _ hu (by simp))
                    rw [hb2] at hh
                    exact hh
                  have hb2' : (cycK f L.length lf k).any (fun c => c.contains k) = b2 := by
                    rw [← hb2, List.any_map]
                    congr 1
                    funext c
                    exact (numsL_has c k).symm
                  rw [hb2'] at hsk
                  clear hb2 hb2'
                  cases hlk1 : lf k
                  · rw [hlk1] at hcs hsk
                    have H1 : Hid (cycK f L.length lf (k + 1) = cycK f L.length lf k) := by show _ = _; rw [hsk]; simp
                    clear hsk hlk1
                    gi_wp2_with (gi_at_call 32; refine callsIn_wide.2 (HCF.out.use ?_))
                    go_roundw
                    case rel => exact ⟨k + 1, by omega, by go_num, hbc.out.alloc hbc.out.size _, by unfold Hid; rw [H1.out]; exact hot.out.keep (KeepT.of_below (by (repeat' (first | exact Below.refl _ _ | assumption | refine below_new ?_ _ | refine below_draw ?_ | refine below_tail (by assumption) ?_ | refine below_set ?_ (by first | omega | (simp <;> omega)) _)))) (KeepT.of_below (by (repeat' (first | exact Below.refl _ _ | assumption | refine below_new ?_ _ | refine below_draw ?_ | refine below_tail (by assumption) ?_ | refine below_set ?_ (by first | omega | (simp <;> omega)) _)))), by unfold Hid; rw [H1.out]; exact Nat.le_trans hcl8.out (by omega)⟩
                    case measure => simp [intOf]; omega
                  · rw [hlk1] at hcs hsk
                    cases b2
                    · clear hlk1
                      have HSK := Lib.hid hsk
                      clear hsk
                      gi_wp2_with (gi_at_call 32; refine callsIn_wide.2 (HCF.out.use ?_))
                      gi_loopw [10, 11] (fun v p wd => ∃ m : Nat, 1 ≤ m ∧ m ≤ L.length ∧ p = .int .i64 (iter f m k : Nat) ∧ Hid (Below (wc.heap.size + 1) (wc.alloc (.cells #[.int .i64 k] 3)) wd) ∧ Hid (wd.ownsRow (wc.heap.size + 1) 3 1 v m (cells1 (numsL (orb f k m)))) ∧ Hid ((orb f k m).Nodup)) (fun v _ _ => L.length + 1 - lenOf v)
                      case atStart =>
                        refine ⟨1, Nat.le_refl _, by omega, rfl, (Below.refl _ _).alloc (by simp) _, ?_, ?_⟩
                        · exact lit_int _ k f (by simp) (by simp)
                        · exact (by simp [orb] : (orb f k 1).Nodup)
                      case round =>
                        obtain ⟨v10, hv10⟩ : ∃ x, x = u10 := ⟨_, rfl⟩
                        subst hv10
                        obtain ⟨m, hm1, hmn, rfl, hbd, hown, hnd⟩ := hrel
                        have hxn : iter f m k < L.length := iter_lt HFL.out m k hlk
                        have HIA : Hid (IntsAt wr v10 (numsL (orb f k m))) := own_ints (by rw [numsL_length, orb_len]; exact hown.out)
                        have hcpx : (wc.alloc (.cells #[.int .i64 k] 3)).cell? ⟨wm.heap.size, iter f m k, none⟩ = some (.int .i64 (f (iter f m k))) := by
                          rw [← HPc.out.cell hxn]
                          exact (((Below.refl wc.heap.size wc).alloc (Nat.le_refl _) _).cell (p := ⟨wm.heap.size, iter f m k, none⟩) hszp)
                        obtain ⟨va, vc, rfl⟩ := own_slice hown.out
                        cases hx : hasB (numsL (orb f k m)) (iter f m k : Nat)
                        · have HX := Lib.hid hx
                          have hnd2 : (orb f k (m + 1)).Nodup := by
                            rw [orb_succ, List.nodup_append]
                            refine ⟨hnd.out, by simp, fun a ha b hb e => ?_⟩
                            simp only [List.mem_singleton] at hb
                            subst hb; subst e
                            rw [numsL_has] at hx
                            simp [ha] at hx
                          have hmn2 := Way.le HFL.out hlk hnd2
                          have HND := Lib.hid hnd2
                          clear hx hnd2
                          gi_wp2_with (first | (gi_at_call 52; refine callsIn_wide.2 ((contains_is HIA.out HX.out).use ?_)) | (gi_at_builtin; refine wpListIn_append_own _ rfl _ _ 35 rfl (wc.heap.size + 1) 3 i0 (.int .i64 0) 1 8 Try.underlying35 hi0 hz0 hi1 hi2 rfl (by decide) _ _ _ rfl (hown.out.alloc _) ⟨wr.heap.size, 0, none⟩ 1 1 [.int .i64 (iter f m k : Nat)] rfl rfl (app_src1 _ _ _) (one_int _) (by unfold maxLen; omega) (by omega) (by have := hbd.out.size; simp at this ⊢; omega) ?_; intro v' w4 hown4 hgrow _; have HB4 : Hid (Below (wc.heap.size + 1) (wc.alloc (.cells #[.int .i64 k] 3)) w4) := below_app hbd.out (by simp) hgrow (fun j hj => (hown.out.lt j hj).1); have hcp4 := (HB4.out.cell (p := ⟨wm.heap.size, iter f m k, none⟩) (by show wm.heap.size < _; omega)).trans hcpx; have hpl4 : wm.heap.size < w4.heap.size := (Nat.lt_of_lt_of_le (by simp; omega) HB4.out.size)))
                          go_roundw
                          case rel => exact ⟨m + 1, by omega, hmn2, rfl, HB4, by unfold Hid; rw [orb_succ]; unfold numsL at hown4 ⊢; rw [List.map_append, cells1_append]; exact hown4, HND⟩
                          case measure =>
                            obtain ⟨va', vc', rfl⟩ := own_slice hown4
                            simp [lenOf]; omega
                        · have HX := Lib.hid hx
                          have hway : Way f k m := ⟨hm1, hnd.out, by rw [numsL_has] at hx; simpa using hx⟩
                          have hwn : wayN f L.length k = m := (wayN_spec HFL.out hlk).uniq hway
                          obtain ⟨m', rfl⟩ : ∃ m', m = m' + 1 := ⟨m - 1, by omega⟩
                          obtain ⟨bv, ov, rfl, hbv, hcv⟩ := HIA.out.cellAt (m := m') (by rw [numsL_length, orb_len]; omega)
                          have hcv2 : wr.cell? ⟨bv, ov + m', none⟩ = some (.int .i64 (iter f m' k : Nat)) := by
                            rw [hcv, numsL_get (by rw [orb_len]; omega)]
                            congr 3
                            have := orb_get (f := f) (i := k) (show m' < m' + 1 by omega)
                            rw [List.getElem?_eq_getElem (by rw [orb_len]; omega)] at this
                            exact_mod_cast Option.some.inj this
                          clear hcv
                          have hxn' : iter f m' k < L.length := iter_lt HFL.out m' k hlk
                          have hcpy : wr.cell? ⟨wm.heap.size, iter f m' k, none⟩ = some (.int .i64 (iter f (m' + 1) k : Nat)) := by
                            refine (hbd.out.cell (p := ⟨wm.heap.size, iter f m' k, none⟩) (by show wm.heap.size < _; omega)).trans ?_
                            refine ((((Below.refl wc.heap.size wc).alloc (Nat.le_refl _) _).cell (p := ⟨wm.heap.size, iter f m' k, none⟩) hszp)).trans ?_
                            exact HPc.out.cell hxn'
                          have hcb9 : wr.cell? ⟨wc.heap.size, 0, none⟩ = some (.int .i64 k) := by
                            refine (hbd.out.cell (p := ⟨wc.heap.size, 0, none⟩) (by show wc.heap.size < _; omega)).trans ?_
                            simp
                          have g1 := fun dr os => cell_regrown hcv2 dr os
                          have g2 := fun dr os => cell_regrown hcpy dr os
                          have g3 := fun dr os => cell_regrown hcb9 dr os
                          have hBc : Below wc.heap.size wc wr := ((Below.refl wc.heap.size wc).alloc (Nat.le_refl _) _).trans (hbd.out.mono (by omega))
                          have HOT : Hid (OwnTab w1.heap.size wr v8 ((cycK f L.length lf k).map numsL)) := hot.out.keep (KeepT.of_below hBc) (KeepT.of_below hBc)
                          have HIT : Hid (IntsT w1.heap.size wr (.slice (some ⟨bv, ov, none⟩) (m' + 1) vc) (numsL (orb f k (m' + 1)))) := own_intsT (by rw [numsL_length, orb_len]; exact hown.out) (by have := hbc.out.size; omega)
                          clear hcv2 hcpy hcb9 hx
                          cases hb3 : ((iter f (m' + 1) k : Nat) : Int) == (k : Int)
                          · have H1 : Hid (cycK f L.length lf (k + 1) = cycK f L.length lf k) := by
                              show _ = _
                              rw [HSK.out, hwn, if_neg (by simp), if_neg (fun e => by rw [e] at hb3; simp at hb3)]
                            clear hwn
                            gi_wp2_with (gi_at_call 52; refine callsIn_wide.2 ((contains_is HIA.out HX.out).use ?_))
                            refine wpIn_wide.2 (region_q mixed (by kernel_rfl) ?_)
                            repeat (go_big_quiet_step (fail))
                            refine wpQuiet_nil ?_
                            intro wq hbq
                            gi_wp2
                            go_roundw
                            case rel => exact ⟨k + 1, by omega, by go_num, hbc.out.trans ((hBc.trans (hbq.mono hBc.size)).mono hbc.out.size), by unfold Hid; rw [H1.out]; exact HOT.out.keep (KeepT.of_below hbq) (KeepT.of_below hbq), by unfold Hid; rw [H1.out]; exact Nat.le_trans hcl8.out (by omega)⟩
                            case measure => simp [intOf]; omega
                          · have H1 : Hid (cycK f L.length lf (k + 1) = cycK f L.length lf k ++ [orb f k (m' + 1)]) := by
                              show _ = _
                              rw [HSK.out, hwn, if_neg (by simp), if_pos (by have := beq_iff_eq.1 hb3; omega)]
                            clear hwn
                            gi_wp2_with (gi_at_call 52; refine callsIn_wide.2 ((contains_is HIA.out HX.out).use ?_))
                            refine wpIn_wide.2 (region_q mixed (by kernel_rfl) ?_)
                            repeat (go_big_quiet_step (fail))
                            refine wpQuiet_nil ?_
                            intro wq hbq
                            have hcl9 := hcl8.out
                            obtain ⟨vals, hvals, hvi⟩ := HOT.out.keep (KeepT.of_below hbq) (KeepT.of_below hbq)
                            rw [List.length_map] at hvals
                            have HOV := Lib.hid hvals
                            have HVI := Lib.hid hvi
                            clear hvals hvi
                            gi_wp2_with (gi_at_builtin; (refine wpListIn_append_own _ rfl _ _ 22 rfl w1.heap.size 35 i8 (.slice none 0 0) 1 24 Try.underlying22 hi8 hz8 hi81 hi82 rfl (by decide) _ _ _ rfl (HOV.out.alloc _) ⟨wq.heap.size, 0, none⟩ 1 1 [.slice (some ⟨bv, ov, none⟩) (m' + 1) vc] rfl rfl (app_src1 _ _ _) (one_slice _ _ _) (by unfold maxLen; omega) (by omega) (by have := hbq.size; have := hbd.out.size; have := hbc.out.size; have := HB01.out.size; simp at *; omega) ?_); intro v8' w8 hown8 hgrow8 _)
                            go_roundw
                            case rel =>
                              refine ⟨k + 1, by omega, by go_num, ?_, ?_, by unfold Hid; rw [H1.out, List.length_append]; have := hcl8.out; simp; omega⟩
                              · exact below_app (hbc.out.trans ((hBc.trans (hbq.mono hBc.size)).mono hbc.out.size)) (Nat.le_refl _) hgrow8 (fun j hj => (HOV.out.lt j hj).1)
                              · unfold Hid
                                rw [H1.out, List.map_append]
                                exact OwnTab.app (by rw [List.length_map]; exact HOV.out.alloc _) (fun j hj => by
                                  obtain ⟨u, hu1, hu2⟩ := HVI.out j hj
                                  exact ⟨u, hu1, hu2.keep (KeepT.of_below (by (repeat' (first | exact Below.refl _ _ | assumption | refine below_new ?_ _ | refine below_draw ?_ | refine below_tail (by assumption) ?_ | refine below_set ?_ (by first | omega | (simp <;> omega)) _))))⟩) ((HIT.out.keep (KeepT.of_below hbq)).keep (KeepT.of_below (by (repeat' (first | exact Below.refl _ _ | assumption | refine below_new ?_ _ | refine below_draw ?_ | refine below_tail (by assumption) ?_ | refine below_set ?_ (by first | omega | (simp <;> omega)) _))))) hown8 (by rw [List.length_map]) hgrow8
                            case measure => simp [intOf]; omega
                    · have H1 : Hid (cycK f L.length lf (k + 1) = cycK f L.length lf k) := by show _ = _; rw [hsk]; simp
                      clear hsk hlk1
                      gi_wp2_with (gi_at_call 32; refine callsIn_wide.2 (HCF.out.use ?_))
                      go_roundw
                      case rel => exact ⟨k + 1, by omega, by go_num, hbc.out.alloc hbc.out.size _, by unfold Hid; rw [H1.out]; exact hot.out.keep (KeepT.of_below (by (repeat' (first | exact Below.refl _ _ | assumption | refine below_new ?_ _ | refine below_draw ?_ | refine below_tail (by assumption) ?_ | refine below_set ?_ (by first | omega | (simp <;> omega)) _)))) (KeepT.of_below (by (repeat' (first | exact Below.refl _ _ | assumption | refine below_new ?_ _ | refine below_draw ?_ | refine below_tail (by assumption) ?_ | refine below_set ?_ (by first | omega | (simp <;> omega)) _)))), by unfold Hid; rw [H1.out]; exact Nat.le_trans hcl8.out (by omega)⟩
                      case measure => simp [intOf]; omega
                · obtain rfl : k = L.length := by omega
                  obtain ⟨w2, hw2⟩ : ∃ x, x = wr := ⟨_, rfl⟩
                  subst hw2
                  have hcl9 := hcl8.out
                  rw [← HCY.out] at hot hcl9
                  obtain ⟨cs, hcs⟩ : ∃ x, cyN L r = x := ⟨_, rfl⟩
                  have HCS := Lib.hid hcs
                  rw [hcs] at hot hcl9
                  have HMEM : Hid (∀ c ∈ cs, ∀ x ∈ c, x < L.length) := by
                    show ∀ c ∈ cs, _
                    rw [← hcs, HCY.out]
                    exact fun c hc x hx => cyc_lt HFL.out HFF.out hc hx
                  have HTT0 := hot.out.table
                  obtain ⟨va, vc, rfl, hvl, hvm, -⟩ := id HTT0
                  rw [List.length_map] at hvl HTT0
                  rw [List.length_map]
                  have HTT : Hid (TableT (W.heap.size + 2) w2 (.slice va cs.length vc) (cs.map numsL)) := HTT0.mono (by have := HS1.out.size; omega)
                  have HS2 := Lib.hid (HS1.out.below hbc.out)
                  have HPR : Hid (Priv W.heap.size 2 wm w2) := (Priv.of_below HB01.out).trans (Priv.of_below hbc.out)
                  have HJ2 : Hid (J r w2) := HJ.out r wm w2 (by omega) hJr.out HPR.out
                  have hsz2 := HS2.out.size
                  clear hot hcl8 hcs HTT0 hbc HP1 HB01 HPR hlk hk hcl1
                  gi_wp2
                  gi_loopw [101] (fun p wl => ∃ q : Nat, q ≤ cs.length ∧ p = .int .i64 q ∧ Hid (Priv W.heap.size 2 w2 wl) ∧ Hid (RSt W.heap.size L.length (fun j => lf j && !((cs.take q).flatten.contains j)) wl)) (fun p _ => cs.length - (intOf p).toNat)
                  case atStart => exact ⟨0, Nat.zero_le _, rfl, Priv.refl _ _ _, ⟨HS2.out.left.congr (fun j _ => by simp), HS2.out.box⟩⟩
                  case round =>
                    obtain ⟨q, hq, rfl, hpl, hsl⟩ := hrel
                    obtain ⟨wl, hwl⟩ : ∃ x, x = wr := ⟨_, rfl⟩
                    subst hwl
                    by_cases hlq : q < cs.length
                    · obtain ⟨c, hc⟩ : ∃ c, cs[q] = c := ⟨_, rfl⟩
                      have HTl := Lib.hid (HTT.out.keep (KeepT.of_priv hpl.out (Nat.le_refl _)) (KeepT.of_priv hpl.out (Nat.le_refl _)))
                      obtain ⟨a9, c9, e9, -, -, -, hrow⟩ := id HTl.out
                      simp only [Value.slice.injEq] at e9
                      obtain ⟨rfl, -, rfl⟩ := e9
                      obtain ⟨b, o, u, rfl, hB, hcell, hu⟩ := hrow q (by rw [List.length_map]; exact hlq)
                      have hgq : gi (cs.map numsL) [] q = numsL c := by rw [gi_lt (by rw [List.length_map]; exact hlq), List.getElem_map, hc]
                      rw [hgq] at hu
                      have HU := Lib.hid hu
                      obtain ⟨⟨ua, uc, rfl, hul, hum, -⟩, -⟩ := hu
                      have HCM : Hid (∀ x ∈ c, x < L.length) := HMEM.out c (by rw [← hc]; exact List.getElem_mem _)
                      have htake : Hid (cs.take (q + 1) = cs.take q ++ [c]) := by show _ = _; rw [List.take_succ_eq_append_getElem hlq, hc]
                      rw [numsL_length] at hul
                      rw [numsL_length] at hcell HU
                      clear hrow hgq hc
                      gi_wp2
                      gi_loopw [107] (fun p wx => ∃ y : Nat, y ≤ c.length ∧ p = .int .i64 y ∧ Hid (Priv W.heap.size 2 wl wx) ∧ Hid (RSt W.heap.size L.length (fun j => lf j && !(((cs.take q).flatten ++ c.take y).contains j)) wx)) (fun p _ => c.length - (intOf p).toNat)
                      case atStart => exact ⟨0, Nat.zero_le _, rfl, Priv.refl _ _ _, ⟨hsl.out.left.congr (fun j _ => by simp), hsl.out.box⟩⟩
                      case round =>
                        obtain ⟨y, hy, rfl, hpx, hsx⟩ := hrel
                        by_cases hly : y < c.length
                        · obtain ⟨x, hx⟩ : ∃ x, c[y] = x := ⟨_, rfl⟩
                          have hxl : x < L.length := HCM.out x (by rw [← hx]; exact List.getElem_mem _)
                          have HUx := HU.out.keep (KeepT.of_priv hpx.out (Nat.le_refl _))
                          obtain ⟨b3, o3, rfl, hB3, hc3⟩ := HUx.1.cellAt (m := y) (by rw [numsL_length]; exact hly)
                          rw [numsL_get hly, hx] at hc3
                          have hcB := hsx.out.cellB
                          have hcs := hsx.out.left.cell hxl
                          have hfs := hsx.out.left.frozen x
                          have hyt : Hid (c.take (y + 1) = c.take y ++ [x]) := by show _ = _; rw [List.take_succ_eq_append_getElem hly, hx]
                          have HSX := hsx
                          clear hsx hx HUx
                          gi_wp2
                          go_roundw
                          case rel =>
                            refine ⟨y + 1, by omega, by go_num, hpx.out.trans (Priv.set _ _ _ (Nat.le_refl _) (by simp)), ⟨HSX.out.left.set (fun j hj => ?_), (Below.heap_setCell _ _ _ _ (by simp)).trans HSX.out.box⟩⟩
                            rw [hyt.out]
                            by_cases e : j = x
                            · subst e; simp
                            · rw [if_neg e]; congr 2
                              rw [Bool.eq_iff_iff]
                              simp [e]
                          case measure => simp [intOf]; omega
                        · obtain rfl : y = c.length := by omega
                          gi_wp2
                          go_roundw
                          case rel =>
                            refine ⟨q + 1, by omega, by go_num, hpl.out.trans hpx.out, ⟨hsx.out.left.congr (fun j hj => ?_), hsx.out.box⟩⟩
                            rw [htake.out, List.take_length]
                            simp
                          case measure => simp [intOf]; omega
                    · obtain rfl : q = cs.length := by omega
                      have hlt2 : cntL L.length (lfN L (r + 1)) < cntL L.length (lfN L r) := by
                        rw [lfN_succ, HCY.out, HLF.out]
                        exact cntL_next HFL.out HFF.out (by rw [← HLF.out]; exact HANY.out)
                      have HS3 : Hid (RSt W.heap.size L.length (lfN L (r + 1)) wl) := by
                        refine ⟨hsl.out.left.congr (fun j hj => ?_), hsl.out.box⟩
                        rw [List.take_length, lfN_succ, HCS.out, HLF.out]
                        unfold nextL inC
                        congr 3
                        rw [Bool.eq_iff_iff, List.contains_iff_mem, List.mem_flatten, List.any_eq_true]
                        simp only [List.contains_iff_mem]
                      have HJ3 : Hid (J r wl) := HJ.out r w2 wl (by omega) HJ2.out hpl.out
                      have HTl : Hid (TableT (W.heap.size + 2) wl (.slice va cs.length vc) (cs.map numsL)) := HTT.out.keep (KeepT.of_priv hpl.out (Nat.le_refl _)) (KeepT.of_priv hpl.out (Nat.le_refl _))
                      have HRd := Lib.hid (HY.out r wl #[.slice va cs.length vc] (by have := HS3.out.size; omega) HJ3.out hlt ⟨_, rfl, by rw [HCS.out]; exact HTl.out⟩)
                      have HCNT := Lib.hid hlt2
                      clear hsl hlt2
                      obtain ⟨fn, tmps, assign, body, hy, hRd⟩ := HRd.out
                      have HRD := Lib.hid hRd
                      clear hRd
                      gi_wp2
                      refine HRD.out.mono ?_
                      rintro e W3 ⟨hstand, hsz3, (⟨rfl, hJ3⟩ | ⟨rfl, hJx3⟩)⟩
                      · have HS4 : Hid (RSt W.heap.size L.length (lfN L (r + 1)) W3) :=
                          ⟨HS3.out.left.same (hstand _ (Nat.le_refl _) (by omega)), (hstand _ (by omega) (by omega)).trans HS3.out.box⟩
                        have HJ4 := Lib.hid hJ3
                        clear hJ3 hstand
                        gi_wp2
                        go_roundw
                        case rel => exact ⟨r + 1, hlt, HS4, HJ4⟩
                        case measure => rw [cnt_blk HS4.out.left, cnt_blk HST0.out.left]; exact HCNT.out
                      · gi_wp2
                        refine bodyPost_ret (results_none rfl _ _ _) rfl ?_
                        exact ⟨⟨_, rfl⟩, .inr ⟨r, hJx3⟩⟩
end Go.Proofs.Ytpbkkekdjkmpmaa
