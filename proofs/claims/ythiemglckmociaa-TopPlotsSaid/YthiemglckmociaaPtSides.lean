/- What sides of package plot gives, and what it goes over. Conditions: the list lies in memory as said. -/
import Derived.Test.YthiemglckmociaaPtLowA
namespace Go.Proofs.Ythiemglckmociaa
open Go.RowKit Go.Shelf
attribute [local go_sem] Oper.semAt_some

/-- The corners of a list, again and again. -/
def cor (l : List (Int × Int)) (i : Nat) : Int × Int := gi l (0, 0) (i % l.length)
theorem cor_lt {l : List (Int × Int)} {i : Nat} (h : i < l.length) : cor l i = gi l (0, 0) i := by unfold cor; rw [Nat.mod_eq_of_lt h]
/-- The corner k + c lies at some place m. -/
theorem cor_at {l : List (Int × Int)} (k c : Nat) (h : 0 < l.length) : ∃ m : Nat, ((k : Int) + c) % (l.length : Int) = (m : Int) ∧ m < l.length ∧ cor l (k + c) = gi l (0, 0) m :=
  ⟨(k + c) % l.length, by rw [Int.natCast_emod]; simp, Nat.mod_lt _ h, rfl⟩
/-- A side as it is handed on. -/
def sideV (a b : Int × Int) : Value := .agg #[.int .i64 a.1, .int .i64 a.2, .int .i64 b.1, .int .i64 b.2]

theorem PairsAt.cellAt {w : World} {a : Option Addr} {n cap : Nat} {l : List (Int × Int)} (h : PairsAt w (.slice a n cap) l) {m : Nat} (hm : m < l.length) :
    ∃ b o, a = some ⟨b, o, none⟩ ∧ b < w.heap.size ∧ w.cell? ⟨b, o + m * 2, none⟩ = some (.int .i64 (gi l (0, 0) m).1) ∧ w.cell? ⟨b, o + m * 2 + 1, none⟩ = some (.int .i64 (gi l (0, 0) m).2) := by
  obtain ⟨a', cap', hv, _, _, h3⟩ := h
  cases hv
  exact h3 m hm

set_option maxHeartbeats 400000 in
theorem sides_calls (a : Option Addr) (n c : Nat) (w : World) :
    Calls Try.prog 56 #[.slice a n c] w fun e w' => e = .returned (.func (.func 103) #[] #[.pointer (some ⟨w.heap.size, 0, none⟩)]) ∧ w.alloc (.cells #[.slice a n c] 22) = w' := by
  go_enter Try.func56, Try.ntmps56
  go_wp2
  go_ret
  exact ⟨rfl, rfl⟩

set_option maxHeartbeats 1000000 in
theorem sides_iter (b0 : Nat) (v : Value) (l : List (Int × Int)) (h0 : 0 < l.length) (hl : l.length ≤ 1000000) :
    Iter Try.prog 103 #[.pointer (some ⟨b0, 0, none⟩)] (fun k => #[.int .i64 k, .agg #[.int .i64 (cor l k).1, .int .i64 (cor l k).2, .int .i64 (cor l (k + 1)).1, .int .i64 (cor l (k + 1)).2]]) (some l.length)
      (fun W => W.cell? ⟨b0, 0, none⟩ = some v ∧ PairsAt W v l) := by
  intro n ll J Jx W hR hJ hJx hY hN hJ0
  have hR0 := (hR 0 W hJ0).2
  obtain ⟨a, cap, rfl, hlc, hcm, _⟩ := hR0
  have HR := Lib.hid hR
  have HJ0 := Lib.hid hJ0
  have HY := Lib.hid hY
  have HJ := Lib.hid hJ
  have hc := (hR 0 W hJ0).1
  clear hN hR hJ hJx hY hJ0
  refine callsIn_of_wp Try.func103 rfl trivial ?_ rfl
  simp only [Try.ntmps103, List.size_toArray, List.length_cons, List.length_nil, Nat.reduceAdd, Nat.reduceSub, Array.replicate_succ, Array.replicate_zero, List.push_toArray, List.append_toArray, List.nil_append, List.cons_append]
  gi_wp2
  gi_loopw [6] (fun p wr => ∃ k : Nat, k ≤ l.length ∧ p = .int .i64 k ∧ Hid (J k wr)) (fun p _ => l.length - (intOf p).toNat)
  case atStart => exact ⟨0, Nat.zero_le _, rfl, HJ0.out⟩
  case round =>
    obtain ⟨k, hk, rfl, hJk⟩ := hrel
    by_cases hlt : k < l.length
    · obtain ⟨hcb, hP⟩ := HR.out k wr hJk.out
      obtain ⟨m, hm1, hm2, hm3⟩ := cor_at (l := l) k 1 h0
      obtain ⟨b, o, rfl, hB, c1, c2⟩ := hP.cellAt hlt
      obtain ⟨b', o', he, _, c3, c4⟩ := hP.cellAt hm2
      cases he
      have hm1' : ((k : Int) + 1) % (l.length : Int) = (m : Int) := hm1
      clear hm1 hP
      have E1 : Hid (cor l k = gi l (0, 0) k) := cor_lt hlt
      have E2 := Lib.hid hm3
      clear hm3
      have HRd := Lib.hid (HY.out k wr.drew (HJ.out _ _ _ hJk.out (below_draw (Below.refl _ _))) (fun m h => by cases h; exact hlt))
      gi_wp2
      refine wpIn_region_quiet_tail asksNone_wide 15 mixed (by kernel_rfl) (by kernel_rfl) ?_
      simp only [List.take_succ_cons, List.take_zero, List.drop_succ_cons, List.drop_zero]
      repeat (go_big_quiet_step (fail))
      refine wpQuiet_nil ?_
      obtain ⟨fn, tmps, assign, body, hy, hRd⟩ := HRd.out
      rw [E1.out, E2.out] at hy
      gi_wp2
      refine ⟨fun h => (by cases h), ?_⟩
      refine hRd.mono ?_
      rintro e W3 (⟨rfl, hJ3⟩ | ⟨rfl, hJx3⟩)
      · gi_wp2
        go_roundw
        case rel => exact ⟨k + 1, by omega, by go_num, hJ3⟩
        case measure => simp [intOf]; omega
      · gi_wp2
        refine bodyPost_ret (results_none rfl _ _ _) rfl ?_
        exact ⟨⟨_, rfl⟩, .inr ⟨k, hJx3⟩⟩
    · obtain rfl : k = l.length := by omega
      gi_wp2
      go_end0
      exact ⟨⟨_, rfl⟩, .inl ⟨_, rfl, hJk.out⟩⟩
end Go.Proofs.Ythiemglckmociaa
