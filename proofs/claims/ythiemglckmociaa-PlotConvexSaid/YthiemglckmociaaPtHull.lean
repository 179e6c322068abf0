/- What Hull of package plot gives: the convex plot around points. Conditions: the list lies in memory as said. -/
import Derived.Test.YthiemglckmociaaPtSort
import Derived.Test.YthiemglckmociaaPtComp
import Derived.Test.YthiemglckmociaaPtHullF
import Derived.Test.YthiemglckmociaaPtKnown
namespace Go.Proofs.Ythiemglckmociaa
open Go.RowKit

theorem grown_refl (w : World) (r : Option Nat) : w.grownBy w r := ⟨rfl, rfl, rfl, Nat.le_refl _, fun _ _ _ => rfl⟩
theorem grown_drew {a b : World} {r : Option Nat} (h : a.grownBy b r) : a.grownBy b.drew r := ⟨h.os, h.tape, h.output, h.size, h.block⟩
set_option maxHeartbeats 4000000 in
set_option maxRecDepth 100000 in
theorem reverseG_calls (base g cap : Nat) (l : List (Int × Int)) (w : World) (h : w.ownsRow base 32 2 (.slice (some ⟨g, 0, none⟩) l.length cap) l.length (cells2 l)) (h0 : 0 < l.length) (hl : l.length ≤ 1000) :
    Calls Try.prog 84 #[.slice (some ⟨g, 0, none⟩) l.length cap] w fun e w' => e = .returned (.tuple #[]) ∧ w'.ownsRow base 32 2 (.slice (some ⟨g, 0, none⟩) l.length cap) l.length (cells2 l.reverse) ∧ w.grownBy w' (some g) := by
  have hg := own_block_le2 h g rfl
  have hgl := (h.lt g rfl).2
  have hcap : l.length ≤ cap ∧ cap ≤ 9223372036854775807 := by
    obtain ⟨_, ⟨e, _⟩ | ⟨g', cap', cur, e, _, _, h1, h2, _⟩⟩ := h
    · cases e
    · cases e; exact ⟨h1, by unfold maxLen at h2; omega⟩
  go_enter Try.func84, Try.ntmps84
  go_wp2_with fail
  go_loopw [2, 3] (fun s t wr => ∃ k : Nat, 2 * k ≤ l.length ∧ s = .int .i64 k ∧ t = .int .i64 ((l.length : Int) - 1 - k) ∧ wr.ownsRow base 32 2 (.slice (some ⟨g, 0, none⟩) l.length cap) l.length (cells2 (rvK l k)) ∧ w.grownBy wr (some g)) (fun s _ _ => l.length - (intOf s).toNat)
  case atStart => exact ⟨0, by omega, rfl, by simp, by rw [rvK_zero]; exact h, grown_refl _ _⟩
  case round =>
    obtain ⟨k, hk, rfl, rfl, hown, hbw⟩ := hrel
    by_cases hlt : 2 * k + 1 < l.length
    · have hg1 : decide ((k : Int) < (l.length : Int) - 1 - k) = true := decide_eq_true (by omega)
      obtain ⟨j, hj⟩ : ∃ j : Nat, (l.length : Int) - 1 - k = (j : Int) ∧ j = l.length - 1 - k := ⟨l.length - 1 - k, by omega, rfl⟩
      have hjk : k < j := by omega
      have hjn : j < l.length := by omega
      have e1 := (hown.cellAt (k * 2) (by omega)).trans (cells2_get1 _ k (by rw [rvK_length]; omega))
      have e2 := (hown.cellAt (k * 2 + 1) (by omega)).trans (cells2_get2 _ k (by rw [rvK_length]; omega))
      have e3 := (hown.cellAt (j * 2) (by omega)).trans (cells2_get1 _ j (by rw [rvK_length]; omega))
      have e4 := (hown.cellAt (j * 2 + 1) (by omega)).trans (cells2_get2 _ j (by rw [rvK_length]; omega))
      rw [rvK_left l k hlt] at e1 e2
      rw [hj.2, rvK_right l k hlt, ← hj.2] at e3 e4
      have f1 := hown.frozenAt (k * 2)
      have f2 := hown.frozenAt (k * 2 + 1)
      have f3 := hown.frozenAt (j * 2)
      have f4 := hown.frozenAt (j * 2 + 1)
      have HS := Lib.hid (rvK_swap l k hlt)
      rw [hj.1] at hg1 ⊢
      have HJ := Lib.hid hj
      clear hj
      go_wp2_with fail
      have hmixed : Try.prog.follows .mixedOrders = true := mixed
      go_big_region_o
      all_goals go_wp2_with fail
      have q1 := (hown.stored (k * 2) (.int .i64 (gi l (0, 0) j).1)).1
      have q2 := (q1.stored (k * 2 + 1) (.int .i64 (gi l (0, 0) j).2)).1
      have q3 := (q2.stored (j * 2) (.int .i64 (gi l (0, 0) k).1)).1
      have q4 := (q3.stored (j * 2 + 1) (.int .i64 (gi l (0, 0) k).2)).1
      rw [← cells2_put (rvK l k) k (gi l (0, 0) j), ← cells2_put _ j (gi l (0, 0) k), HJ.out.2, ← HS.out, ← HJ.out.2] at q4
      go_roundw
      case rel => exact ⟨k + 1, by omega, by go_num, by have := HJ.out; congr 1; omega, q4.drew, grown_drew (grown_trans (grown_trans (grown_trans (grown_trans hbw (grown_set _ ⟨g, _, none⟩ _)) (grown_set _ ⟨g, _, none⟩ _)) (grown_set _ ⟨g, _, none⟩ _)) (grown_set _ ⟨g, _, none⟩ _))⟩
      case measure => simp [intOf]; omega
    · have hg1 : decide ((k : Int) < (l.length : Int) - 1 - k) = false := decide_eq_false (by omega)
      go_wp2_with fail
      go_end0
      exact ⟨rfl, by rw [← rvK_done l k (by omega)]; exact hown, hbw⟩
theorem own_grown {w w' : World} {base size n : Nat} {e : TypeId} {v : Value} {xs : List Value} {g : Nat} (h : w.ownsRow base e size v n xs) (hg : w.grownBy w' (some g)) (hn : v.ownBlock ≠ some g) : w'.ownsRow base e size v n xs := h.kept hg (.inr hn)
/-- What compaction keeps. -/
theorem compact_mem {d : Array (Int × Int)} {x : Int × Int} : ∀ m, m ≤ d.size → (x ∈ Lib.compactUpTo d m ↔ ∃ i, i < m ∧ d[i]! = x)
  | 0, _ => by unfold Lib.compactUpTo; simp
  | m + 1, hm => by
    rw [Lib.compactUpTo_succ, List.mem_append, compact_mem m (by omega)]
    constructor
    · rintro (⟨i, hi, e⟩ | h)
      · exact ⟨i, by omega, e⟩
      · split at h
        · exact ⟨m, by omega, (List.mem_singleton.1 h).symm⟩
        · cases h
    · rintro ⟨i, hi, e⟩
      by_cases hk : Lib.keeps d m = true
      · rw [if_pos hk]
        rcases Nat.lt_succ_iff_lt_or_eq.1 hi with c | c
        · exact .inl ⟨i, c, e⟩
        · right; rw [← c, e]; simp
      · left
        rcases Nat.lt_succ_iff_lt_or_eq.1 hi with c | c
        · exact ⟨i, c, e⟩
        · subst c
          unfold Lib.keeps at hk
          have hk : ¬ (i = 0 ∨ d[i]! ≠ d[i - 1]!) := by simpa using hk
          have h0 : i ≠ 0 := fun e => hk (.inl e)
          have h1 : d[i]! = d[i - 1]! := Classical.byContradiction fun e => hk (.inr e)
          exact ⟨i - 1, by omega, by rw [← h1]; exact e⟩
theorem compact_sorted {d : Array (Int × Int)} (hs : ∀ i j, i < j → j < d.size → ¬ lexLt d[j]! d[i]!) : (Lib.compactUpTo d d.size).Pairwise ltP := by
  unfold Lib.compactUpTo
  rw [List.pairwise_map, List.pairwise_filter]
  have hr : (List.range d.size).Pairwise fun i j => i < j ∧ j < d.size := by
    rw [List.pairwise_iff_getElem]
    intro i j hi hj hij
    simp at hi hj ⊢
    omega
  refine hr.imp fun {i j} ⟨h1, h2⟩ _ hk => ?_
  unfold Lib.keeps at hk
  have hk : j = 0 ∨ d[j]! ≠ d[j - 1]! := by simpa using hk
  have hne : d[j]! ≠ d[j - 1]! := hk.resolve_left (by omega)
  have a1 : ¬ lexLt d[j]! d[j - 1]! := hs _ _ (by omega) h2
  have a2 : ltP d[j - 1]! d[j]! := by
    rcases ltP.tri d[j - 1]! d[j]! with c | c | c
    · exact c
    · exact absurd c.symm hne
    · exact absurd c a1
  by_cases hij : i = j - 1
  · rw [hij]; exact a2
  · have a3 : ¬ lexLt d[j - 1]! d[i]! := hs _ _ (by omega) (by omega)
    rcases ltP.tri d[i]! d[j - 1]! with c | c | c
    · exact c.trans a2
    · rw [c]; exact a2
    · exact absurd c a3
theorem dd_sorted {l l' : List (Int × Int)} (hp : l'.Perm l) (hs : l'.Pairwise (fun a b => ¬ lexLt b a)) : ddF l' = sortC l := by
  have e : ddF l' = Lib.compactUpTo l'.toArray l'.toArray.size := by unfold ddF Lib.compact; simp
  rw [List.pairwise_iff_getElem] at hs
  refine sorted_one ?_ (sortC_sorted l) fun x => ?_
  · rw [e]
    refine compact_sorted fun i j hij hj => ?_
    have hj' : j < l'.length := by simpa using hj
    rw [arr_get hj', arr_get (by omega), gi_lt hj', gi_lt (by omega)]
    exact hs i j (by omega) hj' hij
  · rw [e, compact_mem _ (Nat.le_refl _), sortC_mem, ← hp.mem_iff]
    constructor
    · rintro ⟨i, hi, h⟩
      have hi' : i < l'.length := by simpa using hi
      rw [arr_get hi', gi_lt hi'] at h
      rw [← h]; exact List.getElem_mem _
    · intro h
      obtain ⟨i, hi, h⟩ := List.getElem_of_mem h
      exact ⟨i, by simpa using hi, by rw [arr_get hi, gi_lt hi]; exact h⟩
theorem hullE_cases (l : List (Int × Int)) : (10 < l.length → hullE l = 3 ∧ hullL l = []) ∧ (l.length ≤ 10 → rangedB l = false → hullE l = 1 ∧ hullL l = []) ∧ (l = [] → hullE l = 8 ∧ hullL l = []) ∧
    (l.length ≤ 10 → rangedB l = true → (hullF (sortC l)).length < 3 → hullE l = 8 ∧ hullL l = []) ∧ (l.length ≤ 10 → rangedB l = true → ¬ (hullF (sortC l)).length < 3 → hullE l = 0 ∧ hullL l = hullF (sortC l)) := by
  have key : ∀ e, hullE l = e → e ≠ 0 → hullE l = e ∧ hullL l = [] := fun e h h0 => ⟨h, by unfold hullL; rw [if_neg (by rw [h]; exact h0)]⟩
  refine ⟨fun h => key 3 ?_ (by decide), fun h h2 => key 1 ?_ (by decide), fun h => key 8 ?_ (by decide), fun h h2 h3 => key 8 ?_ (by decide), fun h h2 h3 => ?_⟩
  · unfold hullE; rw [if_pos h]
  · unfold hullE; rw [if_neg (by omega), if_pos h2]
  · subst h; rfl
  · unfold hullE; rw [if_neg (by omega), if_neg (by rw [h2]; decide), if_pos h3]
  · have e : hullE l = 0 := by unfold hullE; rw [if_neg (by omega), if_neg (by rw [h2]; decide), if_neg h3]
    exact ⟨e, by unfold hullL; rw [if_pos e]⟩
theorem hrange_enters : ∀ args w, (callFunc 78 args).run Try.prog w = .ok (.enter 78 args) w := fun args w => enters_of Try.func78 (by kernel_rfl) rfl args w
theorem hull_len (s : List (Int × Int)) : (hullF s).length = (chainF s).length + (chainF s.reverse).length := by unfold hullF; rw [List.length_append]
theorem popF_len (x : Int × Int) : ∀ st : List (Int × Int), (popF x st).length ≤ st.length
  | [] => Nat.le_refl _
  | [_] => Nat.le_refl _
  | b :: a :: r => by
    unfold popF
    split
    · exact Nat.le_succ_of_le (popF_len x (a :: r))
    · exact Nat.le_refl _
theorem chK_len (l : List (Int × Int)) : ∀ k, k ≤ l.length → (chK l k).length ≤ k
  | 0, _ => Nat.le_refl _
  | k + 1, h => by
    rw [chK_succ (by omega), List.length_cons]
    have := popF_len (gi l (0, 0) k) (chK l k)
    have := chK_len l k (by omega)
    omega
theorem chainF_len (l : List (Int × Int)) : (chainF l).length ≤ l.length := by
  unfold chainF
  rw [List.length_reverse, List.length_tail, ← chK_all]
  have := chK_len l l.length (Nat.le_refl _)
  omega
theorem sortC_len (l : List (Int × Int)) : (sortC l).length ≤ l.length := by
  refine nodup_len ?_ fun x hx => (sortC_mem x l).1 hx
  refine (sortC_sorted l).imp fun {a b} h e => ?_
  rw [e] at h; exact h.irr
set_option maxHeartbeats 4000000 in
set_option maxRecDepth 100000 in
theorem Hull_calls (v : Value) (l : List (Int × Int)) (w : World) (h : PairsAt w v l) : GivesPts Try.prog 35 #[v] w (hullL l) (hullE l) := by
  have HP := Lib.hid h
  obtain ⟨k1, k2, k3, k4, k5⟩ := hullE_cases l
  obtain ⟨sa, cap, rfl, hlc, hcm, -⟩ := h
  have HCF : ∀ W, Below w.heap.size w W → Gives Try.prog 62 #[.slice sa l.length cap, .func (.func 78) #[] #[]] W (.bool (l.any fun x => !(inR x))) := fun W hb => containsFunc_pts _ l 78 #[] (fun x => !(inR x)) _ (HP.out.below hb) hrange_enters (fun x w' _ => rangeH_calls x w')
  rw [any_inR] at HCF
  obtain ⟨rb, hrb⟩ : ∃ b, rangedB l = b := ⟨_, rfl⟩
  rw [hrb] at HCF
  have HC := Lib.hid HCF
  clear HCF
  unfold GivesPts
  by_cases h10 : 10 < l.length
  · have x0 : decide ((10 : Int) < (l.length : Int)) = true := decide_eq_true (by omega)
    have HK := Lib.hid (k1 h10)
    clear k1 k2 k3 k4 k5 hrb
    go_enter Try.func35, Try.ntmps35
    go_wp2_with fail
    refine bodyPost_ret (v := .tuple #[.slice none 0 0, .int .i64 3]) (by simp [results, Try.f35, go_sem]) rfl ?_
    exact ⟨_, by rw [HK.out.1], by rw [HK.out.2]; exact World.ownsRow_nil _ _ _ _, Below.refl _ _⟩
  · have x0 : decide ((10 : Int) < (l.length : Int)) = false := decide_eq_false (by omega)
    cases rb
    · have HK := Lib.hid (k2 (by omega) hrb)
      clear k1 k2 k3 k4 k5 hrb
      go_enter Try.func35, Try.ntmps35
      go_wp2_with (go_at_call 62; refine (HC.out _ (by (repeat' (first | exact Below.refl _ _ | assumption | refine below_new ?_ _ | refine below_draw ?_ | refine below_tail (by assumption) ?_ | refine below_set ?_ (by first | omega | (simp <;> omega)) _)))).use ?_; intro w1 hb1 hz1 hc1 hf1; clear hc1 hf1)
      refine bodyPost_ret (v := .tuple #[.slice none 0 0, .int .i64 1]) (by simp [results, Try.f35, go_sem]) rfl ?_
      exact ⟨_, by rw [HK.out.1], by rw [HK.out.2]; exact World.ownsRow_nil _ _ _ _, by (repeat' (first | exact Below.refl _ _ | assumption | refine below_new ?_ _ | refine below_draw ?_ | refine below_tail (by assumption) ?_ | refine below_set ?_ (by first | omega | (simp <;> omega)) _))⟩
    · by_cases hn : l = []
      · have HK := Lib.hid (k3 hn)
        have hl0 : l.length = 0 := by rw [hn]; rfl
        have x1 : ((l.length : Int) == 0) = true := by rw [hl0]; rfl
        clear k1 k2 k3 k4 k5 hrb hn hl0
        go_enter Try.func35, Try.ntmps35
        go_wp2_with (go_at_call 62; refine (HC.out _ (by (repeat' (first | exact Below.refl _ _ | assumption | refine below_new ?_ _ | refine below_draw ?_ | refine below_tail (by assumption) ?_ | refine below_set ?_ (by first | omega | (simp <;> omega)) _)))).use ?_; intro w1 hb1 hz1 hc1 hf1; clear hc1 hf1)
        refine bodyPost_ret (v := .tuple #[.slice none 0 0, .int .i64 8]) (by simp [results, Try.f35, go_sem]) rfl ?_
        exact ⟨_, by rw [HK.out.1], by rw [HK.out.2]; exact World.ownsRow_nil _ _ _ _, by (repeat' (first | exact Below.refl _ _ | assumption | refine below_new ?_ _ | refine below_draw ?_ | refine below_tail (by assumption) ?_ | refine below_set ?_ (by first | omega | (simp <;> omega)) _))⟩
      · have hl0 : 0 < l.length := List.length_pos_iff.2 hn
        have x1 : ((l.length : Int) == 0) = false := by
          have : ¬ (l.length : Int) = 0 := by omega
          simpa using this
        have hbd : ∀ y ∈ sortC l, bdP y := fun y hy => by
          have := inR_iff.1 (List.all_eq_true.1 hrb y ((sortC_mem y l).1 hy))
          unfold bdP; omega
        obtain ⟨s, hs⟩ : ∃ s, sortC l = s := ⟨_, rfl⟩
        have hs0 : 0 < s.length := by
          obtain ⟨z, r, hz⟩ := List.exists_cons_of_ne_nil hn
          have : z ∈ s := by rw [← hs, sortC_mem, hz]; simp
          exact List.length_pos_of_mem this
        have hs10 : s.length ≤ 10 := by have := sortC_len l; rw [hs] at this; omega
        have K4 := Lib.hid (k4 (by omega) hrb)
        have K5 := Lib.hid (k5 (by omega) hrb)
        rw [hs] at hbd K4 K5
        have HS := Lib.hid hs
        have HBD := Lib.hid hbd
        have HBR : Hid (∀ y ∈ s.reverse, bdP y) := fun y hy => hbd y (List.mem_reverse.1 hy)
        have hr0 : s.reverse.length = s.length := List.length_reverse
        have HRL := Lib.hid hr0
        have hc1 : (chainF s).length ≤ s.length := chainF_len s
        have hc2 : (chainF s.reverse).length ≤ s.length := by have := chainF_len s.reverse; omega
        have HHL := Lib.hid (hull_len s)
        have HHF : Hid (hullF s = chainF s ++ chainF s.reverse) := rfl
        obtain ⟨i0, hi0, hz0, hi1, hi2⟩ := info_parts infoPoint
        obtain ⟨N, hN⟩ : ∃ N, N = (chainF s).length + (chainF s.reverse).length := ⟨_, rfl⟩
        have HN8 := Lib.hid hN
        clear k1 k2 k3 k4 k5 hrb hn hs hbd hr0
        obtain ⟨b, hb⟩ : ∃ b, decide ((N : Int) < 3) = b := ⟨_, rfl⟩
        have HB := Lib.hid hb
        clear hN
        go_enter Try.func35, Try.ntmps35
        go_wp2_with (first
          | (go_at_call 62; refine (HC.out _ (by (repeat' (first | exact Below.refl _ _ | assumption | refine below_new ?_ _ | refine below_draw ?_ | refine below_tail (by assumption) ?_ | refine below_set ?_ (by first | omega | (simp <;> omega)) _)))).use ?_; intro w1 hb1 hz1 hc1 hf1; clear hc1 hf1)
          | (go_at_call 81; refine (values_calls _ _ _ _).mono ?_; rintro e w2 ⟨rfl, rfl⟩)
          | (go_at_call 80; refine (sortedP_calls w1.heap.size (.slice sa l.length cap) l _ (by simp [go_sem]) (HP.out.below (by (repeat' (first | exact Below.refl _ _ | assumption | refine below_new ?_ _ | refine below_draw ?_ | refine below_tail (by assumption) ?_ | refine below_set ?_ (by first | omega | (simp <;> omega)) _)))) hl0 (by omega)).mono ?_; rintro e w3 ⟨g, cp, l', rfl, hp, hs, hown3, hb3⟩; have hl1 : 0 < l'.length := (by rw [hp.length_eq]; exact hl0); have hl2 : l'.length ≤ 1000 := (by rw [hp.length_eq]; omega); have HDS := Lib.hid ((dd_sorted hp hs).trans HS.out); have hW2 : w.heap.size ≤ (w1.alloc (.cells #[.slice sa l.length cap] 22)).heap.size := (by simp; omega); have HO3 := Lib.hid (own_base hown3 hW2); have hB3 : Below w.heap.size w w3 := below_tail hb3 (below_new (by (repeat' (first | exact Below.refl _ _ | assumption | refine below_new ?_ _ | refine below_draw ?_ | refine below_tail (by assumption) ?_ | refine below_set ?_ (by first | omega | (simp <;> omega)) _))) _); have hz3 := hB3.size; have hgw : w.heap.size ≤ g := own_block_le2 HO3.out g rfl; clear hp hs hown3 hb3)
          | (go_at_call 79; refine (compactP_is HO3.out hl1 hl2 HDS.out).mono ?_; rintro e w4 ⟨rfl, hown4, hz4, hb4⟩; have hB4 : Below w.heap.size w w4 := hB3.trans hb4; have HO4 := Lib.hid hown4; have hg4 := (hown4.lt g rfl).2; clear hown4)
          | (go_at_call 83; first
              | ((with_reducible refine (chain_calls _ s _ (own_pairs HO4.out) hs0 (by omega) HBD.out).mono ?_); rintro e w5 ⟨v5, rfl, hown5, hb5⟩; obtain ⟨a5, c5, rfl⟩ := own_slice hown5; have hB5 : Below w.heap.size w w5 := below_tail hb5 hB4; have HO4b := Lib.hid (own_below HO4.out hb5); have HNE : Hid ((Value.slice a5 (chainF s).length c5).ownBlock ≠ some g) := ne_old hown5 hg4; have HO5 := Lib.hid (own_base hown5 hB4.size); clear hown5)
              | ((with_reducible refine (chain_calls _ s.reverse _ (HRL.out ▸ own_pairs (HRL.out.symm ▸ HO6.out)) (by rw [HRL.out]; exact hs0) (by rw [HRL.out]; omega) HBR.out).mono ?_); rintro e w7 ⟨v7, rfl, hown7, hb7⟩; obtain ⟨a7, c7, rfl⟩ := own_slice hown7; have hB7 : Below w.heap.size w w7 := below_tail hb7 hB6; have HO5c := Lib.hid (own_below HO5b.out hb7); have HP7 := Lib.hid (own_pairs hown7); clear hown7))
          | (go_at_call 84; refine (reverseG_calls w.heap.size g cp s _ HO4b.out hs0 (by omega)).mono ?_; rintro e w6 ⟨rfl, hown6, hgr6⟩; have hB6 : Below w.heap.size w w6 := hB5.grown hgr6 hB5.size (fun k e => by cases e; exact hgw); have HO5b := Lib.hid (own_grown HO5.out hgr6 HNE.out); have HO6 := Lib.hid hown6; clear hown6)
          | (at_builtin; refine wpList_append_any rfl _ _ 22 rfl w.heap.size 32 i0 (.agg #[.int .i64 0, .int .i64 0]) 2 16 Try.underlying22 hi0 hz0 hi1 hi2 rfl (by decide) _ _ _ rfl HO5c.out _ _ _ rfl (pairs_src HP7.out) (by unfold maxLen; omega) (by omega) hB7.size ?_; intro v8 w8 hown8 hgrow8 _; rw [← HN8.out] at hown8; obtain ⟨a8, c8, rfl⟩ := own_slice hown8; have HO8 := Lib.hid hown8; have hB8 : Below w.heap.size w w8 := hB7.grown hgrow8 hB7.size (own_block_le2 HO5c.out); clear hown8))
        all_goals first
          | (have HK := Lib.hid (K5.out (by rw [HHL.out, ← HN8.out]; have := of_decide_eq_false (HB.out.trans (by assumption : b = false)); omega))
             refine bodyPost_ret (v := .tuple #[.slice a8 N c8, .int .i64 0]) (by simp [results, Try.f35, go_sem]) rfl ?_
             refine ⟨_, by rw [HK.out.1], ?_, hB8⟩
             rw [HK.out.2, HHL.out, HHF.out, cells2_append, ← HN8.out]
             exact HO8.out)
          | (have HK := Lib.hid (K4.out (by rw [HHL.out, ← HN8.out]; have := of_decide_eq_true (HB.out.trans (by assumption : b = true)); omega))
             refine bodyPost_ret (v := .tuple #[.slice none 0 0, .int .i64 8]) (by simp [results, Try.f35, go_sem]) rfl ?_
             exact ⟨_, by rw [HK.out.1], by rw [HK.out.2]; exact World.ownsRow_nil _ _ _ _, hB8⟩)
end Go.Proofs.Ythiemglckmociaa
