/- The deal of the rounds is stable, and no other deal is. Plain; no program in sight. Conditions: the lists and the deal are right. -/
import Derived.Test.YtpbkkekdjkmpmaaSwBestM
import Derived.Test.YtpbkkekdjkmpmaaSwBlk
namespace Go.Proofs.Ytpbkkekdjkmpmaa

theorem grp_nodup (n b : Nat) : (grpN n b).Nodup := List.nodup_range.sublist List.filter_sublist
theorem trade_blk {L : List (List Int)} (hv : vB L = true) : blkFrom L (tradeL L) 1 = false := by
  unfold blkFrom
  rw [decide_eq_false_iff_not]
  rintro ⟨b, _, _, h⟩
  unfold blkB at h
  obtain ⟨r, hr, hg⟩ := anyFrom_iff.1 h
  have := no_gain hv (grp_nodup L.length b) (fun g hg => grp_lt hg) ((ordF_perm rfl).1 hr)
  rw [this] at hg; cases hg
/-- Each group has a number. -/
theorem bits_of (p : Nat → Bool) : ∀ n, ∃ b, b < 2 ^ n ∧ ∀ i, i < n → b.testBit i = p i := by
  intro n
  induction n generalizing p with
  | zero => exact ⟨0, by decide, fun i hi => by omega⟩
  | succ n ih =>
    obtain ⟨b, h1, h2⟩ := ih (fun i => p (i + 1))
    refine ⟨2 * b + (p 0).toNat, ?_, fun i hi => ?_⟩
    · rw [Nat.pow_succ]
      cases p 0 <;> simp <;> omega
    · cases i with
      | zero => rw [Nat.testBit_zero]; cases h : p 0 <;> simp <;> omega
      | succ i =>
        rw [Nat.testBit_succ, show (2 * b + (p 0).toNat) / 2 = b by cases p 0 <;> simp <;> omega]
        exact h2 i (by omega)
theorem grp_of (n : Nat) (p : Nat → Bool) : ∃ b, b < 2 ^ n ∧ grpN n b = (List.range n).filter p := by
  obtain ⟨b, h1, h2⟩ := bits_of p n
  refine ⟨b, h1, List.filter_congr fun i hi => h2 i (List.mem_range.1 hi)⟩
theorem deal_num {n : Nat} {D : List Int} (h : ordB D n = true) : D.length = n ∧ (∀ k, k < n → 0 ≤ gi D 0 k ∧ gi D 0 k < n) ∧ ∀ j k, j < k → k < n → gi D 0 j ≠ gi D 0 k := by
  obtain ⟨hl, hall⟩ := ordB_iff.1 h
  have h1 : allIn D n 0 = true := by
    unfold allIn
    rw [decide_eq_true_iff]
    intro j hj _
    exact hasB_iff.2 (hall j hj)
  rw [ord_good hl] at h1
  unfold goodB freshB at h1
  rw [decide_eq_true_iff] at h1
  refine ⟨hl, fun k hk => ?_, fun j k hj hk => ?_⟩
  · have := (h1 k hk (Nat.zero_le _)).1; omega
  · have := (h1 k hk (Nat.zero_le _)).2
    rw [decide_eq_true_iff] at this
    exact this j hj (Nat.zero_le _)
theorem only_blk {L : List (List Int)} {D : List Int} (hv : vB L = true) (hD : ordB D L.length = true) (hb : blkFrom L D 1 = false) : D = tradeL L := by
  obtain ⟨hl, h1, h2⟩ := deal_num hD
  have T := ttc_L hv
  obtain ⟨d, hd⟩ : ∃ d : Nat → Nat, (fun i => (gi D 0 i).toNat) = d := ⟨_, rfl⟩
  have hdi : ∀ i, i < L.length → gi D 0 i = (d i : Int) := fun i hi => by rw [← hd]; have := (h1 i hi).1; show _ = (((gi D 0 i).toNat : Nat) : Int); omega
  have hdl : ∀ i, i < L.length → d i < L.length := fun i hi => by have a := h1 i hi; have b := hdi i hi; omega
  have hdj : ∀ i j, i < L.length → j < L.length → d i = d j → i = j := by
    intro i j hi hj e
    have a := hdi i hi
    have b := hdi j hj
    apply Classical.byContradiction
    intro hne
    rcases Nat.lt_or_gt_of_ne hne with h | h
    · exact h2 i j h hj (by rw [a, b, e])
    · exact h2 j i h hi (by rw [a, b, e])
  have key := T.only (strict_of hv) hdl hdj (by
    intro r hw i hi hr hlt
    obtain ⟨b, hbn, hG⟩ := grp_of L.length (fun i => decide (rdN L i = r))
    obtain ⟨G, hGe⟩ : ∃ G, grpN L.length b = G := ⟨_, rfl⟩
    have memG : ∀ x, x ∈ G ↔ x < L.length ∧ rdN L x = r := by
      intro x; rw [← hGe, hG, List.mem_filter, List.mem_range, decide_eq_true_iff]
    have hGn : G.Nodup := by rw [← hGe]; exact grp_nodup _ _
    have hb1 : 1 ≤ b := by
      apply Classical.byContradiction
      intro hc
      have hb0 : b = 0 := by omega
      have hiG := (memG i).2 ⟨hi, hr⟩
      rw [← hGe, hb0] at hiG
      have := (List.mem_filter.1 hiG).2
      simp at this
    have hperm : (G.map (ownN L)).Perm G := by
      rw [List.perm_iff_count]
      have hn2 : (G.map (ownN L)).Nodup := by
        rw [List.nodup_iff_pairwise_ne, List.pairwise_map]
        have hGn' := hGn
        rw [List.nodup_iff_pairwise_ne] at hGn'
        exact List.Pairwise.imp_of_mem (fun {a c} ha hc hac e => hac (T.inj a c ((memG a).1 ha).1 ((memG c).1 hc).1 e)) hGn'
      intro a
      rw [hn2.count, hGn.count]
      congr 1
      rw [eq_iff_iff, List.mem_map]
      constructor
      · rintro ⟨q, hq, rfl⟩
        obtain ⟨q1, q2⟩ := (memG q).1 hq
        exact (memG _).2 ⟨T.lt q q1, by rw [T.stay q q1, q2]⟩
      · intro ha
        obtain ⟨a1, a2⟩ := (memG a).1 ha
        obtain ⟨q, q1, q2, q3⟩ := T.onto a1
        exact ⟨q, (memG q).2 ⟨q1, by rw [q3, a2]⟩, q2⟩
    have hgk : ∀ k, k < G.length → gi G 0 k < L.length ∧ rdN L (gi G 0 k) = r ∧ gi (numsL (G.map (ownN L))) 0 k = (ownN L (gi G 0 k) : Int) := by
      intro k hk
      have := (memG (gi G 0 k)).1 (by rw [gi_lt hk]; exact List.getElem_mem _)
      refine ⟨this.1, this.2, ?_⟩
      rw [numsL_get (by rw [List.length_map]; exact hk), List.getElem_map, gi_lt hk]
    have hgain : gainF L D G (numsL (G.map (ownN L))) = true := by
      unfold gainF gainK
      rw [decide_eq_true_iff]
      refine ⟨fun k hk _ => ?_, .inr ?_⟩
      · obtain ⟨g1, g2, g3⟩ := hgk k hk
        unfold worseB
        rw [g3, hdi _ g1, lik_pl hv g1 (hdl _ g1) (T.lt _ g1), decide_eq_false_iff_not]
        have := hw _ g1 g2
        omega
      · obtain ⟨k, hk, e⟩ := List.mem_iff_getElem.1 ((memG i).2 ⟨hi, hr⟩)
        refine ⟨k, hk, Nat.zero_le _, ?_⟩
        obtain ⟨g1, g2, g3⟩ := hgk k hk
        have e2 : gi G 0 k = i := by rw [gi_lt hk, e]
        unfold betterB
        rw [g3, e2, hdi _ hi, lik_pl hv hi (T.lt _ hi) (hdl _ hi), decide_eq_true_iff]
        exact hlt
    have : blkFrom L D 1 = true := by
      unfold blkFrom
      rw [decide_eq_true_iff]
      refine ⟨b, hbn, hb1, ?_⟩
      unfold blkB
      rw [hGe]
      exact anyFrom_iff.2 ⟨G.map (ownN L), (ordF_perm rfl).2 hperm, hgain⟩
    rw [hb] at this; cases this)
  apply List.ext_getElem
  · rw [hl, trade_len]
  · intro i hi hi2
    have hin : i < L.length := by omega
    have a := hdi i hin
    have b := trade_get hin
    rw [gi_lt hi] at a
    rw [gi_lt hi2] at b
    rw [a, b, key _ i hin rfl]
/-- What the law says of a right deal. -/
theorem only_is {L : List (List Int)} {D : List Int} (hv : vB L = true) (hD : ordB D L.length = true) : (!blkFrom L D 1) = decide (tradeL L = D) := by
  cases h : blkFrom L D 1
  · rw [only_blk hv hD h]; simp
  · symm
    show decide _ = false
    rw [decide_eq_false_iff_not]
    intro e
    rw [← e, trade_blk hv] at h; cases h
theorem oE_ne {L : List (List Int)} {D : List Int} (h : vE L ≠ 0) : oE L D ≠ 0 := by unfold oE; rw [if_neg h]; exact h
end Go.Proofs.Ytpbkkekdjkmpmaa
