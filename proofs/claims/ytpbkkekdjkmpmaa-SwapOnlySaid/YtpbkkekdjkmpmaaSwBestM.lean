/- The deal of the rounds is willing, cannot be improved, and some order makes it. Plain; no program in sight. Conditions: the lists are right. -/
import Derived.Test.YtpbkkekdjkmpmaaSwMore
namespace Go.Proofs.Ytpbkkekdjkmpmaa

theorem trade_get {L : List (List Int)} {i : Nat} (hi : i < L.length) : gi (tradeL L) 0 i = (ownN L i : Int) := by simp [tradeL, gi, hi]
theorem trade_len (L : List (List Int)) : (tradeL L).length = L.length := by simp [tradeL]
theorem own_lt {L : List (List Int)} (hv : vB L = true) {i : Nat} (hi : i < L.length) : ownN L i < L.length := (ttc_L hv).lt i hi
theorem trade_ord {L : List (List Int)} (hv : vB L = true) : ordB (tradeL L) L.length = true := by
  rw [ordB_iff]
  refine ⟨trade_len L, fun m hm => ?_⟩
  obtain ⟨q, hq, e, _⟩ := (ttc_L hv).onto hm
  unfold tradeL
  exact List.mem_map.2 ⟨q, List.mem_range.2 hq, by rw [e]⟩
theorem trade_oE {L : List (List Int)} (hv : vE L = 0) : oE L (tradeL L) = 0 := by
  unfold oE
  rw [if_pos hv, trade_ord (vE_0 hv)]; rfl
theorem lik_pl {L : List (List Int)} (hv : vB L = true) {i a b : Nat} (hi : i < L.length) (ha : a < L.length) (hb : b < L.length) : likB L i a b = decide (plN L i a < plN L i b) := by
  unfold likB
  rw [(pl_spec hv hi ha).1, (pl_spec hv hi hb).1, decide_eq_decide]; omega
theorem trade_will {L : List (List Int)} (hv : vB L = true) : willB L (tradeL L) 0 = true := by
  unfold willB
  rw [decide_eq_true_iff]
  intro i hi _
  rw [trade_len] at hi
  rw [trade_get hi, lik_pl hv hi hi (own_lt hv hi), decide_eq_false_iff_not]
  have := (ttc_L hv).best i i hi hi (Nat.le_refl _)
  omega
theorem nodup_at {r : List Nat} (hr : r.Nodup) {a b : Nat} (ha : a < r.length) (hb : b < r.length) (e : r[a] = r[b]) : a = b :=
  (List.getElem?_inj ha hr).1 (by rw [List.getElem?_eq_getElem ha, List.getElem?_eq_getElem hb, e])
/-- What a group gives itself: owner by owner. -/
theorem group_of {n : Nat} {G r : List Nat} (hp : r.Perm G) (hG : G.Nodup) (hn : ∀ g ∈ G, g < n) : ∃ f : Nat → Nat, (∀ k, k < G.length → gi r 0 k = f (gi G 0 k)) ∧ (∀ i ∈ G, f i ∈ G) ∧ ∀ i ∈ G, ∀ j ∈ G, f i = f j → i = j := by
  have hl := hp.length_eq
  have hr : r.Nodup := hp.nodup_iff.2 hG
  refine ⟨fun i => gi r 0 (G.idxOf i), fun k hk => ?_, fun i hi => ?_, fun i hi j hj e => ?_⟩
  · show gi r 0 k = gi r 0 (G.idxOf (gi G 0 k))
    rw [gi_lt (l := G) hk, hG.idxOf_getElem k hk]
  · have h1 := List.idxOf_lt_length_iff.2 hi
    show gi r 0 (G.idxOf i) ∈ G
    rw [gi_lt (by omega)]
    exact hp.subset (List.getElem_mem _)
  · have h1 := List.idxOf_lt_length_iff.2 hi
    have h2 := List.idxOf_lt_length_iff.2 hj
    have e' : gi r 0 (G.idxOf i) = gi r 0 (G.idxOf j) := e
    rw [gi_lt (by omega), gi_lt (by omega)] at e'
    have h3 : G.idxOf i = G.idxOf j := nodup_at hr (by omega) (by omega) e'
    have a1 := List.getElem_idxOf h1
    have a2 := List.getElem_idxOf h2
    rw [← a1, ← a2]
    congr 1
/-- No group gains against the deal of the rounds. -/
theorem no_gain {L : List (List Int)} (hv : vB L = true) {G r : List Nat} (hG : G.Nodup) (hn : ∀ g ∈ G, g < L.length) (hp : r.Perm G) : gainF L (tradeL L) G (numsL r) = false := by
  have hl := hp.length_eq
  obtain ⟨f, h1, h2, h3⟩ := group_of hp hG hn
  unfold gainF gainK
  rw [decide_eq_false_iff_not]
  rintro ⟨hw, h | ⟨k, hk, _, hb⟩⟩
  · cases h
  have at_ : ∀ k, k < G.length → gi G 0 k ∈ G ∧ gi G 0 k < L.length ∧ gi (numsL r) 0 k = (f (gi G 0 k) : Int) ∧ f (gi G 0 k) < L.length := by
    intro k hk
    have hm : gi G 0 k ∈ G := by rw [gi_lt hk]; exact List.getElem_mem _
    refine ⟨hm, hn _ hm, ?_, hn _ (h2 _ hm)⟩
    rw [numsL_get (by omega), ← h1 k hk, gi_lt (by omega)]
  have hsame := (ttc_L hv).same (strict_of hv) hG hn (f := f) h2 h3 (fun i hi => by
    obtain ⟨q, hq, e⟩ := List.mem_iff_getElem.1 hi
    have hgq : gi G 0 q = i := by rw [gi_lt hq, e]
    have := hw q hq (Nat.zero_le _)
    unfold worseB at this
    obtain ⟨_, a2, a3, a4⟩ := at_ q hq
    rw [a3] at this
    rw [hgq] at this a2 a4
    rw [trade_get a2, lik_pl hv a2 (own_lt hv a2) a4, decide_eq_false_iff_not] at this
    omega)
  obtain ⟨a1, a2, a3, a4⟩ := at_ k hk
  unfold betterB at hb
  rw [a3, trade_get a2, hsame _ _ a1 rfl, lik_pl hv a2 (own_lt hv a2) (own_lt hv a2), decide_eq_true_iff] at hb
  omega
theorem trade_imp {L : List (List Int)} (hv : vB L = true) : impB L (tradeL L) = false := by
  cases h : impB L (tradeL L)
  · rfl
  · unfold impB at h
    obtain ⟨r, hr, hg⟩ := anyFrom_iff.1 h
    have := no_gain hv List.nodup_range (fun g hg => List.mem_range.1 hg) ((ordF_perm (by simp)).1 hr)
    rw [this] at hg; cases hg
/-- The owners, those who go first ahead. -/
theorem pick_own {L : List (List Int)} (hv : vB L = true) {r : List Nat} (hp : r.Perm (List.range L.length)) (hs : r.Pairwise fun a b => rdN L a ≤ rdN L b) :
    ∀ k, k ≤ L.length → takenK L (ordN (numsL r)) k = (r.take k).map (ownN L) := by
  have hl : r.length = L.length := by have := hp.length_eq; simpa using this
  have hr : r.Nodup := hp.nodup_iff.2 List.nodup_range
  have hlt : ∀ x ∈ r, x < L.length := fun x hx => List.mem_range.1 (hp.subset hx)
  intro k
  induction k with
  | zero => intro _; rfl
  | succ k ih =>
    intro hk
    have hkr : k < r.length := by omega
    have hin := ih (by omega)
    have hord : ordN (numsL r) k = r[k] := by unfold ordN; rw [numsL_get hkr]; simp
    obtain ⟨i, hi⟩ : ∃ i, r[k] = i := ⟨_, rfl⟩
    have hil : i < L.length := hlt i (by rw [← hi]; exact List.getElem_mem _)
    unfold takenK
    rw [hin, hord, hi, List.take_succ_eq_append_getElem hkr, List.map_append, hi]
    congr 1
    have T := ttc_L hv
    obtain ⟨lf, hlf⟩ : ∃ lf : Nat → Bool, (fun p => !((r.take k).map (ownN L)).contains p) = lf := ⟨_, rfl⟩
    rw [hlf]
    have hfree : ∀ p, lf p = true ↔ p ∉ (r.take k).map (ownN L) := fun p => by rw [← hlf]; simp
    have hown : lf (ownN L i) = true := by
      rw [hfree]
      intro hm
      obtain ⟨q, hq, e⟩ := List.mem_map.1 hm
      have hqr := List.mem_of_mem_take hq
      have := T.inj q i (hlt q hqr) hil e
      subst this
      obtain ⟨m, hm2, e2⟩ := List.mem_iff_getElem.1 hq
      rw [List.length_take] at hm2
      rw [List.getElem_take] at e2
      have := nodup_at hr (by omega : m < r.length) hkr (by rw [e2, hi])
      omega
    obtain ⟨_, _, _, _, g4, g5, _⟩ := pt_spec (lf := lf) hv hil (anyL_iff.2 ⟨_, T.lt i hil, hown⟩)
    have b1 := best_of hv lf i (ownN L i) hil (T.lt i hil) hown
    have b2 : plN L i (ownN L i) ≤ plN L i (ptN L lf i) := by
      refine T.best i _ hil g4 ?_
      obtain ⟨q, hq, e, e2⟩ := T.onto g4
      rw [← e2]
      have hqr : q ∈ r := hp.symm.subset (List.mem_range.2 hq)
      obtain ⟨m, hm, e3⟩ := List.mem_iff_getElem.1 hqr
      have hmk : k ≤ m := by
        apply Classical.byContradiction
        intro hc
        refine (hfree _).1 g5 (List.mem_map.2 ⟨q, ?_, e⟩)
        rw [List.mem_take_iff_getElem]
        exact ⟨m, by omega, e3⟩
      by_cases e4 : m = k
      · subst e4; rw [← e3, hi]; exact Nat.le_refl _
      · have := List.pairwise_iff_getElem.1 hs k m hkr hm (by omega)
        rw [hi, e3] at this; exact this
    have := strict_of hv i _ _ hil g4 (T.lt i hil) (by omega)
    rw [this]; rfl
theorem pick_trade {L : List (List Int)} (hv : vB L = true) : ∃ r, r ∈ ordF L.length (List.range L.length) ∧ pickL L (numsL r) = tradeL L := by
  obtain ⟨r, hr⟩ : ∃ r, (List.range L.length).mergeSort (fun a b => decide (rdN L a ≤ rdN L b)) = r := ⟨_, rfl⟩
  have hp : r.Perm (List.range L.length) := by rw [← hr]; exact List.mergeSort_perm _ _
  have hs : r.Pairwise fun a b => rdN L a ≤ rdN L b := by
    have := List.pairwise_mergeSort (le := fun a b => decide (rdN L a ≤ rdN L b)) (fun a b c h1 h2 => by simp at *; omega) (fun a b => by simp; omega) (List.range L.length)
    rw [hr] at this
    exact this.imp (fun h => by simpa using h)
  have hl : r.length = L.length := by have := hp.length_eq; simpa using this
  refine ⟨r, (ordF_perm (by simp)).2 hp, ?_⟩
  have hk := pick_own hv hp hs
  have hpk : ∀ k (h : k < r.length), pickF L (ordN (numsL r)) k = ownN L (r[k]) := by
    intro k h
    have h1 := hk (k + 1) (by omega)
    have h2 : takenK L (ordN (numsL r)) (k + 1) = takenK L (ordN (numsL r)) k ++ [pickF L (ordN (numsL r)) k] := rfl
    rw [h2, hk k (by omega), List.take_succ_eq_append_getElem h, List.map_append] at h1
    have h3 := List.append_cancel_left h1
    simpa using h3
  have hout : ∀ k, k ≤ r.length → ∀ m (h : m < r.length), m < k → outK L (ordN (numsL r)) k (r[m]) = ownN L (r[m]) := by
    intro k
    induction k with
    | zero => intro _ m _ h; omega
    | succ k ih =>
      intro hk2 m hm hmk
      rw [outK_succ]
      have hord : ordN (numsL r) k = r[k] := by unfold ordN; rw [numsL_get (by omega)]; simp
      rw [hord]
      by_cases e : r[m] = r[k]
      · rw [if_pos e, hpk k (by omega), e]
      · rw [if_neg e]
        exact ih (by omega) m hm (by
          have : m ≠ k := fun e2 => e (by subst e2; rfl)
          omega)
  unfold pickL tradeL
  refine List.map_congr_left fun j hj => ?_
  have hj' : j ∈ r := hp.symm.subset hj
  obtain ⟨m, hm, e⟩ := List.mem_iff_getElem.1 hj'
  have := hout L.length (by omega) m hm (by omega)
  rw [e] at this
  rw [this]
/-- Does some order make the deal? -/
def pkB (L : List (List Int)) (D : List Int) : Bool := ((ordF L.length (List.range L.length)).map numsL).any fun l => decide (pickL L l = D)
theorem trade_pk {L : List (List Int)} (hv : vB L = true) : pkB L (tradeL L) = true := by
  obtain ⟨r, hr, e⟩ := pick_trade hv
  unfold pkB
  rw [List.any_eq_true]
  exact ⟨numsL r, List.mem_map.2 ⟨r, hr, rfl⟩, by simpa using e⟩
theorem perm_ord {n : Nat} {r : List Nat} (hp : r.Perm (List.range n)) : ordB (numsL r) n = true := by
  rw [ordB_iff]
  refine ⟨by rw [numsL_length]; have := hp.length_eq; simpa using this, fun i hi => ?_⟩
  unfold numsL
  exact List.mem_map.2 ⟨i, hp.symm.subset (List.mem_range.2 hi), rfl⟩
end Go.Proofs.Ytpbkkekdjkmpmaa
