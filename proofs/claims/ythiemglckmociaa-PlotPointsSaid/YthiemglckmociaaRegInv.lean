/- A region that draws its order, by an invariant over what has been done so far: each operation once, whatever order is drawn. No program in sight. Conditions: each operation waits only for operations that stand before it in the text. -/
import Derived.Orders
import Derived.WalkKit
namespace Go.Proofs.Ythiemglckmociaa
open Go.RowKit

/-- Each operation waits only for operations before it. -/
def edgesDown (ops : Array Oper) : Bool := (List.range ops.size).all fun i => (ops[i]?.map fun o => o.after.all fun e => !(Region.binds .any e) || decide (e.on < i)).getD false

theorem edgesDown_spec {ops : Array Oper} (h : edgesDown ops = true) {i : Nat} {o : Oper} (ho : ops[i]? = some o) {e : Edge} (he : e ∈ o.after) (hb : Region.binds .any e = true) : e.on < i := by
  unfold edgesDown at h
  rw [List.all_eq_true] at h
  have hi : i < ops.size := (Array.getElem?_eq_some_iff.1 ho).1
  have h1 := h i (List.mem_range.2 hi)
  rw [ho] at h1
  simp only [Option.map_some, Option.getD_some, Array.all_eq_true_iff_forall_mem] at h1
  have h2 := h1 e he
  rw [hb] at h2
  simpa using h2

theorem all_done {ops : Array Oper} {listed : Array Bool} (hd : edgesDown ops = true) (hs : listed.size = ops.size) (h : Region.ready .any ops listed = []) :
    ∀ i, i < ops.size → listed.getD i false = true := by
  intro i
  induction i using Nat.strongRecOn with
  | ind i ih =>
    intro hi
    by_cases hl : listed.getD i false = true
    · exact hl
    · exfalso
      have hm : i ∈ Region.ready .any ops listed := by
        rw [mem_ready]
        refine ⟨?_, ops[i], by simp [hi], fun e he hb => ?_⟩
        · have : i < listed.size := by omega
          simp [this] at hl ⊢
          exact hl
        · have hlt := edgesDown_spec hd (o := ops[i]) (i := i) (by simp [hi]) he hb
          exact ih e.on hlt (by omega)
      rw [h] at hm; cases hm

theorem count_false_set {l : Array Bool} {i : Nat} (hi : i < l.size) (h : l[i] = false) : (l.setIfInBounds i true).toList.count false + 1 = l.toList.count false := by
  have e : (l.setIfInBounds i true).toList = l.toList.set i true := by simp
  have hi' : i < l.toList.length := by simpa using hi
  rw [e, List.count_set hi']
  have h2 : l.toList[i] = false := by simpa using h
  have h3 : 0 < l.toList.count false := by
    rw [List.count_pos_iff]
    rw [← h2]; exact List.getElem_mem _
  rw [h2]
  simp only [beq_self_eq_true, if_true]
  have h5 : (true == false) = false := rfl
  rw [h5]
  simp only [Bool.false_eq_true, if_false]
  omega

theorem wpAny_inv {P : Program} {ops : Array Oper} {Q : Exit → Act → World → Prop} (hd : edgesDown ops = true) (I : (Nat → Bool) → Act → World → Prop)
    (hstep : ∀ (d : Nat → Bool) (a : Act) (w : World), I d a w → ∀ i, i < ops.size → d i = false → (∀ o, ops[i]? = some o → ∀ e ∈ o.after, Region.binds .any e = true → d e.on = true) → wpOp P ops Q i (I (fun j => j == i || d j)) a w)
    (hend : ∀ (d : Nat → Bool) (a : Act) (w : World), I d a w → (∀ i, i < ops.size → d i = true) → Q .normal a w) :
    ∀ (fuel : Nat) (listed : Array Bool) (a : Act) (w : World), listed.size = ops.size → listed.toList.count false ≤ fuel → I (fun j => listed.getD j false) a w → wpAny P .any ops Q fuel listed a w
  | 0, listed, a, w, hs, hc, hI => by
    have hr : Region.ready .any ops listed = [] := by
      cases hh : Region.ready .any ops listed with
      | nil => rfl
      | cons i l =>
        have hm : i ∈ Region.ready .any ops listed := by rw [hh]; simp
        obtain ⟨h1, o, h2, _⟩ := mem_ready.1 hm
        have hi : i < listed.size := by rw [hs]; exact (Array.getElem?_eq_some_iff.1 h2).1
        have h3 : listed[i] = false := by simpa [hi] using h1
        have := count_false_set hi h3
        omega
    exact ⟨hr, hend _ a w hI (fun i hi => all_done hd hs hr i hi)⟩
  | fuel + 1, listed, a, w, hs, hc, hI => by
    refine ⟨fun hr => hend _ a w hI (fun i hi => all_done hd hs hr i hi), fun i hm => ?_⟩
    obtain ⟨h1, o, h2, h3⟩ := mem_ready.1 hm
    have hio : i < ops.size := (Array.getElem?_eq_some_iff.1 h2).1
    have hi : i < listed.size := by omega
    have h4 : listed[i] = false := by simpa [hi] using h1
    refine wpOp_mono (fun a' w' hI' => wpAny_inv hd I hstep hend fuel _ a' w' (by simpa using hs) ?_ ?_)
      (hstep _ a w hI i hio (by simp [hi, h4]) (fun o' ho' e he hb => by rw [h2] at ho'; cases ho'; exact h3 e he hb))
    · have := count_false_set hi h4; omega
    · have e : (fun j => (listed.setIfInBounds i true).getD j false) = (fun j => j == i || listed.getD j false) := by
        funext j
        by_cases hj : j = i
        · subst hj; simp [hi]
        · have hj' : ¬ i = j := fun e => hj e.symm
          simp [hj, hj', Array.getD_eq_getD_getElem?]
      rw [e]; exact hI'

/-- An operation that this one waits for is done. -/
theorem done_of {ops : Array Oper} {i j : Nat} {d : Nat → Bool} (hed : ∀ o, ops[i]? = some o → ∀ e ∈ o.after, Region.binds .any e = true → d e.on = true)
    (h : ((ops[i]?).map fun o => o.after.any fun e => Region.binds .any e && e.on == j).getD false = true) : d j = true := by
  cases ho : ops[i]? with
  | none => rw [ho] at h; cases h
  | some o =>
    rw [ho] at h
    simp only [Option.map_some, Option.getD_some] at h
    obtain ⟨e, he, hb⟩ := Array.any_eq_true'.1 h
    rw [Bool.and_eq_true] at hb
    rw [← beq_iff_eq.1 hb.2]
    exact hed o ho e he hb.1
theorem no_false {P : Prop} (h : true = false) : P := by cases h
/-- The law: I d a w says what holds once the operations d are done. -/
theorem wp_region_inv {P : Program} {id : Nat} {ops : Array Oper} {Q : Exit → Act → World → Prop} {a : Act} {w : World} (hm : P.follows .mixedOrders = true) (hd : edgesDown ops = true) (I : (Nat → Bool) → Act → World → Prop)
    (h0 : I (fun _ => false) a w.drew)
    (hstep : ∀ (d : Nat → Bool) (a : Act) (w : World), I d a w → ∀ i, i < ops.size → d i = false → (∀ o, ops[i]? = some o → ∀ e ∈ o.after, Region.binds .any e = true → d e.on = true) → wpOp P ops Q i (I (fun j => j == i || d j)) a w)
    (hend : ∀ (d : Nat → Bool) (a : Act) (w : World), I d a w → (∀ i, i < ops.size → d i = true) → Q .normal a w) : (Code.region id ops true).wp P Q a w := by
  refine wp_region_any hm (wpAny_inv hd I hstep hend ops.size _ a _ (by simp) ?_ ?_)
  · simp
  · have e : (fun j => (Array.replicate ops.size false).getD j false) = fun _ => false := by
      funext j
      simp only [Array.getD_eq_getD_getElem?, Array.getElem?_replicate]
      split <;> rfl
    rw [e]; exact h0
end Go.Proofs.Ythiemglckmociaa
