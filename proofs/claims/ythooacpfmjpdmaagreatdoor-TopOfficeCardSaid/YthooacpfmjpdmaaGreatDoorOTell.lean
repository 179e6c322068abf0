/- What an office tells, as the laws ask it; what is claimed and laid out, in numbers. Conditions: the office lies as said. -/
import Derived.Test.YthooacpfmjpdmaaGreatDoorOReplay
namespace Go.Proofs.YthooacpfmjpdmaaGreatDoor
open Go.RowKit
theorem GivesI.use {f : FuncId} {args : Array Value} {w : World} {l : List Int} {R : Ending → World → Prop} (h : GivesI f args w l) (k : ∀ v w1, IntsT w.heap.size w1 v l → Below w.heap.size w w1 → R (.returned v) w1) : Calls Tryz.prog f args w R :=
  h.mono fun _ w1 ⟨v, he, hi, hb⟩ => he ▸ k v w1 hi hb
theorem OffS.day {m : Nat} {w : World} {B n : Nat} {x : Off} {d : Int} (h : OffS m w B n x) (e : x.s.day = d) : Gives Tryz.prog 42 #[.pointer (some ⟨B, 0, none⟩)] w (.int .i64 d) := by
  obtain ⟨⟨ov, h⟩, -⟩ := h
  exact e ▸ Day_calls m w B n x ov h
theorem OffS.ent {m : Nat} {w : World} {B n : Nat} {x : Off} {d : Bool} (h : OffS m w B n x) (e : x.s.ent = d) : Gives Tryz.prog 36 #[.pointer (some ⟨B, 0, none⟩)] w (.bool d) := by
  obtain ⟨⟨ov, h⟩, -⟩ := h
  exact e ▸ Entered_calls m w B n x ov h
theorem OffS.part {m : Nat} {w : World} {B n : Nat} {x : Off} {a : Int} {b : Bool} (h : OffS m w B n x) (e : x.s.part = a ∧ x.s.fixed = b) : Gives Tryz.prog 32 #[.pointer (some ⟨B, 0, none⟩)] w (.tuple #[.int .i64 a, .bool b]) := by
  obtain ⟨⟨ov, h⟩, -⟩ := h
  exact e.1 ▸ e.2 ▸ Part_calls m w B n x ov h
theorem OffS.stop {m : Nat} {w : World} {B n : Nat} {x : Off} {a : Int} {b : Bool} (h : OffS m w B n x) (e : x.s.stop = a ∧ x.s.heard = b) : Gives Tryz.prog 33 #[.pointer (some ⟨B, 0, none⟩)] w (.tuple #[.int .i64 a, .bool b]) := by
  obtain ⟨⟨ov, h⟩, -⟩ := h
  exact e.1 ▸ e.2 ▸ End_calls m w B n x ov h
theorem OffS.strips {m : Nat} {w : World} {B n : Nat} {x : Off} (h : OffS m w B n x) : GivesI 44 #[.pointer (some ⟨B, 0, none⟩)] w x.s.strips := by
  obtain ⟨⟨ov, h⟩, -⟩ := h
  exact Strips_calls m w B n x ov h
theorem OffS.laid {m : Nat} {w : World} {B n : Nat} {x : Off} (h : OffS m w B n x) : GivesI 31 #[.pointer (some ⟨B, 0, none⟩)] w x.s.laid := by
  obtain ⟨⟨ov, h⟩, -⟩ := h
  exact Laid_calls m w B n x ov h
theorem OffS.clm {m : Nat} {w : World} {B n : Nat} {x : Off} (h : OffS m w B n x) : GivesI 30 #[.pointer (some ⟨B, 0, none⟩)] w (clmF x.s) := by
  obtain ⟨⟨ov, h⟩, hm⟩ := h
  exact Claims_calls m w B n x ov h hm.good
theorem OffS.opn {m : Nat} {w : World} {B n : Nat} {x : Off} (h : OffS m w B n x) : GivesI 35 #[.pointer (some ⟨B, 0, none⟩)] w (opnF x.s.opn) := by
  obtain ⟨⟨ov, h⟩, -⟩ := h
  exact Open_calls m w B n x ov h
theorem OffS.run {m : Nat} {w : World} {B : Nat} {k : Int} {c : Cal} {x : Off} (h : OffS m w B k.toNat x) (e : x.c = c) : runs (newO k.toNat c) x.os = some x := by rw [← e]; exact h.2.run
theorem Replay_at {v : Value} {k : Int} {c : Cal} {y : Off} {w : World} {t : ByteArray} (ht : minF y.os = t) (h : CalAt w v c) (hb : Base w) (hz : NewE k c = 0) (hrun : runs (newO k.toNat c) y.os = some y) :
    Calls Tryz.prog 25 #[.int .i64 k, v, .string t] w (ReplayR w k y) := ht ▸ Replay_ok v k c y.os y w h hb hz hrun
theorem sum_payK {c l : List Int} (p : Int) (h : l.length = c.length) : ∀ k, k ≤ c.length → sumI (payK c l p k) = (sumI (c.take k) - sumI (l.take k)) * p := by
  intro k
  induction k with
  | zero => intro _; simp [payK, sumI]
  | succ k ih =>
    intro hk
    rw [payK_succ, sumI_append, ih (by omega), sumI_succ (l := c) (by omega), sumI_succ (l := l) (by omega)]
    simp only [sumI]
    simp only [Int.sub_mul, Int.add_mul]
    omega
theorem sum_payF {c l : List Int} (p : Int) (h : l.length = c.length) : sumI (payF c l p) = (sumI c - sumI l) * p := by
  have := sum_payK p h c.length (Nat.le_refl _)
  rwa [List.take_of_length_le (Nat.le_refl _), List.take_of_length_le (by omega)] at this
theorem few_of {l : List Int} (h1 : l.length ≤ 8) (h2 : ∀ y ∈ l, 0 ≤ y ∧ y ≤ 10000) : Few l := ⟨by omega, fun y hy => by have := h2 y hy; omega⟩
theorem opn_none {l : List Bool} (h : ∀ y ∈ l, y = false) : opnF l = [] := by
  have h2 : ∀ k, opnK l k = [] := by
    intro k
    induction k with
    | zero => rfl
    | succ k ih =>
      rw [opnK_no, ih]
      by_cases hk : k < l.length
      · rw [gi_lt hk]; exact h _ (List.getElem_mem _)
      · simp [gi, hk]
  exact h2 _
/-- What the law reads off an office. -/
structure Money (n : Nat) (x : Off) (p : Int) (cs ls M : Int) : Prop where
  fa : Few (clmF x.s)
  fb : Few x.s.laid
  sa : sumI (clmF x.s) = cs
  sb : sumI x.s.laid = ls
  lo : ls ≤ cs
  hi : cs ≤ 8000
  l0 : 0 ≤ ls
  hs : x.s.heard = true → ls = cs
  hf : x.s.heard = true → x.s.fixed = true
  no : x.s.heard = false → opnF x.s.opn = [] ∧ x.s.ent = false
  pay : x.s.fixed = true → 0 ≤ p → p ≤ 1000 → M = (cs - ls) * p ∧ payE x p = 0 ∧ Few (payL x p) ∧ sumI (payL x p) = M
theorem money_of {n : Nat} {x : Off} (h : Made n x) (p : Int) : Money n x p (sumI (clmF x.s)) (sumI x.s.laid) ((sumI (clmF x.s) - sumI x.s.laid) * p) := by
  have hg := h.good
  have hl := h.long
  have hr := laid_range hg hl h.n1 h.n8
  have h8 := h.n8
  have hc : (clmF x.s).length ≤ 8 ∧ ∀ y ∈ clmF x.s, 0 ≤ y ∧ y ≤ 1000 := by
    by_cases hf : x.s.fixed = true
    · have := claimsB_iff.1 (clm_claims hg hl h.n1 h.n8 hf)
      exact ⟨this.1.2, this.2⟩
    · rw [clm_unfixed (by simpa using hf)]; exact ⟨by simp, by simp⟩
  have hsum := sumI_le (fun y hy => (hc.2 y hy).2)
  refine { fa := few_of hc.1 (fun y hy => by have := hc.2 y hy; omega), fb := few_of (by rw [hl.l2]; exact h8) hr, sa := rfl, sb := rfl, lo := hg.sum, hi := by omega, l0 := sumI_nonneg' hg.laid0, hs := hg.hsum, hf := hg.hfix, no := fun e => ⟨opn_none (hg.none e).1, (hg.none e).2⟩, pay := fun hf h0 h1 => ?_ }
  have hpe : payE x p = 0 := by unfold payE; rw [if_pos hf, if_pos ⟨h0, h1⟩]
  have hpl : payL x p = payF (clmF x.s) x.s.laid p := by unfold payL; rw [if_pos hpe]
  have hlen : x.s.laid.length = (clmF x.s).length := by rw [clm_long hl hf, hl.l2]
  refine ⟨rfl, hpe, ?_, ?_⟩
  · rw [hpl]
    exact payF_few (clm_claims hg hl h.n1 h.n8 hf) (fun i hi => by rw [gi_lt (by omega)]; exact hr _ (List.getElem_mem _)) h0 h1
  · rw [hpl]; exact sum_payF p hlen
theorem OffS.pay {m : Nat} {w : World} {B n : Nat} {x : Off} {p r : Int} {l : List Int} (h : OffS m w B n x) (he : payE x p = r) (hl : payL x p = l) :
    Calls Tryz.prog 37 #[.pointer (some ⟨B, 0, none⟩), .int .i64 p] w fun e w' => ∃ v, e = .returned (.tuple #[v, .int .i64 r]) ∧ IntsAt w' v l ∧ Below w.heap.size w w' := by
  obtain ⟨⟨ov, h⟩, hm⟩ := h
  exact (Payments_calls m w B n x ov p h hm).mono fun e w' ⟨v, e1, hi, hb⟩ => ⟨v, he ▸ e1, hl ▸ hi.1, hb⟩
theorem OffS.opn0 {m : Nat} {w : World} {B n : Nat} {x : Off} (h : OffS m w B n x) (e : opnF x.s.opn = []) : GivesI 35 #[.pointer (some ⟨B, 0, none⟩)] w [] := e ▸ h.opn
theorem ints_none {w : World} {v : Value} (h : IntsAt w v []) : ∃ a c, v = .slice a 0 c := by
  obtain ⟨a, c, e, -⟩ := h
  exact ⟨a, c, e⟩

theorem IntsT.below {m : Nat} {w w' : World} {v : Value} {l : List Int} (h : IntsT m w v l) (hb : Below w.heap.size w w') : IntsT m w' v l := h.keep (KeepT.of_below hb)
end Go.Proofs.YthooacpfmjpdmaaGreatDoor
