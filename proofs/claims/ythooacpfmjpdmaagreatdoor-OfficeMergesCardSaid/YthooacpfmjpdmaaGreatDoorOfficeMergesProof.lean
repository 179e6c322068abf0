/- For every input the law OfficeMerges returns true, and its arguments read as before; the card that ties the listed variables to the text. No conditions. -/
import Derived.Test.YthooacpfmjpdmaaGreatDoorOMergesL
import Derived.Test.YthooacpfmjpdmaaGreatDoorOOpen
import Derived.Test.YthooacpfmjpdmaaGreatDoorCards
import Derived.Test.YthooacpfmjpdmaaGreatDoorTie
import Derived.SevenTiedAt
namespace Go.Proofs.YthooacpfmjpdmaaGreatDoor.officeMergesProof
open Go.Proofs.YthooacpfmjpdmaaGreatDoor
open Go.ChangeShapes Go.WideShapes Go.ChangeAt Go.RowKit Go.Joins Go.Deep Go.ChangeMaps
set_option linter.unusedVariables false
set_option maxRecDepth 100000 in
theorem lifted (os : Os) (started : os.Started) (H : Type) (enc : TypeId × Value → H) :
    ReturnsInHanded {} Tryz.checked os 8 .any (fun w args => (Rows.officeMergesSpec.pre enc Tryz.prog Tryz.f8 Rows.officeMergesRow.domain false w args ∧ laidMetH Tryz.prog laid8 w) ∧ sizedMet enc Tryz.prog Tryz.f8 (OpenSpec.ofChange Rows.officeMergesSpec) false w args)
      (Rows.officeMergesSpec.post enc Tryz.prog Tryz.f8 false true false false) := by
  refine returnsInHanded_of_calls (C := Tryz.checked) own started (by kernel_rfl)
    (ChangeSpec.witness_shaped (enc := enc) (C := Tryz.checked) (fn := Tryz.f8) (os := os) (X := fun w _ => laidMetH Tryz.prog laid8 w) false (laidWorld os) #[.string ⟨#[]⟩, .string ⟨#[]⟩] 8 (laidWorld_os os)
      (laidWorld_shaped os _) (by kernel_rfl) (by kernel_rfl) (by kernel_rfl) (laidWorld_met os _)) ?_
  intro w0 tape i _ hsh _ hok hpre hholds
  obtain ⟨_, _, _, fn', hfn', _, _, _, _, hval0⟩ := hok
  have efn : fn' = Tryz.f8 := Option.some.inj (hfn'.symm.trans Tryz.func8)
  subst efn
  obtain ⟨⟨⟨ds, gs, before, hw0, hc⟩, hlaid⟩, hz⟩ := hpre
  have hsz0 := hz.weights hw0
  have hW : DataW.Whole enc Tryz.prog Tryz.f8.params.toList Rows.officeMergesSpec.vars false (w0.forCall tape i) i.args.toList ds gs before := DataW.Whole.of_heap (w' := w0.forCall tape i) (by rfl) hw0
  have hL : laidMetH Tryz.prog laid8 (w0.forCall tape i) := hlaid.of_heap (by rfl)
  obtain ⟨W, hWe⟩ : ∃ W, w0.forCall tape i = W := ⟨_, rfl⟩
  obtain ⟨args, hae⟩ : ∃ a, i.args = a := ⟨_, rfl⟩
  rw [hWe] at hsh hW hL hval0 ⊢
  rw [hae] at hW hval0 ⊢
  have main : Calls Tryz.prog 8 args W fun e W' => ∃ v, e = .returned v ∧ Rows.officeMergesSpec.post enc Tryz.prog Tryz.f8 false true false false W args v W' := by
    have hsz : (DataW.weightsEach Tryz.prog (Tryz.f8.params.toList ++ []) (ds ++ gs)).all (· ≤ reachBytes) = true := hsz0
    have hval : ∀ (j : Nat) t v, Tryz.f8.params[j]? = some t → args[j]? = some v → Value.okWide Tryz.prog W .any w0.heap.size t v := hval0
    have hW' := hW
    obtain ⟨p, q, hA0, hV, rfl, hfz, hnd⟩ := hW
    have hA : DataW.TrodAll enc Tryz.prog W 0 (fun _ => true) true Tryz.f8.params.toList args.toList ds p := hA0
    rw [Tryz.params8] at hA hval hsz
    obtain ⟨v0, vs0, d0, ds0, p0, q0, hargs, rfl, rfl, h0, r0⟩ := trodAll_cons hA
    obtain ⟨v1, vs1, d1, ds1, p1, q1, rfl, rfl, rfl, h1, r1⟩ := trodAll_cons r0
    obtain ⟨rfl, rfl, rfl⟩ := trodAll_nil r1
    obtain rfl : args = #[v0, v1] := by cases args; simp_all
    obtain ⟨rfl, rfl⟩ := trodVars_none hV
    simp only [List.append_nil] at hsz
    have k0 := h0
    have lt0 : ∀ x ∈ p0, x.block < W.heap.size := by obtain ⟨m, hm⟩ := k0; exact DataW.trod_lt m _ _ _ hm
    obtain ⟨s0, rfl, rfl, rfl, ws0⟩ := open_string Tryz.underlying9 (hval 0 9 v0 rfl rfl) h0
    have z0 : s0.size ≤ 140737488351232 := by have := sized_string hsz (j := 0) (t := 9) rfl rfl; rw [size_list] at this; exact this
    have k1 := h1
    have lt1 : ∀ x ∈ p1, x.block < W.heap.size := by obtain ⟨m, hm⟩ := k1; exact DataW.trod_lt m _ _ _ hm
    obtain ⟨s1, rfl, rfl, rfl, ws1⟩ := open_string Tryz.underlying9 (hval 1 9 v1 rfl rfl) h1
    have z1 : s1.size ≤ 140737488351232 := by have := sized_string hsz (j := 1) (t := 9) rfl rfl; rw [size_list] at this; exact this
    have hbase : Base W := base_of_laid hL hsh
    clear hA0 hval0
    refine (officeMerges_calls s0 s1 W hbase).mono fun e W' ⟨he, bel⟩ => ?_
    subst he
    exact ⟨_, rfl, _, _, _, [], _, [], hW', trodAll_mk1 (shut_bool Tryz.underlying4 _), (trodAll_cons_mk (Below.trod laidOut (by kernel_rfl) (of_decide_eq_true (by kernel_rfl)) k0 bel lt0) (trodAll_cons_mk (Below.trod laidOut (by kernel_rfl) (of_decide_eq_true (by kernel_rfl)) k1 bel lt1) trodAll_mk0)), rfl, bel.frame _, fun h => by cases h⟩
  refine main.mono fun e W' ⟨v, he, hp⟩ => ?_
  subst he
  exact ChangeSpec.post_blind hp

theorem over : Rows.officeMergesRow.holds Tryz.pinned (OpenSpec.ofChange Rows.officeMergesSpec) :=
  OpenClaim.holds_of_wide 8 Tryz.f8 rfl rfl rfl rfl rfl rfl rfl ⟨rfl, rfl, rfl, rfl, rfl⟩ rfl rfl rfl rfl rfl (by kernel_rfl) Tryz.func8 (by kernel_rfl)
    (of_decide_eq_true (by kernel_rfl)) (by unfold Func.isWrapper; first | (rw [if_neg (by decide +kernel)]; exact ⟨rfl, rfl⟩) | (rw [if_pos (by decide +kernel)]; kernel_rfl))
    (fun os started H enc _ => lifted os started H enc)
theorem card : Rows.OfficeMergesCardSaid :=
  Claim7.holds_tied_plain_at .later [] [.data, .data, .data, .data, .handle, .sentinel, .sentinel, .pinned] true (true, "6c4c35d60dd5113993016134ea5bd9322abf0f53267f11b12c395e10363a2cf7") true
    over (fun _ h => by cases h) (by kernel_rfl) (fun _ h => by cases h) officeMerges_row_tie rfl ⟨rfl, rfl⟩ (by kernel_rfl) rfl
    (fun f fn hf hfn => by
      obtain rfl : f = 8 := Option.some.inj ((show Tryz.prog.funcNamed "selion/selionlaw09.OfficeMerges" = some 8 by kernel_rfl).symm.trans hf) |>.symm
      obtain rfl : fn = Tryz.f8 := (Option.some.inj (Tryz.func8.symm.trans hfn)).symm
      exact ⟨by kernel_rfl, fun j t ht => by
        rw [Tryz.params8] at ht
        have hm : t ∈ [9, 9] := by simpa using Array.mem_of_getElem? ht
        have hall : ([9, 9].all fun u => !Tryz.prog.wantsStandIn u) = true := by kernel_rfl
        exact (show Tryz.prog.wantsStandIn t = false by simpa using List.all_eq_true.1 hall t hm)⟩)
    (by kernel_rfl)
end Go.Proofs.YthooacpfmjpdmaaGreatDoor.officeMergesProof
namespace Go.Proofs.YthooacpfmjpdmaaGreatDoor
/-- The given statement. -/
theorem officeMerges_holds : Rows.OfficeMergesCardSaid := officeMergesProof.card
end Go.Proofs.YthooacpfmjpdmaaGreatDoor
