/- For every input the law TopOffice returns true, and its arguments read as before; the card that ties the listed variables to the text. No conditions. -/
import Derived.Test.YthooacpfmjpdmaaGreatDoorOTopOA
import Derived.Test.YthooacpfmjpdmaaGreatDoorOOpenV
import Derived.Test.YthooacpfmjpdmaaGreatDoorCards
import Derived.Test.YthooacpfmjpdmaaGreatDoorTie
import Derived.SevenTiedAt
namespace Go.Proofs.YthooacpfmjpdmaaGreatDoor.topOfficeProof
open Go.Proofs.YthooacpfmjpdmaaGreatDoor
open Go.ChangeShapes Go.WideShapes Go.ChangeAt Go.RowKit Go.Joins Go.Deep Go.ChangeMaps
set_option linter.unusedVariables false
set_option maxRecDepth 100000 in
theorem lifted (os : Os) (started : os.Started) (H : Type) (enc : TypeId × Value → H) :
    ReturnsInHanded {} Tryz.checked os 15 .any (fun w args => (Rows.topOfficeSpec.pre enc Tryz.prog Tryz.f15 Rows.topOfficeRow.domain false w args ∧ laidMetH Tryz.prog laid8 w) ∧ sizedMet enc Tryz.prog Tryz.f15 (OpenSpec.ofChange Rows.topOfficeSpec) false w args)
      (Rows.topOfficeSpec.post enc Tryz.prog Tryz.f15 false true false false) := by
  refine returnsInHanded_of_calls (C := Tryz.checked) own started (by kernel_rfl)
    (ChangeSpec.witness_shaped (enc := enc) (C := Tryz.checked) (fn := Tryz.f15) (os := os) (X := fun w _ => laidMetH Tryz.prog laid8 w) false (laidWorld os) #[.agg #[.int .i64 0, .int .i64 0, .slice none 0 0, .slice none 0 0, .slice none 0 0, .int .i64 0]] 8 (laidWorld_os os)
      (laidWorld_shaped os _) (by kernel_rfl) (by kernel_rfl) (by kernel_rfl) (laidWorld_met os _)) ?_
  intro w0 tape i _ hsh _ hok hpre hholds
  obtain ⟨_, _, _, fn', hfn', _, _, _, _, hval0⟩ := hok
  have efn : fn' = Tryz.f15 := Option.some.inj (hfn'.symm.trans Tryz.func15)
  subst efn
  obtain ⟨⟨⟨ds, gs, before, hw0, hc⟩, hlaid⟩, hz⟩ := hpre
  have hsz0 := hz.weights hw0
  have hW : DataW.Whole enc Tryz.prog Tryz.f15.params.toList Rows.topOfficeSpec.vars false (w0.forCall tape i) i.args.toList ds gs before := DataW.Whole.of_heap (w' := w0.forCall tape i) (by rfl) hw0
  have hL : laidMetH Tryz.prog laid8 (w0.forCall tape i) := hlaid.of_heap (by rfl)
  obtain ⟨W, hWe⟩ : ∃ W, w0.forCall tape i = W := ⟨_, rfl⟩
  obtain ⟨args, hae⟩ : ∃ a, i.args = a := ⟨_, rfl⟩
  rw [hWe] at hsh hW hL hval0 ⊢
  rw [hae] at hW hval0 ⊢
  have main : Calls Tryz.prog 15 args W fun e W' => ∃ v, e = .returned v ∧ Rows.topOfficeSpec.post enc Tryz.prog Tryz.f15 false true false false W args v W' := by
    have hsz : (DataW.weightsEach Tryz.prog (Tryz.f15.params.toList ++ []) (ds ++ gs)).all (· ≤ reachBytes) = true := hsz0
    have hval : ∀ (j : Nat) t v, Tryz.f15.params[j]? = some t → args[j]? = some v → Value.okWide Tryz.prog W .any w0.heap.size t v := hval0
    have hW' := hW
    obtain ⟨p, q, hA0, hV, rfl, hfz, hnd⟩ := hW
    have hA : DataW.TrodAll enc Tryz.prog W 0 (fun _ => true) true Tryz.f15.params.toList args.toList ds p := hA0
    rw [Tryz.params15] at hA hval hsz
    obtain ⟨v0, vs0, d0, ds0, p0, q0, hargs, rfl, rfl, h0, r0⟩ := trodAll_cons hA
    obtain ⟨rfl, rfl, rfl⟩ := trodAll_nil r0
    obtain rfl : args = #[v0] := by cases args; simp_all
    obtain ⟨rfl, rfl⟩ := trodVars_none hV
    simp only [List.append_nil] at hsz
    have k0 := h0
    have lt0 : ∀ x ∈ p0, x.block < W.heap.size := by obtain ⟨m, hm⟩ := k0; exact DataW.trod_lt m _ _ _ hm
    obtain ⟨k0_, c0, l0, pr0, w0⟩ := open_village (hval 0 70 v0 rfl rfl) h0
    have hbase : Base W := base_of_laid hL hsh
    clear hA0 hval0
    refine (topOffice_calls v0 k0_ c0 l0 pr0 W w0 hbase).mono fun e W' ⟨he, bel⟩ => ?_
    subst he
    exact ⟨_, rfl, _, _, _, [], _, [], hW', trodAll_mk1 (shut_bool Tryz.underlying4 _), (trodAll_cons_mk (Below.trod laidOut (by kernel_rfl) (of_decide_eq_true (by kernel_rfl)) k0 bel lt0) trodAll_mk0), rfl, bel.frame _, fun h => by cases h⟩
  refine main.mono fun e W' ⟨v, he, hp⟩ => ?_
  subst he
  exact ChangeSpec.post_blind hp

theorem over : Rows.topOfficeRow.holds Tryz.pinned (OpenSpec.ofChange Rows.topOfficeSpec) :=
  OpenClaim.holds_of_wide 15 Tryz.f15 rfl rfl rfl rfl rfl rfl rfl ⟨rfl, rfl, rfl, rfl, rfl⟩ rfl rfl rfl rfl rfl (by kernel_rfl) Tryz.func15 (by kernel_rfl)
    (of_decide_eq_true (by kernel_rfl)) (by unfold Func.isWrapper; first | (rw [if_neg (by decide +kernel)]; exact ⟨rfl, rfl⟩) | (rw [if_pos (by decide +kernel)]; kernel_rfl))
    (fun os started H enc _ => lifted os started H enc)
theorem card : Rows.TopOfficeCardSaid :=
  Claim7.holds_tied_plain_at .later [] [.data, .data, .data, .data, .handle, .sentinel, .sentinel, .pinned] true (true, "6c4c35d60dd5113993016134ea5bd9322abf0f53267f11b12c395e10363a2cf7") true
    over (fun _ h => by cases h) (by kernel_rfl) (fun _ h => by cases h) topOffice_row_tie rfl ⟨rfl, rfl⟩ (by kernel_rfl) rfl
    (fun f fn hf hfn => by
      obtain rfl : f = 15 := Option.some.inj ((show Tryz.prog.funcNamed "selion/seliontop.TopOffice" = some 15 by kernel_rfl).symm.trans hf) |>.symm
      obtain rfl : fn = Tryz.f15 := (Option.some.inj (Tryz.func15.symm.trans hfn)).symm
      exact ⟨by kernel_rfl, fun j t ht => by
        rw [Tryz.params15] at ht
        have hm : t ∈ [70] := by simpa using Array.mem_of_getElem? ht
        have hall : ([70].all fun u => !Tryz.prog.wantsStandIn u) = true := by kernel_rfl
        exact (show Tryz.prog.wantsStandIn t = false by simpa using List.all_eq_true.1 hall t hm)⟩)
    (by kernel_rfl)
end Go.Proofs.YthooacpfmjpdmaaGreatDoor.topOfficeProof
namespace Go.Proofs.YthooacpfmjpdmaaGreatDoor
/-- The given statement. -/
theorem topOffice_holds : Rows.TopOfficeCardSaid := topOfficeProof.card
end Go.Proofs.YthooacpfmjpdmaaGreatDoor
