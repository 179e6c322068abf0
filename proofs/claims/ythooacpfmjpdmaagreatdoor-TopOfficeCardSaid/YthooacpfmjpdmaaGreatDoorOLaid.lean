/- From the condition on the library's variables to what the walks ask of them; a world that meets the condition. No conditions. -/
import Derived.Test.YthooacpfmjpdmaaGreatDoorOEnv
import Derived.Test.YthooacpfmjpdmaaGreatDoorRows
import Derived.ProofKit
import Derived.OpenShut
import Derived.LaidMore
import Derived.LaidSub
import Derived.LaidHandle
import Derived.Lay
import Derived.Stop.Joined
import Derived.Stop.LaidErr
import Derived.Shelf.Vars
namespace Go.Proofs.YthooacpfmjpdmaaGreatDoor
open Go.ChangeShapes Go.WideShapes Go.ChangeAt Go.RowKit
theorem own : ownKnob Tryz.prog.godebug = none := by kernel_rfl
theorem laidOut : laidOutB Tryz.prog = true := by kernel_rfl
/-- What the rows list. -/
def laid8 : List (String × DataW Unit) := [("math/bits.deBruijn32tab", Rows.laid_math_bits_deBruijn32tab), ("math/bits.deBruijn64tab", Rows.laid_math_bits_deBruijn64tab), ("internal/strconv.uint64pow10", Rows.laid_internal_strconv_uint64pow10), ("unicode/utf8.acceptRanges", Rows.laid_unicode_utf8_acceptRanges), ("errors.errorType", Rows.laid_errors_errorType), ("strconv.ErrRange", Rows.laid_strconv_ErrRange), ("strconv.ErrSyntax", Rows.laid_strconv_ErrSyntax), ("unicode/utf8.first", Rows.laid_unicode_utf8_first)]
theorem laid_plain : (laid8.filter fun x => x.2.handleName?.isNone) = [("math/bits.deBruijn32tab", Rows.laid_math_bits_deBruijn32tab), ("math/bits.deBruijn64tab", Rows.laid_math_bits_deBruijn64tab), ("internal/strconv.uint64pow10", Rows.laid_internal_strconv_uint64pow10), ("unicode/utf8.acceptRanges", Rows.laid_unicode_utf8_acceptRanges), ("strconv.ErrRange", Rows.laid_strconv_ErrRange), ("strconv.ErrSyntax", Rows.laid_strconv_ErrSyntax), ("unicode/utf8.first", Rows.laid_unicode_utf8_first)] := by kernel_rfl
theorem laid_hand : (laid8.filter fun x => x.2.handleName?.isSome) = [("errors.errorType", Rows.laid_errors_errorType)] := by kernel_rfl
theorem et_named : Tryz.prog.globalNamed "errors.errorType" = some 0 := by kernel_rfl
theorem et_rt : (Tryz.prog.cutTypes.find? (·.1 == "internal/reflectlite.rtype")).map (·.2) = some 198 := by kernel_rfl
theorem et_row : ((List.range 261).filter fun t => Tryz.prog.rowNamed t [101, 114, 114, 111, 114]) = [73] := by kernel_rfl
theorem et_of_laid {W : World} (h : laidMetH Tryz.prog laid8 W) : W.cell? ⟨0, 0, none⟩ = some errHandle := by
  have h' := (laidMetH_iff.1 h).2
  rw [laid_hand] at h'
  obtain ⟨name, u, ty, e1, e2, e3, e4, e5⟩ := h' _ (List.mem_singleton.2 rfl)
  have en : name = [101, 114, 114, 111, 114] := (Option.some.inj e1).symm
  subst en
  obtain rfl := Option.some.inj (et_rt.symm.trans e2)
  have hm : ty ∈ (List.range 261).filter fun t => Tryz.prog.rowNamed t [101, 114, 114, 111, 114] := List.mem_filter.2 ⟨List.mem_range.2 (by rw [← tv_size]; exact e3), e4⟩
  rw [et_row] at hm
  obtain rfl := List.mem_singleton.1 hm
  have hh : typeHandle Tryz.prog 73 = .pointer (some ⟨9, 73, none⟩) := by kernel_rfl
  rw [hh] at e5
  unfold errHandle
  simpa using World.var?_cell et_named e5 0
theorem pow_of_laid {W : World} (h : laidMetH Tryz.prog laid8 W) : Lib.TabIs Tryz.prog W "internal/strconv.uint64pow10" .u64 Lib.pow10Tab := by
  have h' := (laidMetH_iff.1 h).1
  rw [laid_plain] at h'
  exact Lib.tabIs_of_head pow_named (by kernel_rfl) Tryz.underlying221 Tryz.underlying174 (by kernel_rfl) (by kernel_rfl) h'.tail.tail
theorem es_cat : "*" ++ "errors.errorString" = "*errors.errorString" := by decide
theorem es_row (u : TypeId) (h : Tryz.prog.typeName? 3 u = some "*errors.errorString") : u = 212 :=
  typeName_ptr_named (nm := "errors.errorString") (by rw [es_cat]; kernel_rfl) (by kernel_rfl) (by decide) u (by rw [es_cat]; exact h)
theorem sentinel_cell {W : World} {n : String} {text : List UInt8} {r : List (String × DataW Unit)} {g : Nat} (h : laidMet Tryz.prog ((n, .iface "*errors.errorString" (.ptr (.agg [.lit (.string text)]))) :: r) W)
    (hg : Tryz.prog.globalNamed n = some g) (ht : (Tryz.prog.globals[g]?).map (·.type) = some 73) : ∃ t p, W.cell? ⟨g, 0, none⟩ = some (.iface t p) := by
  obtain ⟨a0, s0, hv0, _⟩ := laid_sentinel h hg ht Tryz.underlying73 es_row Tryz.underlying212 Tryz.underlying214 rfl rfl Tryz.underlying9 (by kernel_rfl) (by kernel_rfl)
  exact ⟨_, _, by simpa using World.var?_cell hg hv0 0⟩
theorem env_of_laid {W : World} (h : laidMetH Tryz.prog laid8 W) (hsh : W.ShapedOpen Tryz.prog) : Env W := by
  have h' := (laidMetH_iff.1 h).1
  rw [laid_plain] at h'
  have hr := h'.tail.tail.tail.tail
  exact { et := et_of_laid h
          ml := cell_of_shapedOpen_int (g := 3) (t := 3) (zero := #[.int .i64 0]) hsh (of_decide_eq_true (by kernel_rfl)) (by kernel_rfl) rfl (by kernel_rfl) (by kernel_rfl) Tryz.underlying3
          tab := pow_of_laid h
          sy := sentinel_cell hr.tail (by kernel_rfl) (by kernel_rfl)
          ra := sentinel_cell hr (by kernel_rfl) (by kernel_rfl) }
/-- A world that meets the condition. -/
noncomputable def handWorld (os : Os) : World :=
  let w0 := World.holding Tryz.prog os ⟨#[], #[], []⟩
  { w0 with heap := w0.heap.modify 0 fun
      | .cells _ t frozen => .cells #[errHandle] t frozen
      | o => o }
noncomputable def laidWorld (os : Os) : World := (handWorld os).layVars Tryz.prog (laid8.filter fun x => x.2.handleName?.isNone)
theorem laidWorld_os (os : Os) : (laidWorld os).os = os := World.layVars_os _ _ _
set_option maxRecDepth 100000 in
theorem laidWorld_met (os : Os) (args : Array Value) : laidMetH Tryz.prog laid8 ((laidWorld os).forCall (fun _ _ => 0) ⟨#[], args, []⟩).memory := by
  have h : laidMetH Tryz.prog laid8 (laidWorld os) := by
    refine laidMetH_of_parts ?_ (by kernel_rfl)
    exact laidMet_layVars (w0 := handWorld os) (laid8.map (·.1)) [] (by kernel_rfl) (by kernel_rfl) (by kernel_rfl) (by rw [show ((laid8.filter fun x => x.2.handleName?.isNone).filter fun x => !(laid8.map (·.1)).contains x.1) = [] by kernel_rfl]; exact LaidIn.none)
  exact h.of_heap (by simp [World.memory, World.forCall, Input.heap])
theorem laidWorld_shaped (os : Os) (args : Array Value) : ((laidWorld os).forCall (fun _ _ => 0) ⟨#[], args, []⟩).Shaped Tryz.prog := World.shaped_of_ZipB (by kernel_rfl) (by kernel_rfl)
end Go.Proofs.YthooacpfmjpdmaaGreatDoor
