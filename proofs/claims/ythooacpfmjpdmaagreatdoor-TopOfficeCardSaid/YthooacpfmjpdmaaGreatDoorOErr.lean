/- The code of a refusal (errors.As at a target of the refusal's type), refusals, and the first of several errors. Conditions: the variable errors.errorType reads as it was laid. -/
import Derived.Test.YthooacpfmjpdmaaGreatDoorOMem
import Derived.LaidEql
import Derived.Stop.Asserts
import Derived.RowKitTokens
namespace Go.Proofs.YthooacpfmjpdmaaGreatDoor
open Go.RowKit Go.Extern.Stop Go.Stop Go.Extern

theorem tv_size : Tryz.prog.types.size = 261 := by kernel_rfl
theorem tv_valueOfP (t : Addr) (w : World) : (ReflectliteValue.unpack (.iface 133 (.pointer (some t)))).run Tryz.prog w
    = .ok (.agg #[.pointer (some ⟨9, 133, none⟩), .pointer (some ⟨w.heap.size, 0, none⟩), .int .u64 150]) (w.alloc (.cells #[.pointer (some t)] 133)) := by kernel_rfl
theorem tv_typeP (a : Addr) (w : World) : (ReflectliteValue.methodAny (ReflectliteValue.valueError "reflectlite.Value.Type" 0) (fun t _ _ _ => ReflectliteType.toType t) #[.agg #[.pointer (some ⟨9, 133, none⟩), .pointer (some a), .int .u64 150]]).run Tryz.prog w
    = .ok (.iface 198 (.agg #[.pointer (some ⟨9, 133, none⟩)])) w := by kernel_rfl
theorem tv_methodKind (h : Value) (w : World) : (Go.method 361 198 (.agg #[h]) "Kind").run Tryz.prog w = .ok (195, h) w := by kernel_rfl
theorem tv_kindP (w : World) : ((ReflectliteType.abiMethod fun t => (fun a : Nat => Value.int IntKind.u8 (a : Int)) <$> Rtype.kind t) #[.pointer (some ⟨9, 133, none⟩)]).run Tryz.prog w = .ok (.int .u8 22) w := by kernel_rfl
theorem tv_kindR (w : World) : ((ReflectliteType.abiMethod fun t => (fun a : Nat => Value.int IntKind.u8 (a : Int)) <$> Rtype.kind t) #[.pointer (some ⟨9, 127, none⟩)]).run Tryz.prog w = .ok (.int .u8 25) w := by kernel_rfl
theorem tv_rlm (z : Sem Value) (f : TypeId → Addr → Nat → Nat → Sem Value) (v : Value) :
    ReflectliteValue.method z f #[v] = (do match ← ReflectliteValue.parts v with | none => z | some (t, a, fl) => f t a fl (fl % 32)) := rfl
theorem tv_partsP (a : Addr) (w : World) : (ReflectliteValue.parts (.agg #[.pointer (some ⟨9, 133, none⟩), .pointer (some a), .int .u64 150])).run Tryz.prog w = .ok (some (133, a, 150)) w := by kernel_rfl
theorem tv_isNil (a p : Addr) (W : World) (ha : W.cell? a = some (.pointer (some p))) :
    (ReflectliteValue.method (ReflectliteValue.valueError "reflectlite.Value.IsNil" 0) ReflectliteValue.isNil #[.agg #[.pointer (some ⟨9, 133, none⟩), .pointer (some a), .int .u64 150]]).run Tryz.prog W = .ok (.bool false) W := by
  rw [tv_rlm]
  simp only [Sem.run_bind, tv_partsP, Result.andThen]
  simp [ReflectliteValue.isNil, loadVar, isAgg, underlying, Tryz.underlying133, ha, Result.andThen]
theorem tv_methodElem (h : Value) (w : World) : (Go.method 361 198 (.agg #[h]) "Elem").run Tryz.prog w = .ok (208, .agg #[h]) w := by kernel_rfl
theorem tv_methodImplements (h : Value) (w : World) : (Go.method 361 198 (.agg #[h]) "Implements").run Tryz.prog w = .ok (209, .agg #[h]) w := by kernel_rfl
theorem tv_methodAssignableTo (h : Value) (w : World) : (Go.method 361 198 (.agg #[h]) "AssignableTo").run Tryz.prog w = .ok (206, .agg #[h]) w := by kernel_rfl
theorem tv_elem (w : World) : (ReflectliteType.method ReflectliteType.elem #[.agg #[.pointer (some ⟨9, 133, none⟩)]]).run Tryz.prog w = .ok (.iface 198 (.agg #[.pointer (some ⟨9, 127, none⟩)])) w := by kernel_rfl
theorem tv_implements (w : World) : (ReflectliteType.relation "Implements" ReflectliteType.implements_ #[.agg #[.pointer (some ⟨9, 127, none⟩)], .iface 198 (.agg #[.pointer (some ⟨9, 73, none⟩)])]).run Tryz.prog w = .ok (.bool true) w := by kernel_rfl
theorem tv_typeOf (v : Value) (w : World) : (ReflectliteType.typeOf #[.iface 127 v]).run Tryz.prog w = .ok (.iface 198 (.agg #[.pointer (some ⟨9, 127, none⟩)])) w := by kernel_rfl
theorem tv_assignable (w : World) : (ReflectliteType.relation "AssignableTo" ReflectliteType.assignableTo #[.agg #[.pointer (some ⟨9, 127, none⟩)], .iface 198 (.agg #[.pointer (some ⟨9, 127, none⟩)])]).run Tryz.prog w = .ok (.bool true) w := by kernel_rfl
theorem tv_valueOfR (e : Int) (w : World) : (ReflectliteValue.unpack (.iface 127 (.agg #[.int .i64 e]))).run Tryz.prog w
    = .ok (.agg #[.pointer (some ⟨9, 127, none⟩), .pointer (some ⟨w.heap.size, 0, none⟩), .int .u64 153]) (w.alloc (.cells #[.int .i64 e] 127)) := by kernel_rfl
theorem tv_elemOf (w : World) : (Rtype.elem? 133).run Tryz.prog w = .ok (some 127) w := by kernel_rfl
theorem tv_mk (p : Addr) (w : World) : (ReflectliteValue.mk 127 p ReflectliteValue.flagAddr).run Tryz.prog w = .ok (.agg #[.pointer (some ⟨9, 127, none⟩), .pointer (some p), .int .u64 409]) w := by kernel_rfl
theorem tv_elemV (a p : Addr) (W : World) (ha : W.cell? a = some (.pointer (some p))) :
    (ReflectliteValue.method (ReflectliteValue.valueError "reflectlite.Value.Elem" 0) ReflectliteValue.elem #[.agg #[.pointer (some ⟨9, 133, none⟩), .pointer (some a), .int .u64 150]]).run Tryz.prog W
      = .ok (.agg #[.pointer (some ⟨9, 127, none⟩), .pointer (some p), .int .u64 409]) W := by
  rw [tv_rlm]
  simp only [Sem.run_bind, tv_partsP, Result.andThen]
  simp [ReflectliteValue.elem, loadVar, isAgg, underlying, Tryz.underlying133, ha, Result.andThen, tv_elemOf, tv_mk]
theorem tv_rls (v x : Value) : ReflectliteValue.set #[v, x] = (do
    let (some (dst, a, fl), some (src, b, _)) := (← ReflectliteValue.parts v, ← ReflectliteValue.parts x)
      | unsupported (.noEntry "extern/(internal/reflectlite.Value).Set.zeroValue")
    if fl / ReflectliteValue.flagAddr % 2 == 0 then unsupported (.noEntry "extern/(internal/reflectlite.Value).Set.unaddressable")
    let val ← loadVar src b
    if ← Rtype.directlyAssignable dst src then storeVar dst a val
    else if ← Rtype.implements dst src then
      if (← Rtype.kind src) == 20 then
        match val with
        | .nilIface => unsupported (.noEntry "extern/reflectlite: a nil value of one interface type handed on as a value of another")
        | _ => storeVar dst a val
      else storeVar dst a (.iface src val)
    else panicString ("reflectlite.Set: value of type " ++ (← Rtype.spelt src) ++ " is not assignable to type " ++ (← Rtype.spelt dst))
    pure (.tuple #[])) := rfl
theorem tv_partsRa (a : Addr) (w : World) : (ReflectliteValue.parts (.agg #[.pointer (some ⟨9, 127, none⟩), .pointer (some a), .int .u64 409])).run Tryz.prog w = .ok (some (127, a, 409)) w := by kernel_rfl
theorem tv_partsR (a : Addr) (w : World) : (ReflectliteValue.parts (.agg #[.pointer (some ⟨9, 127, none⟩), .pointer (some a), .int .u64 153])).run Tryz.prog w = .ok (some (127, a, 153)) w := by kernel_rfl
theorem tv_direct (w : World) : (Rtype.directlyAssignable 127 127).run Tryz.prog w = .ok true w := by kernel_rfl
theorem tv_set (ta b : Addr) (e : Int) (old : Value) (W : World) (hb : W.cell? b = some (.int .i64 e)) (ht : W.cell? ta = some old) (hf : W.frozen? ta = false) :
    (ReflectliteValue.set #[.agg #[.pointer (some ⟨9, 127, none⟩), .pointer (some ta), .int .u64 409], .agg #[.pointer (some ⟨9, 127, none⟩), .pointer (some b), .int .u64 153]]).run Tryz.prog W
      = .ok (.tuple #[]) (W.setCell ta (.int .i64 e)) := by
  have hl : (loadCells b 1).run Tryz.prog W = .ok #[.int .i64 e] W := by simp [go_sem, loadCells, loadCellsFrom, hb]
  rw [tv_rls]
  simp only [Sem.run_bind, tv_partsRa, tv_partsR, Result.andThen]
  have hcs : (Value.agg #[Value.int IntKind.i64 e]).cells = #[Value.int IntKind.i64 e] := by kernel_rfl
  simp [ReflectliteValue.flagAddr, loadVar, isAgg, underlying, Tryz.underlying127, Result.andThen, tv_direct, storeVar, hl]
  rw [hcs]
  simp [storeCells, Addr.add]
  rw [run_store Tryz.prog W ta _ _ (by rfl)]
  simp [ht, hf]

/-- The handle of the type 'error', as the variable errors.errorType holds it. -/
def errHandle : Value := .iface 198 (.agg #[.pointer (some ⟨9, 73, none⟩)])
set_option maxRecDepth 100000 in
set_option maxHeartbeats 4000000 in
theorem as_hit (e : Int) (t : Addr) (old : Value) (w : World) (hg : w.cell? ⟨0, 0, none⟩ = some errHandle) (ht0 : w.cell? t = some old) (hf0 : w.frozen? t = false) :
    Calls Tryz.prog 94 #[.iface 127 (.agg #[.int .i64 e]), .iface 133 (.pointer (some t))] w fun ev w' => ev = .returned (.bool true) ∧ w' = ((((w.alloc (.cells #[.pointer (some t)] 133)).alloc (.cells #[.pointer (some ⟨9, 133, none⟩), .pointer (some ⟨w.heap.size, 0, none⟩), .int .u64 150] 163)).alloc (.cells #[.pointer (some ⟨9, 133, none⟩), .pointer (some ⟨w.heap.size, 0, none⟩), .int .u64 150] 163)).alloc (.cells #[.int .i64 e] 127)).setCell t (.int .i64 e) := by
  have h6 := @run_callFunc_extern Tryz.prog 124 _ (fun args => ReflectliteValue.unpack (args.getD 0 (.tuple #[]))) Tryz.func124 (by kernel_rfl) (by kernel_rfl) (by kernel_rfl) (by kernel_rfl)
  have h7 := @run_callFunc_extern Tryz.prog 125 _ (ReflectliteValue.methodAny (ReflectliteValue.valueError "reflectlite.Value.Type" 0) (fun t _ _ _ => ReflectliteType.toType t)) Tryz.func125 (by kernel_rfl) (by kernel_rfl) (by kernel_rfl) (by kernel_rfl)
  have h8 := @run_callFunc_extern Tryz.prog 126 _ (ReflectliteValue.method (ReflectliteValue.valueError "reflectlite.Value.IsNil" 0) ReflectliteValue.isNil) Tryz.func126 (by kernel_rfl) (by kernel_rfl) (by kernel_rfl) (by kernel_rfl)
  have h27 := @run_callFunc_extern Tryz.prog 195 _ (ReflectliteType.abiMethod fun t => do pure (.int .u8 (← Rtype.kind t))) Tryz.func195 (by kernel_rfl) (by kernel_rfl) (by kernel_rfl) (by kernel_rfl)
  have h37 := @run_callFunc_extern Tryz.prog 208 _ (ReflectliteType.method ReflectliteType.elem) Tryz.func208 (by kernel_rfl) (by kernel_rfl) (by kernel_rfl) (by kernel_rfl)
  have h38 := @run_callFunc_extern Tryz.prog 209 _ (ReflectliteType.relation "Implements" ReflectliteType.implements_) Tryz.func209 (by kernel_rfl) (by kernel_rfl) (by kernel_rfl) (by kernel_rfl)
  have h10 := @run_callFunc_extern Tryz.prog 154 _ ReflectliteType.typeOf Tryz.func154 (by kernel_rfl) (by kernel_rfl) (by kernel_rfl) (by kernel_rfl)
  have h35 := @run_callFunc_extern Tryz.prog 206 _ (ReflectliteType.relation "AssignableTo" ReflectliteType.assignableTo) Tryz.func206 (by kernel_rfl) (by kernel_rfl) (by kernel_rfl) (by kernel_rfl)
  have h11 := @run_callFunc_extern Tryz.prog 155 _ (ReflectliteValue.method (ReflectliteValue.valueError "reflectlite.Value.Elem" 0) ReflectliteValue.elem) Tryz.func155 (by kernel_rfl) (by kernel_rfl) (by kernel_rfl) (by kernel_rfl)
  have h12 := @run_callFunc_extern Tryz.prog 156 _ ReflectliteValue.set Tryz.func156 (by kernel_rfl) (by kernel_rfl) (by kernel_rfl) (by kernel_rfl)
  have tO := tv_typeOf
  have mA := tv_methodAssignableTo
  have a25 := tv_assignable
  have v25 := tv_valueOfR
  have f6 := tv_valueOfP
  have f7 := tv_typeP
  have mK := tv_methodKind
  have mE := tv_methodElem
  have mI := tv_methodImplements
  have k27 := tv_kindP
  have k25 := tv_kindR
  have e27 := tv_elem
  have n8 := tv_isNil ⟨w.heap.size, 0, none⟩ t ((w.alloc (.cells #[.pointer (some t)] 133)).alloc (.cells #[.pointer (some ⟨9, 133, none⟩), .pointer (some ⟨w.heap.size, 0, none⟩), .int .u64 150] 163)) (by simp)
  have hlt : 0 < w.heap.size := by
    rcases Nat.lt_or_ge 0 w.heap.size with h | h
    · exact h
    · simp [World.cell?, Array.getElem?_eq_none h] at hg
  have hg2 : ((w.alloc (.cells #[.pointer (some t)] 133)).alloc (.cells #[.pointer (some ⟨9, 133, none⟩), .pointer (some ⟨w.heap.size, 0, none⟩), .int .u64 150] 163)).cell? ⟨0, 0, none⟩ = some errHandle := by
    rw [World.cell?_alloc_lt _ _ ⟨0, 0, none⟩ (by first | (simp; done) | (simp; omega)), World.cell?_alloc_lt _ _ ⟨0, 0, none⟩ hlt]; exact hg
  unfold errHandle at hg hg2
  have iR := tv_implements
  have htl : t.block < w.heap.size := by
    rcases Nat.lt_or_ge t.block w.heap.size with h | h
    · exact h
    · simp [World.cell?, Array.getElem?_eq_none h] at ht0
  have el := tv_elemV ⟨w.heap.size, 0, none⟩ t (((w.alloc (.cells #[.pointer (some t)] 133)).alloc (.cells #[.pointer (some ⟨9, 133, none⟩), .pointer (some ⟨w.heap.size, 0, none⟩), .int .u64 150] 163)).alloc (.cells #[.pointer (some ⟨9, 133, none⟩), .pointer (some ⟨w.heap.size, 0, none⟩), .int .u64 150] 163)) (by rw [World.cell?_alloc_lt _ _ ⟨w.heap.size, 0, none⟩ (by first | (simp; done) | (simp; omega))]; simp)
  have st := tv_set t ⟨w.heap.size + 1 + 1 + 1, 0, none⟩ e old ((((w.alloc (.cells #[.pointer (some t)] 133)).alloc (.cells #[.pointer (some ⟨9, 133, none⟩), .pointer (some ⟨w.heap.size, 0, none⟩), .int .u64 150] 163)).alloc (.cells #[.pointer (some ⟨9, 133, none⟩), .pointer (some ⟨w.heap.size, 0, none⟩), .int .u64 150] 163)).alloc (.cells #[.int .i64 e] 127))
    (by rw [World.cell?_alloc_at _ _ _ _ (by simp)]; rfl)
    (by rw [World.cell?_alloc_lt _ _ t (by first | (simp; done) | (simp; omega)), World.cell?_alloc_lt _ _ t (by first | (simp; done) | (simp; omega)), World.cell?_alloc_lt _ _ t (by first | (simp; done) | (simp; omega)), World.cell?_alloc_lt _ _ t htl]; exact ht0)
    (by rw [World.frozen?_alloc_old _ _ t (by first | (simp; done) | (simp; omega)), World.frozen?_alloc_old _ _ t (by first | (simp; done) | (simp; omega)), World.frozen?_alloc_old _ _ t (by first | (simp; done) | (simp; omega)), World.frozen?_alloc_old _ _ t (Nat.ne_of_lt htl)]; exact hf0)
  go_enter Tryz.func94, Tryz.ntmps94
  go_wp2
  refine wp_loop_rounds 1 ?_
  rw [rounds_succ]
  go_wp2
  go_ret
  exact ⟨rfl, rfl⟩

/-- An error that is a refusal. -/
def refV (e : Int) : Value := .iface 127 (.agg #[.int .i64 e])
set_option maxHeartbeats 1000000 in
theorem code_calls (e : Int) (w : World) (hg : w.cell? ⟨0, 0, none⟩ = some errHandle) :
    Gives Tryz.prog 62 #[refV e] w (.int .i64 e) := by
  have HG := Lib.hid hg
  have hlt : 0 < w.heap.size := by
    rcases Nat.lt_or_ge 0 w.heap.size with h | h
    · exact h
    · simp [World.cell?, Array.getElem?_eq_none h] at hg
  clear hg
  have HG2 : Hid ((w.alloc (.cells #[.int .i64 0] 127)).cell? ⟨0, 0, none⟩ = some errHandle) := by
    show _ = _
    rw [World.cell?_alloc_lt _ _ ⟨0, 0, none⟩ hlt]; exact HG.out
  unfold Gives refV
  go_enter Tryz.func62, Tryz.ntmps62
  go_wp2_with (go_at_call 94; refine (as_hit e ⟨w.heap.size, 0, none⟩ (.int .i64 0) _ HG2.out (by simp) (by simp)).mono ?_; rintro ev w' ⟨rfl, rfl⟩)
  go_ret
  exact ⟨rfl, by (repeat' (first | exact Below.refl _ _ | assumption | refine below_new ?_ _ | refine below_draw ?_ | refine below_tail (by assumption) ?_ | refine below_set ?_ (by first | omega | (simp <;> omega)) _))⟩
/-- No error, or a refusal. -/
def errV (e : Int) : Value := if e = 0 then .nilIface else refV e
theorem errV_0 : errV 0 = .nilIface := rfl
theorem errV_ne {e : Int} (h : e ≠ 0) : errV e = .iface 127 (.agg #[.int .i64 e]) := by unfold errV refV; rw [if_neg h]
def whenE (b : Bool) (e : Int) : Int := if b then e else 0
set_option maxHeartbeats 400000 in
theorem when_calls (b : Bool) (e : Int) (w : World) (he : e ≠ 0) : Same Tryz.prog 97 #[.bool b, .int .i64 e] w (errV (whenE b e)) := by
  unfold Same
  cases b
  · go_enter Tryz.func97, Tryz.ntmps97
    go_wp2
    go_ret
    exact ⟨rfl, rfl⟩
  · have HV : Hid (errV (whenE true e) = .iface 127 (.agg #[.int .i64 e])) := errV_ne he
    go_enter Tryz.func97, Tryz.ntmps97
    go_wp2
    go_ret
    exact ⟨by rw [HV.out]; rfl, rfl⟩
theorem when_is {b : Bool} {e r : Int} {w : World} (he : e ≠ 0) (hr : whenE b e = r) : Same Tryz.prog 97 #[.bool b, .int .i64 e] w (errV r) := hr ▸ when_calls b e w he
/-- The slice holds these errors. -/
def ErrsAt (w : World) (v : Value) (L : List Int) : Prop :=
  ∃ a cap, v = .slice a L.length cap ∧ L.length ≤ cap ∧ cap ≤ 9223372036854775807 ∧ ∀ i, i < L.length → ∃ b o, a = some ⟨b, o, none⟩ ∧ b < w.heap.size ∧ w.cell? ⟨b, o + i, none⟩ = some (errV (gi L 0 i))
set_option maxHeartbeats 400000 in
theorem first_calls (v : Value) (L : List Int) (w : World) (h : ErrsAt w v L) : Same Tryz.prog 96 #[v] w (errV (orFrom L 0)) := by
  obtain ⟨a, cap, rfl, hlc, hcm, hc⟩ := h
  have HC := Lib.hid hc
  clear hc
  unfold Same
  go_enter Tryz.func96, Tryz.ntmps96
  go_wp2
  go_loop [7] (fun i => ∃ k : Nat, k ≤ L.length ∧ i = .int .i64 k ∧ Hid (orFrom L 0 = orFrom L k)) (fun i => L.length - (intOf i).toNat)
  case atStart => exact ⟨0, Nat.zero_le _, rfl, rfl⟩
  case round =>
    obtain ⟨k, hk, rfl, hr⟩ := hrel
    by_cases hlt : k < L.length
    · obtain ⟨b, o, rfl, hB, hcell⟩ := HC.out k hlt
      by_cases hz : gi L 0 k = 0
      · have H1 := Lib.hid (orFrom_no hlt (by rw [hz]; rfl))
        rw [hz, errV_0] at hcell
        clear hz
        go_wp2
        go_round
        case rel => exact ⟨k + 1, by omega, by go_num, by unfold Hid; rw [hr.out, H1.out]⟩
        case measure => simp [intOf]; omega
      · have H1 := Lib.hid (orFrom_yes hlt (by simpa using hz))
        have H2 := Lib.hid (errV_ne hz)
        rw [H2.out] at hcell
        clear hz
        go_wp2
        go_ret
        exact ⟨by rw [hr.out, H1.out, H2.out]; rfl, rfl⟩
    · have H1 := Lib.hid (orFrom_end hlt)
      go_wp2
      go_ret
      exact ⟨by rw [hr.out, H1.out, errV_0]; rfl, rfl⟩
theorem first_is {v : Value} {L : List Int} {e : Int} {w : World} (h : ErrsAt w v L) (he : orFrom L 0 = e) : Same Tryz.prog 96 #[v] w (errV e) := he ▸ first_calls v L w h
end Go.Proofs.YthooacpfmjpdmaaGreatDoor
