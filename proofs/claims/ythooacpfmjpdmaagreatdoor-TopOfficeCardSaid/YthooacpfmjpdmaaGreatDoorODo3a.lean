/- The order lay, no part is deducted. Conditions: as said. -/
import Derived.Test.YthooacpfmjpdmaaGreatDoorODoB
namespace Go.Proofs.YthooacpfmjpdmaaGreatDoor
open Go.RowKit
set_option maxRecDepth 1000000 in
def LayIn (W0 : World) (B n : Nat) (s : St) (g1 c1 g2 c2 g3 c3 lb lo cc : Nat) (a1 sl sc : Int) (q0 q2 : Bool) (e0 e1 e2 e : Int) (sv1 sv2 sv4 sv5 sv6 sv7 sv8 sv9 sv10 sv11 sv12 sv13 sv15 sv16 sv17 sv18 sv19 sv20 sv21 sv22 sv23 sv24 sv25 sv26 sv27 sv28 sv29 sv30 sv31 sv32 sv33 sv34 sv35 sv36 sv37 sv38 sv39 sv40 sv41 sv42 sv43 sv44 sv45 sv46 sv47 sv48 sv49 sv50 sv51 sv52 sv53 sv54 sv55 sv56 sv57 sv58 sv59 sv60 sv61 sv62 sv63 sv64 sv65 sv66 sv67 sv68 sv69 sv70 sv71 sv72 sv73 sv74 sv75 sv76 sv77 sv78 sv79 sv80 sv81 sv82 sv83 sv84 sv85 sv86 sv87 sv88 sv89 sv90 sv91 sv92 sv93 sv94 sv95 sv96 sv97 sv98 sv99 sv100 sv101 sv102 sv103 sv104 sv105 sv106 sv107 sv108 sv109 sv110 sv111 sv112 sv113 sv114 sv115 sv116 sv117 sv118 sv119 sv120 sv121 sv122 sv123 sv124 sv125 sv126 sv127 sv128 sv129 sv130 sv131 sv132 sv133 sv134 sv135 sv136 sv137 sv138 sv139 sv140 sv141 sv142 sv143 sv144 sv145 sv146 sv147 sv148 sv149 sv150 sv151 sv152 sv153 : Value) (d : Nat → Bool) (a : Act) (x : World) : Prop :=
  ∃ u14 u154 u155 u156 u157 u158 u159 u160 u161 u162 u163 u164 u165 u166 u167 u168 u169 u170 u171 u172 u173 u174 u175 u176 u177 u178 u179 u180 u181 u182 u183 u184 u185 u186 u187 u188 u189 u190 : Value, a = ⟨List.toArray ((.pointer (some ⟨B, 0, none⟩)) :: sv1 :: sv2 :: (.slice (some ⟨lb, lo, none⟩) 2 cc) :: sv4 :: sv5 :: sv6 :: sv7 :: sv8 :: sv9 :: sv10 :: sv11 :: sv12 :: sv13 :: u14 :: sv15 :: sv16 :: sv17 :: sv18 :: sv19 :: sv20 :: sv21 :: sv22 :: sv23 :: sv24 :: sv25 :: sv26 :: sv27 :: sv28 :: sv29 :: sv30 :: sv31 :: sv32 :: sv33 :: sv34 :: sv35 :: sv36 :: sv37 :: sv38 :: sv39 :: sv40 :: sv41 :: sv42 :: sv43 :: sv44 :: sv45 :: sv46 :: sv47 :: sv48 :: sv49 :: sv50 :: sv51 :: sv52 :: sv53 :: sv54 :: sv55 :: sv56 :: sv57 :: sv58 :: sv59 :: sv60 :: sv61 :: sv62 :: sv63 :: sv64 :: sv65 :: sv66 :: sv67 :: sv68 :: sv69 :: sv70 :: sv71 :: sv72 :: sv73 :: sv74 :: sv75 :: sv76 :: sv77 :: sv78 :: sv79 :: sv80 :: sv81 :: sv82 :: sv83 :: sv84 :: sv85 :: sv86 :: sv87 :: sv88 :: sv89 :: sv90 :: sv91 :: sv92 :: sv93 :: sv94 :: sv95 :: sv96 :: sv97 :: sv98 :: sv99 :: sv100 :: sv101 :: sv102 :: sv103 :: sv104 :: sv105 :: sv106 :: sv107 :: sv108 :: sv109 :: sv110 :: sv111 :: sv112 :: sv113 :: sv114 :: sv115 :: sv116 :: sv117 :: sv118 :: sv119 :: sv120 :: sv121 :: sv122 :: sv123 :: sv124 :: sv125 :: sv126 :: sv127 :: sv128 :: sv129 :: sv130 :: sv131 :: sv132 :: sv133 :: sv134 :: sv135 :: sv136 :: sv137 :: sv138 :: sv139 :: sv140 :: sv141 :: sv142 :: sv143 :: sv144 :: sv145 :: sv146 :: sv147 :: sv148 :: sv149 :: sv150 :: sv151 :: sv152 :: sv153 :: u154 :: u155 :: u156 :: u157 :: u158 :: u159 :: u160 :: u161 :: u162 :: u163 :: u164 :: u165 :: u166 :: u167 :: u168 :: u169 :: u170 :: u171 :: u172 :: u173 :: u174 :: u175 :: u176 :: u177 :: u178 :: u179 :: u180 :: u181 :: u182 :: u183 :: u184 :: u185 :: u186 :: u187 :: u188 :: u189 :: u190 :: undef :: undef :: undef :: undef :: undef :: undef :: undef :: undef :: undef :: undef :: undef :: undef :: undef :: undef :: undef :: undef :: undef :: undef :: undef :: undef :: undef :: undef :: undef :: undef :: undef :: undef :: undef :: undef :: undef :: undef :: undef :: undef :: undef :: undef :: undef :: undef :: undef :: undef :: undef :: undef :: undef :: undef :: undef :: undef :: undef :: undef :: undef :: undef :: undef :: undef :: undef :: undef :: undef :: undef :: undef :: undef :: undef :: undef :: undef :: undef :: undef :: undef :: undef :: undef :: undef :: undef :: undef :: undef :: undef :: undef :: undef :: undef :: undef :: undef :: undef :: undef :: undef :: undef :: undef :: undef :: undef :: undef :: undef :: undef :: undef :: undef :: undef :: undef :: undef :: undef :: undef :: undef :: undef :: undef :: undef :: undef :: undef :: undef :: undef :: undef :: undef :: undef :: undef :: undef :: undef :: undef :: undef :: undef :: undef :: undef :: undef :: undef :: undef :: undef :: undef :: undef :: undef :: undef :: undef :: undef :: undef :: undef :: undef :: undef :: undef :: undef :: undef :: undef :: undef :: undef :: undef :: undef :: undef :: undef :: undef :: undef :: undef :: undef :: undef :: undef :: undef :: undef :: undef :: undef :: undef :: undef :: undef :: undef :: undef :: undef :: undef :: undef :: undef :: undef :: undef :: undef :: undef :: undef :: undef :: undef :: undef :: undef :: undef :: undef :: undef :: undef :: undef :: undef :: undef :: undef :: undef :: undef :: undef :: undef :: undef :: undef :: undef :: undef :: undef :: undef :: undef :: undef :: undef :: undef :: undef :: undef :: undef :: undef :: undef :: undef :: undef :: undef :: undef :: undef :: undef :: undef :: undef :: undef :: undef :: undef :: undef :: undef :: undef :: undef :: undef :: undef :: undef :: undef :: undef :: undef :: undef :: undef :: undef :: undef :: undef :: undef :: undef :: undef :: undef :: undef :: undef :: undef :: undef :: undef :: undef :: undef :: undef :: undef :: undef :: undef :: undef :: undef :: undef :: undef :: undef :: undef :: undef :: undef :: undef :: undef :: undef :: undef :: undef :: undef :: undef :: undef :: undef :: undef :: undef :: undef :: undef :: undef :: undef :: undef :: undef :: undef :: undef :: undef :: undef :: undef :: undef :: undef :: undef :: undef :: undef :: undef :: undef :: undef :: undef :: undef :: undef :: undef :: undef :: []), []⟩ ∧
    Below W0.heap.size W0 x ∧
    (d 0 = true → u154 = .slice (some ⟨lb, lo, none⟩) 2 cc) ∧
    (d 1 = true → u155 = .pointer (some ⟨lb, lo + 1, none⟩)) ∧
    (d 2 = true → u156 = .int .i64 a1) ∧
    (d 3 = true → u157 = .bool q0) ∧
    (d 4 = true → u158 = errV e0) ∧
    (d 5 = true → u159 = .pointer (some ⟨B, 0, none⟩)) ∧
    (d 6 = true → u160 = .pointer (some ⟨B, 0, none⟩)) ∧
    (d 7 = true → u161 = .pointer (some ⟨B, 3, none⟩)) ∧
    (d 8 = true → u162 = .pointer (some ⟨B, 4, none⟩)) ∧
    (d 9 = true → u163 = .bool false) ∧
    (d 10 = true → u164 = .bool true) ∧
    (d 11 = true → u165 = .bool true) ∧
    (d 12 = true → u166 = undef) ∧
    (d 13 = true → u167 = undef) ∧
    (d 14 = true → u168 = undef) ∧
    (d 15 = true → u169 = undef) ∧
    (d 16 = true → u170 = undef) ∧
    (d 17 = true → u171 = .bool true) ∧
    (d 18 = true → u172 = errV e1) ∧
    (d 19 = true → u173 = .pointer (some ⟨B, 0, none⟩)) ∧
    (d 20 = true → u174 = .pointer (some ⟨B, 0, none⟩)) ∧
    (d 21 = true → u175 = .pointer (some ⟨B, 2, none⟩)) ∧
    (d 22 = true → u176 = .slice (some ⟨g2, 0, none⟩) n c2) ∧
    (d 23 = true → u177 = .int .i64 sl) ∧
    (d 24 = true → u178 = .slice (some ⟨lb, lo, none⟩) 2 cc) ∧
    (d 25 = true → u179 = .pointer (some ⟨lb, lo + 1, none⟩)) ∧
    (d 26 = true → u180 = .int .i64 a1) ∧
    (d 27 = true → u181 = .int .i64 (sl + a1)) ∧
    (d 28 = true → u182 = .pointer (some ⟨B, 0, none⟩)) ∧
    (d 29 = true → u183 = .pointer (some ⟨B, 0, none⟩)) ∧
    (d 30 = true → u184 = .agg #[.int .i64 s.day, .slice (some ⟨g1, 0, none⟩) n c1, .slice (some ⟨g2, 0, none⟩) n c2, .int .i64 s.part, .bool false, .int .i64 s.stop, .bool s.heard, .slice (some ⟨g3, 0, none⟩) n c3, .bool s.ent]) ∧
    (d 31 = true → IntsAt x u185 (clmF s)) ∧
    (d 32 = true → u186 = .int .i64 sc) ∧
    (d 33 = true → u187 = .bool q2) ∧
    (d 34 = true → u188 = errV e2) ∧
    (d 35 = true → ErrsAt x u189 [e0, e1, e2]) ∧
    (d 36 = true → u190 = errV e) ∧
    (d 37 = true → u14 = errV e)
theorem LayIn_law (W0 : World) (B n : Nat) (s : St) (g1 c1 g2 c2 g3 c3 lb lo cc : Nat) (a1 sl sc : Int) (q0 q2 : Bool) (e0 e1 e2 e : Int) {sv1 sv2 sv4 sv5 sv6 sv7 sv8 sv9 sv10 sv11 sv12 sv13 sv15 sv16 sv17 sv18 sv19 sv20 sv21 sv22 sv23 sv24 sv25 sv26 sv27 sv28 sv29 sv30 sv31 sv32 sv33 sv34 sv35 sv36 sv37 sv38 sv39 sv40 sv41 sv42 sv43 sv44 sv45 sv46 sv47 sv48 sv49 sv50 sv51 sv52 sv53 sv54 sv55 sv56 sv57 sv58 sv59 sv60 sv61 sv62 sv63 sv64 sv65 sv66 sv67 sv68 sv69 sv70 sv71 sv72 sv73 sv74 sv75 sv76 sv77 sv78 sv79 sv80 sv81 sv82 sv83 sv84 sv85 sv86 sv87 sv88 sv89 sv90 sv91 sv92 sv93 sv94 sv95 sv96 sv97 sv98 sv99 sv100 sv101 sv102 sv103 sv104 sv105 sv106 sv107 sv108 sv109 sv110 sv111 sv112 sv113 sv114 sv115 sv116 sv117 sv118 sv119 sv120 sv121 sv122 sv123 sv124 sv125 sv126 sv127 sv128 sv129 sv130 sv131 sv132 sv133 sv134 sv135 sv136 sv137 sv138 sv139 sv140 sv141 sv142 sv143 sv144 sv145 sv146 sv147 sv148 sv149 sv150 sv151 sv152 sv153 : Value} {P : Program} {id : Nat} {ops : Array Oper} {Q : Exit → Act → World → Prop} {a : Act} {w : World} (hm : P.follows .mixedOrders = true) (hd : edgesDown ops = true)
    (h0 : LayIn W0 B n s g1 c1 g2 c2 g3 c3 lb lo cc a1 sl sc q0 q2 e0 e1 e2 e sv1 sv2 sv4 sv5 sv6 sv7 sv8 sv9 sv10 sv11 sv12 sv13 sv15 sv16 sv17 sv18 sv19 sv20 sv21 sv22 sv23 sv24 sv25 sv26 sv27 sv28 sv29 sv30 sv31 sv32 sv33 sv34 sv35 sv36 sv37 sv38 sv39 sv40 sv41 sv42 sv43 sv44 sv45 sv46 sv47 sv48 sv49 sv50 sv51 sv52 sv53 sv54 sv55 sv56 sv57 sv58 sv59 sv60 sv61 sv62 sv63 sv64 sv65 sv66 sv67 sv68 sv69 sv70 sv71 sv72 sv73 sv74 sv75 sv76 sv77 sv78 sv79 sv80 sv81 sv82 sv83 sv84 sv85 sv86 sv87 sv88 sv89 sv90 sv91 sv92 sv93 sv94 sv95 sv96 sv97 sv98 sv99 sv100 sv101 sv102 sv103 sv104 sv105 sv106 sv107 sv108 sv109 sv110 sv111 sv112 sv113 sv114 sv115 sv116 sv117 sv118 sv119 sv120 sv121 sv122 sv123 sv124 sv125 sv126 sv127 sv128 sv129 sv130 sv131 sv132 sv133 sv134 sv135 sv136 sv137 sv138 sv139 sv140 sv141 sv142 sv143 sv144 sv145 sv146 sv147 sv148 sv149 sv150 sv151 sv152 sv153 (fun _ => false) a w.drew)
    (hstep : ∀ (d : Nat → Bool) (a : Act) (w : World), LayIn W0 B n s g1 c1 g2 c2 g3 c3 lb lo cc a1 sl sc q0 q2 e0 e1 e2 e sv1 sv2 sv4 sv5 sv6 sv7 sv8 sv9 sv10 sv11 sv12 sv13 sv15 sv16 sv17 sv18 sv19 sv20 sv21 sv22 sv23 sv24 sv25 sv26 sv27 sv28 sv29 sv30 sv31 sv32 sv33 sv34 sv35 sv36 sv37 sv38 sv39 sv40 sv41 sv42 sv43 sv44 sv45 sv46 sv47 sv48 sv49 sv50 sv51 sv52 sv53 sv54 sv55 sv56 sv57 sv58 sv59 sv60 sv61 sv62 sv63 sv64 sv65 sv66 sv67 sv68 sv69 sv70 sv71 sv72 sv73 sv74 sv75 sv76 sv77 sv78 sv79 sv80 sv81 sv82 sv83 sv84 sv85 sv86 sv87 sv88 sv89 sv90 sv91 sv92 sv93 sv94 sv95 sv96 sv97 sv98 sv99 sv100 sv101 sv102 sv103 sv104 sv105 sv106 sv107 sv108 sv109 sv110 sv111 sv112 sv113 sv114 sv115 sv116 sv117 sv118 sv119 sv120 sv121 sv122 sv123 sv124 sv125 sv126 sv127 sv128 sv129 sv130 sv131 sv132 sv133 sv134 sv135 sv136 sv137 sv138 sv139 sv140 sv141 sv142 sv143 sv144 sv145 sv146 sv147 sv148 sv149 sv150 sv151 sv152 sv153 d a w → ∀ i, i < ops.size → d i = false → (∀ o, ops[i]? = some o → ∀ e ∈ o.after, Region.binds .any e = true → d e.on = true) → wpOp P ops Q i (LayIn W0 B n s g1 c1 g2 c2 g3 c3 lb lo cc a1 sl sc q0 q2 e0 e1 e2 e sv1 sv2 sv4 sv5 sv6 sv7 sv8 sv9 sv10 sv11 sv12 sv13 sv15 sv16 sv17 sv18 sv19 sv20 sv21 sv22 sv23 sv24 sv25 sv26 sv27 sv28 sv29 sv30 sv31 sv32 sv33 sv34 sv35 sv36 sv37 sv38 sv39 sv40 sv41 sv42 sv43 sv44 sv45 sv46 sv47 sv48 sv49 sv50 sv51 sv52 sv53 sv54 sv55 sv56 sv57 sv58 sv59 sv60 sv61 sv62 sv63 sv64 sv65 sv66 sv67 sv68 sv69 sv70 sv71 sv72 sv73 sv74 sv75 sv76 sv77 sv78 sv79 sv80 sv81 sv82 sv83 sv84 sv85 sv86 sv87 sv88 sv89 sv90 sv91 sv92 sv93 sv94 sv95 sv96 sv97 sv98 sv99 sv100 sv101 sv102 sv103 sv104 sv105 sv106 sv107 sv108 sv109 sv110 sv111 sv112 sv113 sv114 sv115 sv116 sv117 sv118 sv119 sv120 sv121 sv122 sv123 sv124 sv125 sv126 sv127 sv128 sv129 sv130 sv131 sv132 sv133 sv134 sv135 sv136 sv137 sv138 sv139 sv140 sv141 sv142 sv143 sv144 sv145 sv146 sv147 sv148 sv149 sv150 sv151 sv152 sv153 (fun j => j == i || d j)) a w)
    (hend : ∀ (d : Nat → Bool) (a : Act) (w : World), LayIn W0 B n s g1 c1 g2 c2 g3 c3 lb lo cc a1 sl sc q0 q2 e0 e1 e2 e sv1 sv2 sv4 sv5 sv6 sv7 sv8 sv9 sv10 sv11 sv12 sv13 sv15 sv16 sv17 sv18 sv19 sv20 sv21 sv22 sv23 sv24 sv25 sv26 sv27 sv28 sv29 sv30 sv31 sv32 sv33 sv34 sv35 sv36 sv37 sv38 sv39 sv40 sv41 sv42 sv43 sv44 sv45 sv46 sv47 sv48 sv49 sv50 sv51 sv52 sv53 sv54 sv55 sv56 sv57 sv58 sv59 sv60 sv61 sv62 sv63 sv64 sv65 sv66 sv67 sv68 sv69 sv70 sv71 sv72 sv73 sv74 sv75 sv76 sv77 sv78 sv79 sv80 sv81 sv82 sv83 sv84 sv85 sv86 sv87 sv88 sv89 sv90 sv91 sv92 sv93 sv94 sv95 sv96 sv97 sv98 sv99 sv100 sv101 sv102 sv103 sv104 sv105 sv106 sv107 sv108 sv109 sv110 sv111 sv112 sv113 sv114 sv115 sv116 sv117 sv118 sv119 sv120 sv121 sv122 sv123 sv124 sv125 sv126 sv127 sv128 sv129 sv130 sv131 sv132 sv133 sv134 sv135 sv136 sv137 sv138 sv139 sv140 sv141 sv142 sv143 sv144 sv145 sv146 sv147 sv148 sv149 sv150 sv151 sv152 sv153 d a w → (∀ i, i < ops.size → d i = true) → Q .normal a w) : (Code.region id ops true).wp P Q a w := wp_region_inv hm hd (LayIn W0 B n s g1 c1 g2 c2 g3 c3 lb lo cc a1 sl sc q0 q2 e0 e1 e2 e sv1 sv2 sv4 sv5 sv6 sv7 sv8 sv9 sv10 sv11 sv12 sv13 sv15 sv16 sv17 sv18 sv19 sv20 sv21 sv22 sv23 sv24 sv25 sv26 sv27 sv28 sv29 sv30 sv31 sv32 sv33 sv34 sv35 sv36 sv37 sv38 sv39 sv40 sv41 sv42 sv43 sv44 sv45 sv46 sv47 sv48 sv49 sv50 sv51 sv52 sv53 sv54 sv55 sv56 sv57 sv58 sv59 sv60 sv61 sv62 sv63 sv64 sv65 sv66 sv67 sv68 sv69 sv70 sv71 sv72 sv73 sv74 sv75 sv76 sv77 sv78 sv79 sv80 sv81 sv82 sv83 sv84 sv85 sv86 sv87 sv88 sv89 sv90 sv91 sv92 sv93 sv94 sv95 sv96 sv97 sv98 sv99 sv100 sv101 sv102 sv103 sv104 sv105 sv106 sv107 sv108 sv109 sv110 sv111 sv112 sv113 sv114 sv115 sv116 sv117 sv118 sv119 sv120 sv121 sv122 sv123 sv124 sv125 sv126 sv127 sv128 sv129 sv130 sv131 sv132 sv133 sv134 sv135 sv136 sv137 sv138 sv139 sv140 sv141 sv142 sv143 sv144 sv145 sv146 sv147 sv148 sv149 sv150 sv151 sv152 sv153) h0 hstep hend
set_option maxRecDepth 1000000 in
set_option maxHeartbeats 16000000 in
theorem do_lay_n (m : Nat) (w : World) (B n : Nat) (s : St) (g1 c1 g2 c2 g3 c3 : Nat) (cv lv : Value) (c : Cal) (i0 : Nat) (hi0 : i0 < n) (a1 : Int) (ra1 : 0 ≤ a1 ∧ a1 ≤ 9999) (h : StBox m w B n s g1 c1 g2 c2 g3 c3) (hg : Good s) (hfx : s.fixed = false) (hc : CalAt w cv c) (hv : validF c = 0) (hl : IntsAt w lv [(i0 : Int), a1]) :
    Calls Tryz.prog 64 #[.pointer (some ⟨B, 0, none⟩), cv, frmV (3, 2, 1), lv] w (DoR m w B n g1 c1 g2 c2 g3 c3 (kindE c s 3 [(i0 : Int), a1]) (kindS c s 3 [(i0 : Int), a1])) := by
  have HB := Lib.hid h
  have HG := Lib.hid hg
  have HC := Lib.hid hc
  have HV := Lib.hid hv
  have HL := Lib.hid hl
  have hn1 := h.st.n1
  have hn8 := h.st.n8
  have hmB := h.mB
  have hBl : B < w.heap.size := (Array.getElem?_eq_some_iff.1 h.box).1
  have hmW : m ≤ w.heap.size := by omega
  obtain ⟨ca, cc, rfl, hlc, hcm, -⟩ := hl
  obtain ⟨fv, sv, rfl, -⟩ := id hc
  obtain ⟨fa, fn, fc, rfl, sa, sn, sc, rfl⟩ : ∃ fa fn fc, fv = .slice fa fn fc ∧ ∃ sa sn sc, sv = .slice sa sn sc := by
    obtain ⟨fv', sv', e, ⟨fa, fc, e1, _⟩, ⟨sa, sc, e2, _⟩⟩ := HC.out
    simp only [Value.agg.injEq, Array.mk.injEq, List.cons.injEq, and_true, true_and] at e
    exact ⟨fa, _, fc, by rw [e.1, e1], sa, _, sc, by rw [e.2, e2]⟩
  simp only [List.length_cons, List.length_nil, Nat.zero_add, Nat.reduceAdd] at hlc HL ⊢
  obtain ⟨lb, lo, rfl, hlb, x0⟩ := HL.out.cellAt (m := 0) (by simp)
  simp only [gi, List.getElem?_cons_zero, Option.getD_some, Nat.add_zero] at x0
  obtain ⟨_, _, ex1, -, x1⟩ := HL.out.cellAt (m := 1) (by simp)
  cases ex1
  simp [gi] at x1
  clear h hg hc hv
  unfold frmV
  dsimp only
  go_enter Tryz.func64, Tryz.ntmps64
  go_wp2
  obtain ⟨W0, hW0⟩ : ∃ W0, (w.alloc (.cells #[.int .i64 c.first, .slice fa fn fc, .slice sa sn sc] 25)).alloc (.cells #[.int .i64 3, .int .i64 2, .int .i64 1] 104) = W0 := ⟨_, rfl⟩
  have hbW : Below w.heap.size w W0 := by rw [← hW0]; (repeat' (first | exact Below.refl _ _ | assumption | refine below_new ?_ _ | refine below_draw ?_ | refine below_tail (by assumption) ?_ | refine below_set ?_ (by first | omega | (simp <;> omega)) _))
  have hBC : W0.heap[w.heap.size]? = some (.cells #[.int .i64 c.first, .slice fa fn fc, .slice sa sn sc] 25 (0, 0)) := by
    rw [← hW0, Below.heap_alloc _ _ _ (by simp)]; exact alloc_new _ _ rfl
  have hBF : W0.heap[w.heap.size + 1]? = some (.cells #[.int .i64 3, .int .i64 2, .int .i64 1] 104 (0, 0)) := by
    rw [← hW0]; exact alloc_new _ _ (by simp)
  rw [hW0]
  have HST : Hid (StBox m W0 B n s g1 c1 g2 c2 g3 c3) := HB.out.keep hbW
  have hBW := HST.out.box
  unfold stC at hBW
  have kf := (cell_of_block hBF 0).trans (show _ = some (.int .i64 3) from rfl)
  have _ := ra1
  have b0 := (cell_of_block hBW 0).trans (show _ = some (.int .i64 s.day) from rfl)
  have b1 := (cell_of_block hBW 1).trans (show _ = some (.slice (some ⟨g1, 0, none⟩) n c1) from rfl)
  have b2 := (cell_of_block hBW 2).trans (show _ = some (.slice (some ⟨g2, 0, none⟩) n c2) from rfl)
  have b3 := (cell_of_block hBW 3).trans (show _ = some (.int .i64 s.part) from rfl)
  have b4 := (cell_of_block hBW 4).trans (show _ = some (.bool s.fixed) from rfl)
  have b5 := (cell_of_block hBW 5).trans (show _ = some (.int .i64 s.stop) from rfl)
  have b6 := (cell_of_block hBW 6).trans (show _ = some (.bool s.heard) from rfl)
  have b7 := (cell_of_block hBW 7).trans (show _ = some (.slice (some ⟨g3, 0, none⟩) n c3) from rfl)
  have b8 := (cell_of_block hBW 8).trans (show _ = some (.bool s.ent) from rfl)
  have hBl0 : B < W0.heap.size := Nat.lt_of_lt_of_le hBl hbW.size
  have y0 := (hbW.cell (p := ⟨lb, lo, none⟩) hlb).trans x0
  have y1 := (hbW.cell (p := ⟨lb, lo + 1, none⟩) hlb).trans x1
  have hlb0 : lb < W0.heap.size := Nat.lt_of_lt_of_le hlb hbW.size
  have hd0 : decide ((n : Int) ≤ (i0 : Int)) = false := decide_eq_false (by omega)
  have hp0 : (0 : Int) ≤ (i0 : Int) := by omega
  have hq0 : (i0 : Int) < (n : Int) := by omega
  clear hW0 x0 x1 hBF
  go_loop [32] (fun i => ∃ q : Nat, q ≤ 1 ∧ i = .int .i64 q) (fun i => 1 - (intOf i).toNat)
  case atStart => exact ⟨0, Nat.zero_le _, rfl⟩
  case round =>
    obtain ⟨q, hqo, rfl⟩ := hrel
    rcases (show q = 0 ∨ q = 1 by omega) with rfl | rfl
    · go_wp2
      go_round
      case rel => exact ⟨1, by omega, by go_num⟩
      case measure => simp [intOf]
    skip
    obtain ⟨v0, hv0_⟩ : ∃ v, gi s.laid 0 i0 = v := ⟨_, rfl⟩
    have z0 : W0.cell? ⟨g2, i0, none⟩ = some (.int .i64 v0) := by rw [← hv0_]; exact HST.out.st.c2 hi0
    have fz0 : W0.frozen? ⟨g2, i0, none⟩ = false := HST.out.st.r2.frozen _
    have hgl0 : g2 < W0.heap.size := HST.out.st.r2.lt
    have rv0 : 0 ≤ v0 ∧ v0 ≤ 10000 := by rw [← hv0_]; have hh := gi_mem (d := 0) (by rw [HST.out.st.l2]; exact hi0 : i0 < s.laid.length); exact ⟨HG.out.laid0 _ hh, (HG.out.laid_few HST.out.st).2 _ hh⟩
    obtain ⟨sl, hsl⟩ : ∃ x, sumI s.laid = x := ⟨_, rfl⟩
    obtain ⟨sc, hsc⟩ : ∃ x, sumI (clmF s) = x := ⟨_, rfl⟩
    have HSL := Lib.hid hsl
    have HSC := Lib.hid hsc
    have rsl : 0 ≤ sl ∧ sl ≤ 8000 := by rw [← hsl]; have h1 := HG.out.sum; have h2 := (HG.out.clm_sum HST.out.st).1; have h3 := sumI_nonneg HG.out.laid0; omega
    have rsc : 0 ≤ sc ∧ sc ≤ 8000 := by rw [← hsc]; have h2 := HG.out.clm_sum HST.out.st; have h3 := sumI_nonneg (fun x hx => (h2.2 x hx).1); omega
    clear hsl hsc
    have hw1 : IntKind.i64.wrap (v0 + a1) = v0 + a1 := IntWalk.i64_in _ (by omega)
    have hw2 : IntKind.i64.wrap (sl + a1) = sl + a1 := IntWalk.i64_in _ (by omega)
    have HFX := Lib.hid hfx
    rw [hfx] at b4
    have HCLM : Hid (∀ x, Below W0.heap.size W0 x → Calls Tryz.prog 66 #[.agg #[.int .i64 s.day, .slice (some ⟨g1, 0, none⟩) n c1, .slice (some ⟨g2, 0, none⟩) n c2, .int .i64 s.part, .bool false, .int .i64 s.stop, .bool s.heard, .slice (some ⟨g3, 0, none⟩) n c3, .bool s.ent]] x fun e w' => ∃ v, e = .returned v ∧ IntsT x.heap.size w' v (clmF s) ∧ Below x.heap.size x w') := by
      intro x fb
      have h := claims_calls m x n s g1 c1 g2 c2 g3 c3 (HST.out.st.below fb) HG.out
      unfold stW at h
      rw [HFX.out] at h
      exact h
    have HD : Hid (Done m w W0 B n s g1 c1 g2 c2 g3 c3) := ⟨hbW.mono hmW, HST.out⟩
    obtain ⟨q0, hq0_⟩ : ∃ q, (a1 == 0) = q := ⟨_, rfl⟩
    obtain ⟨e0, he0⟩ : ∃ e, whenE q0 1 = e := ⟨_, rfl⟩
    have H0 := Lib.hid he0
    obtain ⟨e1, he1⟩ : ∃ e, whenE true 10 = e := ⟨_, rfl⟩
    have H1 := Lib.hid he1
    obtain ⟨q2, hq2_⟩ : ∃ q, (decide (sc < sl + a1)) = q := ⟨_, rfl⟩
    obtain ⟨e2, he2⟩ : ∃ e, whenE q2 3 = e := ⟨_, rfl⟩
    have H2 := Lib.hid he2
    obtain ⟨e, he⟩ : ∃ e, orFrom [e0, e1, e2] 0 = e := ⟨_, rfl⟩
    have HEE := Lib.hid he
    have HKE : Hid (orFrom [whenE (a1 == 0) 1, whenE (true) 10, whenE (decide (sc < sl + a1)) 3] 0 = e) := by show _ = _; rw [← he, ← he0, ← he1, ← he2, hq0_, hq2_]
    clear he he0 he1 he2 hfx
    have HKK : Hid (kindE c s 3 [(i0 : Int), a1] = e) := by
      show orFrom [whenE (a1 == 0) 1, whenE (!s.fixed || s.heard) 10, whenE (decide (sumI (clmF s) < sumI s.laid + a1)) 3] 0 = e
      rw [HFX.out, HSC.out, HSL.out]; exact HKE.out
    have hm := cells_errV
    unfold Value.cells at hm
    go_wp2
    apply LayIn_law W0 B n s g1 c1 g2 c2 g3 c3 lb lo cc a1 sl sc q0 q2 e0 e1 e2 e mixed (by kernel_rfl)
    case h0 =>
      unfold LayIn
      refine ⟨_, _, _, _, _, _, _, _, _, _, _, _, _, _, _, _, _, _, _, _, _, _, _, _, _, _, _, _, _, _, _, _, _, _, _, _, _, _, rfl, by (repeat' (first | exact Below.refl _ _ | assumption | refine below_new ?_ _ | refine below_draw ?_ | refine below_tail (by assumption) ?_ | refine below_set ?_ (by first | omega | (simp <;> omega)) _)), ?_⟩
      simp only [Bool.false_eq_true, false_implies, and_self]
    case hstep =>
      intro d a x hI i hi hdi hed
      unfold LayIn at hI
      obtain ⟨u14, u154, u155, u156, u157, u158, u159, u160, u161, u162, u163, u164, u165, u166, u167, u168, u169, u170, u171, u172, u173, u174, u175, u176, u177, u178, u179, u180, u181, u182, u183, u184, u185, u186, u187, u188, u189, u190, ha_, hR⟩ := hI
      obtain ⟨fb, f0, f1, f2, f3, f4, f5, f6, f7, f8, f9, f10, f11, f12, f13, f14, f15, f16, f17, f18, f19, f20, f21, f22, f23, f24, f25, f26, f27, f28, f29, f30, f31, f32, f33, f34, f35, f36, f37⟩ := hR
      subst ha_
      have hi' : i < 38 := hi
      clear hi
      rcases (show i = 0 ∨ i = 1 ∨ i = 2 ∨ i = 3 ∨ i = 4 ∨ i = 5 ∨ i = 6 ∨ i = 7 ∨ i = 8 ∨ i = 9 ∨ i = 10 ∨ i = 11 ∨ i = 12 ∨ i = 13 ∨ i = 14 ∨ i = 15 ∨ i = 16 ∨ i = 17 ∨ i = 18 ∨ i = 19 ∨ i = 20 ∨ i = 21 ∨ i = 22 ∨ i = 23 ∨ i = 24 ∨ i = 25 ∨ i = 26 ∨ i = 27 ∨ i = 28 ∨ i = 29 ∨ i = 30 ∨ i = 31 ∨ i = 32 ∨ i = 33 ∨ i = 34 ∨ i = 35 ∨ i = 36 ∨ i = 37 by omega) with rfl | rfl | rfl | rfl | rfl | rfl | rfl | rfl | rfl | rfl | rfl | rfl | rfl | rfl | rfl | rfl | rfl | rfl | rfl | rfl | rfl | rfl | rfl | rfl | rfl | rfl | rfl | rfl | rfl | rfl | rfl | rfl | rfl | rfl | rfl | rfl | rfl | rfl
      · have he := hed _ rfl
        simp only [Region.binds] at he
        try simp at he
        clear hed hdi
        refine wpOp_step rfl (fun K hK => ?_)
        go_simp
        (try (refine hK _ _ ?_; clear hK K))
        unfold LayIn
        refine ⟨_, _, _, _, _, _, _, _, _, _, _, _, _, _, _, _, _, _, _, _, _, _, _, _, _, _, _, _, _, _, _, _, _, _, _, _, _, _, rfl, ?_⟩
        simp only [Nat.reduceBEq, Bool.false_or, Bool.true_or, beq_self_eq_true, forall_const]
        exact ⟨fb, (by first | rfl | trivial), f1, f2, f3, f4, f5, f6, f7, f8, f9, f10, f11, f12, f13, f14, f15, f16, f17, f18, f19, f20, f21, f22, f23, f24, f25, f26, f27, f28, f29, f30, f31, f32, f33, f34, f35, f36, f37⟩
      · have he := hed _ rfl
        simp only [Region.binds] at he
        try simp at he
        clear hed hdi
        refine wpOp_step rfl (fun K hK => ?_)
        have g0 := f0 (he)
        subst g0
        go_simp
        (try (refine hK _ _ ?_; clear hK K))
        unfold LayIn
        refine ⟨_, _, _, _, _, _, _, _, _, _, _, _, _, _, _, _, _, _, _, _, _, _, _, _, _, _, _, _, _, _, _, _, _, _, _, _, _, _, rfl, ?_⟩
        simp only [Nat.reduceBEq, Bool.false_or, Bool.true_or, beq_self_eq_true, forall_const]
        exact ⟨fb, (by first | exact f0 | (intros; trivial) | (intros; rfl)), (by first | rfl | trivial), f2, f3, f4, f5, f6, f7, f8, f9, f10, f11, f12, f13, f14, f15, f16, f17, f18, f19, f20, f21, f22, f23, f24, f25, f26, f27, f28, f29, f30, f31, f32, f33, f34, f35, f36, f37⟩
      · have he := hed _ rfl
        simp only [Region.binds] at he
        try simp at he
        clear hed hdi
        refine wpOp_step rfl (fun K hK => ?_)
        have g1 := f1 (he)
        subst g1
        have qc := (fb.cell (p := ⟨lb, lo + 1, none⟩) hlb0).trans y1
        go_simp
        (try (refine hK _ _ ?_; clear hK K))
        unfold LayIn
        refine ⟨_, _, _, _, _, _, _, _, _, _, _, _, _, _, _, _, _, _, _, _, _, _, _, _, _, _, _, _, _, _, _, _, _, _, _, _, _, _, rfl, ?_⟩
        simp only [Nat.reduceBEq, Bool.false_or, Bool.true_or, beq_self_eq_true, forall_const]
        exact ⟨fb, f0, (by first | exact f1 | (intros; trivial) | (intros; rfl)), (by first | rfl | trivial), f3, f4, f5, f6, f7, f8, f9, f10, f11, f12, f13, f14, f15, f16, f17, f18, f19, f20, f21, f22, f23, f24, f25, f26, f27, f28, f29, f30, f31, f32, f33, f34, f35, f36, f37⟩
      · have he := hed _ rfl
        simp only [Region.binds] at he
        try simp at he
        clear hed hdi
        refine wpOp_step rfl (fun K hK => ?_)
        have g2 := f2 (he)
        subst g2
        go_simp
        (try (refine hK _ _ ?_; clear hK K))
        unfold LayIn
        refine ⟨_, _, _, _, _, _, _, _, _, _, _, _, _, _, _, _, _, _, _, _, _, _, _, _, _, _, _, _, _, _, _, _, _, _, _, _, _, _, rfl, ?_⟩
        simp only [Nat.reduceBEq, Bool.false_or, Bool.true_or, beq_self_eq_true, forall_const]
        exact ⟨fb, f0, f1, (by first | exact f2 | (intros; trivial) | (intros; rfl)), (by first | rfl | trivial), f4, f5, f6, f7, f8, f9, f10, f11, f12, f13, f14, f15, f16, f17, f18, f19, f20, f21, f22, f23, f24, f25, f26, f27, f28, f29, f30, f31, f32, f33, f34, f35, f36, f37⟩
      · have he := hed _ rfl
        simp only [Region.binds] at he
        try simp at he
        clear hed hdi
        refine wpOp_step rfl (fun K hK => ?_)
        have g3 := f3 (he)
        subst g3
        go_wp2_with (go_at_call 97; (with_reducible refine (when_is (by decide) H0.out).use ?_))
        (try (refine hK _ _ ?_; clear hK K))
        unfold LayIn
        refine ⟨_, _, _, _, _, _, _, _, _, _, _, _, _, _, _, _, _, _, _, _, _, _, _, _, _, _, _, _, _, _, _, _, _, _, _, _, _, _, rfl, ?_⟩
        simp only [Nat.reduceBEq, Bool.false_or, Bool.true_or, beq_self_eq_true, forall_const]
        exact ⟨fb, f0, f1, f2, (by first | exact f3 | (intros; trivial) | (intros; rfl)), (by first | rfl | trivial), f5, f6, f7, f8, f9, f10, f11, f12, f13, f14, f15, f16, f17, f18, f19, f20, f21, f22, f23, f24, f25, f26, f27, f28, f29, f30, f31, f32, f33, f34, f35, f36, f37⟩
      · have he := hed _ rfl
        simp only [Region.binds] at he
        try simp at he
        clear hed hdi
        refine wpOp_step rfl (fun K hK => ?_)
        go_simp
        (try (refine hK _ _ ?_; clear hK K))
        unfold LayIn
        refine ⟨_, _, _, _, _, _, _, _, _, _, _, _, _, _, _, _, _, _, _, _, _, _, _, _, _, _, _, _, _, _, _, _, _, _, _, _, _, _, rfl, ?_⟩
        simp only [Nat.reduceBEq, Bool.false_or, Bool.true_or, beq_self_eq_true, forall_const]
        exact ⟨fb, f0, f1, f2, f3, f4, (by first | rfl | trivial), f6, f7, f8, f9, f10, f11, f12, f13, f14, f15, f16, f17, f18, f19, f20, f21, f22, f23, f24, f25, f26, f27, f28, f29, f30, f31, f32, f33, f34, f35, f36, f37⟩
      · have he := hed _ rfl
        simp only [Region.binds] at he
        try simp at he
        clear hed hdi
        refine wpOp_step rfl (fun K hK => ?_)
        have g5 := f5 (he)
        subst g5
        go_simp
        (try (refine hK _ _ ?_; clear hK K))
        unfold LayIn
        refine ⟨_, _, _, _, _, _, _, _, _, _, _, _, _, _, _, _, _, _, _, _, _, _, _, _, _, _, _, _, _, _, _, _, _, _, _, _, _, _, rfl, ?_⟩
        simp only [Nat.reduceBEq, Bool.false_or, Bool.true_or, beq_self_eq_true, forall_const]
        exact ⟨fb, f0, f1, f2, f3, f4, (by first | exact f5 | (intros; trivial) | (intros; rfl)), (by first | rfl | trivial), f7, f8, f9, f10, f11, f12, f13, f14, f15, f16, f17, f18, f19, f20, f21, f22, f23, f24, f25, f26, f27, f28, f29, f30, f31, f32, f33, f34, f35, f36, f37⟩
      · have he := hed _ rfl
        simp only [Region.binds] at he
        try simp at he
        clear hed hdi
        refine wpOp_step rfl (fun K hK => ?_)
        have g6 := f6 (he)
        subst g6
        go_simp
        (try (refine hK _ _ ?_; clear hK K))
        unfold LayIn
        refine ⟨_, _, _, _, _, _, _, _, _, _, _, _, _, _, _, _, _, _, _, _, _, _, _, _, _, _, _, _, _, _, _, _, _, _, _, _, _, _, rfl, ?_⟩
        simp only [Nat.reduceBEq, Bool.false_or, Bool.true_or, beq_self_eq_true, forall_const]
        exact ⟨fb, f0, f1, f2, f3, f4, f5, (by first | exact f6 | (intros; trivial) | (intros; rfl)), (by first | rfl | trivial), f8, f9, f10, f11, f12, f13, f14, f15, f16, f17, f18, f19, f20, f21, f22, f23, f24, f25, f26, f27, f28, f29, f30, f31, f32, f33, f34, f35, f36, f37⟩
      · have he := hed _ rfl
        simp only [Region.binds] at he
        try simp at he
        clear hed hdi
        refine wpOp_step rfl (fun K hK => ?_)
        have g7 := f7 (he)
        subst g7
        go_simp
        (try (refine hK _ _ ?_; clear hK K))
        unfold LayIn
        refine ⟨_, _, _, _, _, _, _, _, _, _, _, _, _, _, _, _, _, _, _, _, _, _, _, _, _, _, _, _, _, _, _, _, _, _, _, _, _, _, rfl, ?_⟩
        simp only [Nat.reduceBEq, Bool.false_or, Bool.true_or, beq_self_eq_true, forall_const]
        exact ⟨fb, f0, f1, f2, f3, f4, f5, f6, (by first | exact f7 | (intros; trivial) | (intros; rfl)), (by first | rfl | trivial), f9, f10, f11, f12, f13, f14, f15, f16, f17, f18, f19, f20, f21, f22, f23, f24, f25, f26, f27, f28, f29, f30, f31, f32, f33, f34, f35, f36, f37⟩
      · have he := hed _ rfl
        simp only [Region.binds] at he
        try simp at he
        clear hed hdi
        refine wpOp_step rfl (fun K hK => ?_)
        have g8 := f8 (he)
        subst g8
        have qc := (fb.cell (p := ⟨B, 4, none⟩) hBl0).trans b4
        go_simp
        (try (refine hK _ _ ?_; clear hK K))
        unfold LayIn
        refine ⟨_, _, _, _, _, _, _, _, _, _, _, _, _, _, _, _, _, _, _, _, _, _, _, _, _, _, _, _, _, _, _, _, _, _, _, _, _, _, rfl, ?_⟩
        simp only [Nat.reduceBEq, Bool.false_or, Bool.true_or, beq_self_eq_true, forall_const]
        exact ⟨fb, f0, f1, f2, f3, f4, f5, f6, f7, (by first | exact f8 | (intros; trivial) | (intros; rfl)), (by first | rfl | trivial), f10, f11, f12, f13, f14, f15, f16, f17, f18, f19, f20, f21, f22, f23, f24, f25, f26, f27, f28, f29, f30, f31, f32, f33, f34, f35, f36, f37⟩
      · have he := hed _ rfl
        simp only [Region.binds] at he
        try simp at he
        clear hed hdi
        refine wpOp_step rfl (fun K hK => ?_)
        have g9 := f9 (he)
        subst g9
        go_simp
        (try (refine hK _ _ ?_; clear hK K))
        unfold LayIn
        refine ⟨_, _, _, _, _, _, _, _, _, _, _, _, _, _, _, _, _, _, _, _, _, _, _, _, _, _, _, _, _, _, _, _, _, _, _, _, _, _, rfl, ?_⟩
        simp only [Nat.reduceBEq, Bool.false_or, Bool.true_or, beq_self_eq_true, forall_const]
        exact ⟨fb, f0, f1, f2, f3, f4, f5, f6, f7, f8, (by first | exact f9 | (intros; trivial) | (intros; rfl)), (by first | rfl | trivial), f11, f12, f13, f14, f15, f16, f17, f18, f19, f20, f21, f22, f23, f24, f25, f26, f27, f28, f29, f30, f31, f32, f33, f34, f35, f36, f37⟩
      · have he := hed _ rfl
        simp only [Region.binds] at he
        try simp at he
        clear hed hdi
        refine wpOp_step rfl (fun K hK => ?_)
        have g10 := f10 (he.1)
        subst g10
        go_simp
        (try (refine hK _ _ ?_; clear hK K))
        unfold LayIn
        refine ⟨_, _, _, _, _, _, _, _, _, _, _, _, _, _, _, _, _, _, _, _, _, _, _, _, _, _, _, _, _, _, _, _, _, _, _, _, _, _, rfl, ?_⟩
        simp only [Nat.reduceBEq, Bool.false_or, Bool.true_or, beq_self_eq_true, forall_const]
        exact ⟨fb, f0, f1, f2, f3, (by first | exact f4 | (intros; trivial) | (intros; rfl)), f5, f6, f7, f8, f9, (by first | exact f10 | (intros; trivial) | (intros; rfl)), (by first | rfl | trivial), f12, f13, f14, f15, f16, f17, f18, f19, f20, f21, f22, f23, f24, f25, f26, f27, f28, f29, f30, f31, f32, f33, f34, f35, f36, f37⟩
      · have he := hed _ rfl
        simp only [Region.binds] at he
        try simp at he
        clear hed hdi
        refine wpOp_step rfl (fun K hK => ?_)
        have g11 := f11 (he)
        subst g11
        go_simp
        (try (refine hK _ _ ?_; clear hK K))
        unfold LayIn
        refine ⟨_, _, _, _, _, _, _, _, _, _, _, _, _, _, _, _, _, _, _, _, _, _, _, _, _, _, _, _, _, _, _, _, _, _, _, _, _, _, rfl, ?_⟩
        simp only [Nat.reduceBEq, Bool.false_or, Bool.true_or, beq_self_eq_true, forall_const]
        exact ⟨fb, f0, f1, f2, f3, f4, f5, f6, f7, f8, f9, f10, (by first | exact f11 | (intros; trivial) | (intros; rfl)), (by first | rfl | trivial), f13, f14, f15, f16, f17, f18, f19, f20, f21, f22, f23, f24, f25, f26, f27, f28, f29, f30, f31, f32, f33, f34, f35, f36, f37⟩
      · have he := hed _ rfl
        simp only [Region.binds] at he
        try simp at he
        clear hed hdi
        refine wpOp_step rfl (fun K hK => ?_)
        have g12 := f12 (he.1)
        subst g12
        have g11 := f11 (he.2)
        subst g11
        go_simp
        (try (refine hK _ _ ?_; clear hK K))
        unfold LayIn
        refine ⟨_, _, _, _, _, _, _, _, _, _, _, _, _, _, _, _, _, _, _, _, _, _, _, _, _, _, _, _, _, _, _, _, _, _, _, _, _, _, rfl, ?_⟩
        simp only [Nat.reduceBEq, Bool.false_or, Bool.true_or, beq_self_eq_true, forall_const]
        exact ⟨fb, f0, f1, f2, f3, f4, f5, f6, f7, f8, f9, f10, (by first | exact f11 | (intros; trivial) | (intros; rfl)), (by first | exact f12 | (intros; trivial) | (intros; rfl)), (by first | rfl | trivial), f14, f15, f16, f17, f18, f19, f20, f21, f22, f23, f24, f25, f26, f27, f28, f29, f30, f31, f32, f33, f34, f35, f36, f37⟩
      · have he := hed _ rfl
        simp only [Region.binds] at he
        try simp at he
        clear hed hdi
        refine wpOp_step rfl (fun K hK => ?_)
        have g13 := f13 (he.1)
        subst g13
        have g11 := f11 (he.2)
        subst g11
        go_simp
        (try (refine hK _ _ ?_; clear hK K))
        unfold LayIn
        refine ⟨_, _, _, _, _, _, _, _, _, _, _, _, _, _, _, _, _, _, _, _, _, _, _, _, _, _, _, _, _, _, _, _, _, _, _, _, _, _, rfl, ?_⟩
        simp only [Nat.reduceBEq, Bool.false_or, Bool.true_or, beq_self_eq_true, forall_const]
        exact ⟨fb, f0, f1, f2, f3, f4, f5, f6, f7, f8, f9, f10, (by first | exact f11 | (intros; trivial) | (intros; rfl)), f12, (by first | exact f13 | (intros; trivial) | (intros; rfl)), (by first | rfl | trivial), f15, f16, f17, f18, f19, f20, f21, f22, f23, f24, f25, f26, f27, f28, f29, f30, f31, f32, f33, f34, f35, f36, f37⟩
      · have he := hed _ rfl
        simp only [Region.binds] at he
        try simp at he
        clear hed hdi
        refine wpOp_step rfl (fun K hK => ?_)
        have g14 := f14 (he.1)
        subst g14
        have g11 := f11 (he.2)
        subst g11
        go_simp
        (try (refine hK _ _ ?_; clear hK K))
        unfold LayIn
        refine ⟨_, _, _, _, _, _, _, _, _, _, _, _, _, _, _, _, _, _, _, _, _, _, _, _, _, _, _, _, _, _, _, _, _, _, _, _, _, _, rfl, ?_⟩
        simp only [Nat.reduceBEq, Bool.false_or, Bool.true_or, beq_self_eq_true, forall_const]
        exact ⟨fb, f0, f1, f2, f3, f4, f5, f6, f7, f8, f9, f10, (by first | exact f11 | (intros; trivial) | (intros; rfl)), f12, f13, (by first | exact f14 | (intros; trivial) | (intros; rfl)), (by first | rfl | trivial), f16, f17, f18, f19, f20, f21, f22, f23, f24, f25, f26, f27, f28, f29, f30, f31, f32, f33, f34, f35, f36, f37⟩
      · have he := hed _ rfl
        simp only [Region.binds] at he
        try simp at he
        clear hed hdi
        refine wpOp_step rfl (fun K hK => ?_)
        have g15 := f15 (he.1)
        subst g15
        have g11 := f11 (he.2)
        subst g11
        go_simp
        (try (refine hK _ _ ?_; clear hK K))
        unfold LayIn
        refine ⟨_, _, _, _, _, _, _, _, _, _, _, _, _, _, _, _, _, _, _, _, _, _, _, _, _, _, _, _, _, _, _, _, _, _, _, _, _, _, rfl, ?_⟩
        simp only [Nat.reduceBEq, Bool.false_or, Bool.true_or, beq_self_eq_true, forall_const]
        exact ⟨fb, f0, f1, f2, f3, f4, f5, f6, f7, f8, f9, f10, (by first | exact f11 | (intros; trivial) | (intros; rfl)), f12, f13, f14, (by first | exact f15 | (intros; trivial) | (intros; rfl)), (by first | rfl | trivial), f17, f18, f19, f20, f21, f22, f23, f24, f25, f26, f27, f28, f29, f30, f31, f32, f33, f34, f35, f36, f37⟩
      · have he := hed _ rfl
        simp only [Region.binds] at he
        try simp at he
        clear hed hdi
        refine wpOp_step rfl (fun K hK => ?_)
        have g11 := f11 (he.1)
        subst g11
        have g16 := f16 (he.2)
        subst g16
        go_simp
        (try (refine hK _ _ ?_; clear hK K))
        unfold LayIn
        refine ⟨_, _, _, _, _, _, _, _, _, _, _, _, _, _, _, _, _, _, _, _, _, _, _, _, _, _, _, _, _, _, _, _, _, _, _, _, _, _, rfl, ?_⟩
        simp only [Nat.reduceBEq, Bool.false_or, Bool.true_or, beq_self_eq_true, forall_const]
        exact ⟨fb, f0, f1, f2, f3, f4, f5, f6, f7, f8, f9, f10, (by first | exact f11 | (intros; trivial) | (intros; rfl)), f12, f13, f14, f15, (by first | exact f16 | (intros; trivial) | (intros; rfl)), (by first | rfl | trivial), f18, f19, f20, f21, f22, f23, f24, f25, f26, f27, f28, f29, f30, f31, f32, f33, f34, f35, f36, f37⟩
      · have he := hed _ rfl
        simp only [Region.binds] at he
        try simp at he
        clear hed hdi
        refine wpOp_step rfl (fun K hK => ?_)
        have g17 := f17 (he.1)
        subst g17
        go_wp2_with (go_at_call 97; (with_reducible refine (when_is (by decide) H1.out).use ?_))
        (try (refine hK _ _ ?_; clear hK K))
        unfold LayIn
        refine ⟨_, _, _, _, _, _, _, _, _, _, _, _, _, _, _, _, _, _, _, _, _, _, _, _, _, _, _, _, _, _, _, _, _, _, _, _, _, _, rfl, ?_⟩
        simp only [Nat.reduceBEq, Bool.false_or, Bool.true_or, beq_self_eq_true, forall_const]
        exact ⟨fb, f0, f1, f2, f3, f4, f5, f6, f7, f8, f9, f10, (by first | exact f11 | (intros; trivial) | (intros; rfl)), f12, f13, f14, f15, f16, (by first | exact f17 | (intros; trivial) | (intros; rfl)), (by first | rfl | trivial), f19, f20, f21, f22, f23, f24, f25, f26, f27, f28, f29, f30, f31, f32, f33, f34, f35, f36, f37⟩
      · have he := hed _ rfl
        simp only [Region.binds] at he
        try simp at he
        clear hed hdi
        refine wpOp_step rfl (fun K hK => ?_)
        go_simp
        (try (refine hK _ _ ?_; clear hK K))
        unfold LayIn
        refine ⟨_, _, _, _, _, _, _, _, _, _, _, _, _, _, _, _, _, _, _, _, _, _, _, _, _, _, _, _, _, _, _, _, _, _, _, _, _, _, rfl, ?_⟩
        simp only [Nat.reduceBEq, Bool.false_or, Bool.true_or, beq_self_eq_true, forall_const]
        exact ⟨fb, f0, f1, f2, f3, f4, f5, f6, f7, f8, f9, f10, f11, f12, f13, f14, f15, f16, f17, f18, (by first | rfl | trivial), f20, f21, f22, f23, f24, f25, f26, f27, f28, f29, f30, f31, f32, f33, f34, f35, f36, f37⟩
      · have he := hed _ rfl
        simp only [Region.binds] at he
        try simp at he
        clear hed hdi
        refine wpOp_step rfl (fun K hK => ?_)
        have g19 := f19 (he)
        subst g19
        go_simp
        (try (refine hK _ _ ?_; clear hK K))
        unfold LayIn
        refine ⟨_, _, _, _, _, _, _, _, _, _, _, _, _, _, _, _, _, _, _, _, _, _, _, _, _, _, _, _, _, _, _, _, _, _, _, _, _, _, rfl, ?_⟩
        simp only [Nat.reduceBEq, Bool.false_or, Bool.true_or, beq_self_eq_true, forall_const]
        exact ⟨fb, f0, f1, f2, f3, f4, f5, f6, f7, f8, f9, f10, f11, f12, f13, f14, f15, f16, f17, f18, (by first | exact f19 | (intros; trivial) | (intros; rfl)), (by first | rfl | trivial), f21, f22, f23, f24, f25, f26, f27, f28, f29, f30, f31, f32, f33, f34, f35, f36, f37⟩
      · have he := hed _ rfl
        simp only [Region.binds] at he
        try simp at he
        clear hed hdi
        refine wpOp_step rfl (fun K hK => ?_)
        have g20 := f20 (he)
        subst g20
        go_simp
        (try (refine hK _ _ ?_; clear hK K))
        unfold LayIn
        refine ⟨_, _, _, _, _, _, _, _, _, _, _, _, _, _, _, _, _, _, _, _, _, _, _, _, _, _, _, _, _, _, _, _, _, _, _, _, _, _, rfl, ?_⟩
        simp only [Nat.reduceBEq, Bool.false_or, Bool.true_or, beq_self_eq_true, forall_const]
        exact ⟨fb, f0, f1, f2, f3, f4, f5, f6, f7, f8, f9, f10, f11, f12, f13, f14, f15, f16, f17, f18, f19, (by first | exact f20 | (intros; trivial) | (intros; rfl)), (by first | rfl | trivial), f22, f23, f24, f25, f26, f27, f28, f29, f30, f31, f32, f33, f34, f35, f36, f37⟩
      · have he := hed _ rfl
        simp only [Region.binds] at he
        try simp at he
        clear hed hdi
        refine wpOp_step rfl (fun K hK => ?_)
        have g21 := f21 (he)
        subst g21
        have qc := (fb.cell (p := ⟨B, 2, none⟩) hBl0).trans b2
        go_simp
        (try (refine hK _ _ ?_; clear hK K))
        unfold LayIn
        refine ⟨_, _, _, _, _, _, _, _, _, _, _, _, _, _, _, _, _, _, _, _, _, _, _, _, _, _, _, _, _, _, _, _, _, _, _, _, _, _, rfl, ?_⟩
        simp only [Nat.reduceBEq, Bool.false_or, Bool.true_or, beq_self_eq_true, forall_const]
        exact ⟨fb, f0, f1, f2, f3, f4, f5, f6, f7, f8, f9, f10, f11, f12, f13, f14, f15, f16, f17, f18, f19, f20, (by first | exact f21 | (intros; trivial) | (intros; rfl)), (by first | rfl | trivial), f23, f24, f25, f26, f27, f28, f29, f30, f31, f32, f33, f34, f35, f36, f37⟩
      · have he := hed _ rfl
        simp only [Region.binds] at he
        try simp at he
        clear hed hdi
        refine wpOp_step rfl (fun K hK => ?_)
        have g22 := f22 (he.1)
        subst g22
        go_wp2_with (go_at_call 72; (with_reducible refine (total_is (HST.out.st.laid.below fb) (HG.out.laid_few HST.out.st).1 HSL.out).use ?_))
        (try (refine hK _ _ ?_; clear hK K))
        unfold LayIn
        refine ⟨_, _, _, _, _, _, _, _, _, _, _, _, _, _, _, _, _, _, _, _, _, _, _, _, _, _, _, _, _, _, _, _, _, _, _, _, _, _, rfl, ?_⟩
        simp only [Nat.reduceBEq, Bool.false_or, Bool.true_or, beq_self_eq_true, forall_const]
        exact ⟨fb, f0, f1, f2, f3, f4, f5, f6, f7, f8, f9, f10, f11, f12, f13, f14, f15, f16, f17, (by first | exact f18 | (intros; trivial) | (intros; rfl)), f19, f20, f21, (by first | exact f22 | (intros; trivial) | (intros; rfl)), (by first | rfl | trivial), f24, f25, f26, f27, f28, f29, f30, f31, f32, f33, f34, f35, f36, f37⟩
      · have he := hed _ rfl
        simp only [Region.binds] at he
        try simp at he
        clear hed hdi
        refine wpOp_step rfl (fun K hK => ?_)
        go_simp
        (try (refine hK _ _ ?_; clear hK K))
        unfold LayIn
        refine ⟨_, _, _, _, _, _, _, _, _, _, _, _, _, _, _, _, _, _, _, _, _, _, _, _, _, _, _, _, _, _, _, _, _, _, _, _, _, _, rfl, ?_⟩
        simp only [Nat.reduceBEq, Bool.false_or, Bool.true_or, beq_self_eq_true, forall_const]
        exact ⟨fb, f0, f1, f2, f3, f4, f5, f6, f7, f8, f9, f10, f11, f12, f13, f14, f15, f16, f17, f18, f19, f20, f21, f22, f23, (by first | rfl | trivial), f25, f26, f27, f28, f29, f30, f31, f32, f33, f34, f35, f36, f37⟩
      · have he := hed _ rfl
        simp only [Region.binds] at he
        try simp at he
        clear hed hdi
        refine wpOp_step rfl (fun K hK => ?_)
        have g24 := f24 (he)
        subst g24
        go_simp
        (try (refine hK _ _ ?_; clear hK K))
        unfold LayIn
        refine ⟨_, _, _, _, _, _, _, _, _, _, _, _, _, _, _, _, _, _, _, _, _, _, _, _, _, _, _, _, _, _, _, _, _, _, _, _, _, _, rfl, ?_⟩
        simp only [Nat.reduceBEq, Bool.false_or, Bool.true_or, beq_self_eq_true, forall_const]
        exact ⟨fb, f0, f1, f2, f3, f4, f5, f6, f7, f8, f9, f10, f11, f12, f13, f14, f15, f16, f17, f18, f19, f20, f21, f22, f23, (by first | exact f24 | (intros; trivial) | (intros; rfl)), (by first | rfl | trivial), f26, f27, f28, f29, f30, f31, f32, f33, f34, f35, f36, f37⟩
      · have he := hed _ rfl
        simp only [Region.binds] at he
        try simp at he
        clear hed hdi
        refine wpOp_step rfl (fun K hK => ?_)
        have g25 := f25 (he)
        subst g25
        have qc := (fb.cell (p := ⟨lb, lo + 1, none⟩) hlb0).trans y1
        go_simp
        (try (refine hK _ _ ?_; clear hK K))
        unfold LayIn
        refine ⟨_, _, _, _, _, _, _, _, _, _, _, _, _, _, _, _, _, _, _, _, _, _, _, _, _, _, _, _, _, _, _, _, _, _, _, _, _, _, rfl, ?_⟩
        simp only [Nat.reduceBEq, Bool.false_or, Bool.true_or, beq_self_eq_true, forall_const]
        exact ⟨fb, f0, f1, f2, f3, f4, f5, f6, f7, f8, f9, f10, f11, f12, f13, f14, f15, f16, f17, f18, f19, f20, f21, f22, f23, f24, (by first | exact f25 | (intros; trivial) | (intros; rfl)), (by first | rfl | trivial), f27, f28, f29, f30, f31, f32, f33, f34, f35, f36, f37⟩
      · have he := hed _ rfl
        simp only [Region.binds] at he
        try simp at he
        clear hed hdi
        refine wpOp_step rfl (fun K hK => ?_)
        have g23 := f23 (he.1)
        subst g23
        have g26 := f26 (he.2)
        subst g26
        go_simp
        (try (refine hK _ _ ?_; clear hK K))
        unfold LayIn
        refine ⟨_, _, _, _, _, _, _, _, _, _, _, _, _, _, _, _, _, _, _, _, _, _, _, _, _, _, _, _, _, _, _, _, _, _, _, _, _, _, rfl, ?_⟩
        simp only [Nat.reduceBEq, Bool.false_or, Bool.true_or, beq_self_eq_true, forall_const]
        exact ⟨fb, f0, f1, f2, f3, f4, f5, f6, f7, f8, f9, f10, f11, f12, f13, f14, f15, f16, f17, f18, f19, f20, f21, f22, (by first | exact f23 | (intros; trivial) | (intros; rfl)), f24, f25, (by first | exact f26 | (intros; trivial) | (intros; rfl)), (by first | rfl | trivial), f28, f29, f30, f31, f32, f33, f34, f35, f36, f37⟩
      · have he := hed _ rfl
        simp only [Region.binds] at he
        try simp at he
        clear hed hdi
        refine wpOp_step rfl (fun K hK => ?_)
        go_simp
        (try (refine hK _ _ ?_; clear hK K))
        unfold LayIn
        refine ⟨_, _, _, _, _, _, _, _, _, _, _, _, _, _, _, _, _, _, _, _, _, _, _, _, _, _, _, _, _, _, _, _, _, _, _, _, _, _, rfl, ?_⟩
        simp only [Nat.reduceBEq, Bool.false_or, Bool.true_or, beq_self_eq_true, forall_const]
        exact ⟨fb, f0, f1, f2, f3, f4, f5, f6, f7, f8, f9, f10, f11, f12, f13, f14, f15, f16, f17, f18, f19, f20, f21, f22, f23, f24, f25, f26, f27, (by first | rfl | trivial), f29, f30, f31, f32, f33, f34, f35, f36, f37⟩
      · have he := hed _ rfl
        simp only [Region.binds] at he
        try simp at he
        clear hed hdi
        refine wpOp_step rfl (fun K hK => ?_)
        have g28 := f28 (he)
        subst g28
        go_simp
        (try (refine hK _ _ ?_; clear hK K))
        unfold LayIn
        refine ⟨_, _, _, _, _, _, _, _, _, _, _, _, _, _, _, _, _, _, _, _, _, _, _, _, _, _, _, _, _, _, _, _, _, _, _, _, _, _, rfl, ?_⟩
        simp only [Nat.reduceBEq, Bool.false_or, Bool.true_or, beq_self_eq_true, forall_const]
        exact ⟨fb, f0, f1, f2, f3, f4, f5, f6, f7, f8, f9, f10, f11, f12, f13, f14, f15, f16, f17, f18, f19, f20, f21, f22, f23, f24, f25, f26, f27, (by first | exact f28 | (intros; trivial) | (intros; rfl)), (by first | rfl | trivial), f30, f31, f32, f33, f34, f35, f36, f37⟩
      · have he := hed _ rfl
        simp only [Region.binds] at he
        try simp at he
        clear hed hdi
        refine wpOp_step rfl (fun K hK => ?_)
        have g29 := f29 (he)
        subst g29
        have k0_ := (fb.cell (p := ⟨B, 0, none⟩) hBl0).trans b0
        have k1_ := (fb.cell (p := ⟨B, 1, none⟩) hBl0).trans b1
        have k2_ := (fb.cell (p := ⟨B, 2, none⟩) hBl0).trans b2
        have k3_ := (fb.cell (p := ⟨B, 3, none⟩) hBl0).trans b3
        have k4_ := (fb.cell (p := ⟨B, 4, none⟩) hBl0).trans b4
        have k5_ := (fb.cell (p := ⟨B, 5, none⟩) hBl0).trans b5
        have k6_ := (fb.cell (p := ⟨B, 6, none⟩) hBl0).trans b6
        have k7_ := (fb.cell (p := ⟨B, 7, none⟩) hBl0).trans b7
        have k8_ := (fb.cell (p := ⟨B, 8, none⟩) hBl0).trans b8
        go_simp
        (try (refine hK _ _ ?_; clear hK K))
        unfold LayIn
        refine ⟨_, _, _, _, _, _, _, _, _, _, _, _, _, _, _, _, _, _, _, _, _, _, _, _, _, _, _, _, _, _, _, _, _, _, _, _, _, _, rfl, ?_⟩
        simp only [Nat.reduceBEq, Bool.false_or, Bool.true_or, beq_self_eq_true, forall_const]
        exact ⟨fb, f0, f1, f2, f3, f4, f5, f6, f7, f8, f9, f10, f11, f12, f13, f14, f15, f16, f17, f18, f19, f20, f21, f22, f23, f24, f25, f26, f27, f28, (by first | exact f29 | (intros; trivial) | (intros; rfl)), (by first | rfl | trivial), f31, f32, f33, f34, f35, f36, f37⟩
      · have he := hed _ rfl
        simp only [Region.binds] at he
        try simp at he
        clear hed hdi
        refine wpOp_step rfl (fun K hK => ?_)
        have g30 := f30 (he.1)
        subst g30
        go_wp2_with (go_at_call 66; (refine (HCLM.out _ fb).mono ?_); rintro e6 x6 ⟨v6, rfl, HI6, hb6⟩)
        (try (refine hK _ _ ?_; clear hK K))
        unfold LayIn
        refine ⟨_, _, _, _, _, _, _, _, _, _, _, _, _, _, _, _, _, _, _, _, _, _, _, _, _, _, _, _, _, _, _, _, _, _, _, _, _, _, rfl, ?_⟩
        simp only [Nat.reduceBEq, Bool.false_or, Bool.true_or, beq_self_eq_true, forall_const]
        exact ⟨fb.trans (hb6.mono fb.size), f0, f1, f2, f3, f4, f5, f6, f7, f8, f9, f10, f11, f12, f13, f14, f15, f16, f17, f18, f19, f20, f21, f22, (by first | exact f23 | (intros; trivial) | (intros; rfl)), f24, f25, f26, f27, f28, f29, (by first | exact f30 | (intros; trivial) | (intros; rfl)), HI6.1, f32, f33, f34, (fun h => (f35 h).below hb6), f36, f37⟩
      · have he := hed _ rfl
        simp only [Region.binds] at he
        try simp at he
        clear hed hdi
        refine wpOp_step rfl (fun K hK => ?_)
        have g31 := f31 (he)
        go_wp2_with (go_at_call 72; (with_reducible refine (total_is g31 (HG.out.clm_few HST.out.st) HSC.out).use ?_))
        (try (refine hK _ _ ?_; clear hK K))
        unfold LayIn
        refine ⟨_, _, _, _, _, _, _, _, _, _, _, _, _, _, _, _, _, _, _, _, _, _, _, _, _, _, _, _, _, _, _, _, _, _, _, _, _, _, rfl, ?_⟩
        simp only [Nat.reduceBEq, Bool.false_or, Bool.true_or, beq_self_eq_true, forall_const]
        exact ⟨fb, f0, f1, f2, f3, f4, f5, f6, f7, f8, f9, f10, f11, f12, f13, f14, f15, f16, f17, f18, f19, f20, f21, f22, f23, f24, f25, f26, f27, f28, f29, f30, (by first | exact f31 | (intros; trivial) | (intros; rfl)), (by first | rfl | trivial), f33, f34, f35, f36, f37⟩
      · have he := hed _ rfl
        simp only [Region.binds] at he
        try simp at he
        clear hed hdi
        refine wpOp_step rfl (fun K hK => ?_)
        have g27 := f27 (he.1)
        subst g27
        have g32 := f32 (he.2)
        subst g32
        go_simp
        (try (refine hK _ _ ?_; clear hK K))
        unfold LayIn
        refine ⟨_, _, _, _, _, _, _, _, _, _, _, _, _, _, _, _, _, _, _, _, _, _, _, _, _, _, _, _, _, _, _, _, _, _, _, _, _, _, rfl, ?_⟩
        simp only [Nat.reduceBEq, Bool.false_or, Bool.true_or, beq_self_eq_true, forall_const]
        exact ⟨fb, f0, f1, f2, f3, f4, f5, f6, f7, f8, f9, f10, f11, f12, f13, f14, f15, f16, f17, f18, f19, f20, f21, f22, f23, f24, f25, f26, (by first | exact f27 | (intros; trivial) | (intros; rfl)), f28, f29, f30, f31, (by first | exact f32 | (intros; trivial) | (intros; rfl)), (by first | rfl | trivial), f34, f35, f36, f37⟩
      · have he := hed _ rfl
        simp only [Region.binds] at he
        try simp at he
        clear hed hdi
        refine wpOp_step rfl (fun K hK => ?_)
        have g33 := f33 (he.1)
        subst g33
        go_wp2_with (go_at_call 97; (with_reducible refine (when_is (by decide) H2.out).use ?_))
        (try (refine hK _ _ ?_; clear hK K))
        unfold LayIn
        refine ⟨_, _, _, _, _, _, _, _, _, _, _, _, _, _, _, _, _, _, _, _, _, _, _, _, _, _, _, _, _, _, _, _, _, _, _, _, _, _, rfl, ?_⟩
        simp only [Nat.reduceBEq, Bool.false_or, Bool.true_or, beq_self_eq_true, forall_const]
        exact ⟨fb, f0, f1, f2, f3, f4, f5, f6, f7, f8, f9, f10, f11, f12, f13, f14, f15, f16, f17, f18, f19, f20, f21, f22, f23, f24, f25, f26, f27, f28, f29, f30, f31, (by first | exact f32 | (intros; trivial) | (intros; rfl)), (by first | exact f33 | (intros; trivial) | (intros; rfl)), (by first | rfl | trivial), f35, f36, f37⟩
      · have he := hed _ rfl
        simp only [Region.binds] at he
        try simp at he
        clear hed hdi
        refine wpOp_step rfl (fun K hK => ?_)
        have g4 := f4 (he.1)
        subst g4
        have g18 := f18 (he.2.1)
        subst g18
        have g34 := f34 (he.2.2)
        subst g34
        go_simp
        (try (refine hK _ _ ?_; clear hK K))
        unfold LayIn
        refine ⟨_, _, _, _, _, _, _, _, _, _, _, _, _, _, _, _, _, _, _, _, _, _, _, _, _, _, _, _, _, _, _, _, _, _, _, _, _, _, rfl, ?_⟩
        simp only [Nat.reduceBEq, Bool.false_or, Bool.true_or, beq_self_eq_true, forall_const]
        exact ⟨by (repeat' (first | exact Below.refl _ _ | assumption | refine below_new ?_ _ | refine below_draw ?_ | refine below_tail (by assumption) ?_ | refine below_set ?_ (by first | omega | (simp <;> omega)) _)), f0, f1, f2, f3, (by first | exact f4 | (intros; trivial) | (intros; rfl)), f5, f6, f7, f8, f9, f10, f11, f12, f13, f14, f15, f16, f17, (by first | exact f18 | (intros; trivial) | (intros; rfl)), f19, f20, f21, f22, f23, f24, f25, f26, f27, f28, f29, f30, (fun h => (f31 h).below (by (repeat' (first | exact Below.refl _ _ | assumption | refine below_new ?_ _ | refine below_draw ?_ | refine below_tail (by assumption) ?_ | refine below_set ?_ (by first | omega | (simp <;> omega)) _)))), f32, f33, (by first | exact f34 | (intros; trivial) | (intros; rfl)), errs3 rfl, f36, f37⟩
      · have he := hed _ rfl
        simp only [Region.binds] at he
        try simp at he
        clear hed hdi
        refine wpOp_step rfl (fun K hK => ?_)
        have g35 := f35 (he.1)
        go_wp2_with (go_at_call 96; (with_reducible refine (first_is g35 HEE.out).use ?_))
        (try (refine hK _ _ ?_; clear hK K))
        unfold LayIn
        refine ⟨_, _, _, _, _, _, _, _, _, _, _, _, _, _, _, _, _, _, _, _, _, _, _, _, _, _, _, _, _, _, _, _, _, _, _, _, _, _, rfl, ?_⟩
        simp only [Nat.reduceBEq, Bool.false_or, Bool.true_or, beq_self_eq_true, forall_const]
        exact ⟨fb, f0, f1, f2, f3, f4, f5, f6, f7, f8, f9, f10, f11, f12, f13, f14, f15, f16, f17, f18, f19, f20, f21, f22, f23, f24, f25, f26, f27, f28, f29, f30, f31, f32, f33, (by first | exact f34 | (intros; trivial) | (intros; rfl)), (by first | exact f35 | (intros; trivial) | (intros; rfl)), (by first | rfl | trivial), f37⟩
      · have he := hed _ rfl
        simp only [Region.binds] at he
        try simp at he
        clear hed hdi
        refine wpOp_step rfl (fun K hK => ?_)
        have g36 := f36 (he.1)
        subst g36
        go_simp
        (try (refine hK _ _ ?_; clear hK K))
        unfold LayIn
        refine ⟨_, _, _, _, _, _, _, _, _, _, _, _, _, _, _, _, _, _, _, _, _, _, _, _, _, _, _, _, _, _, _, _, _, _, _, _, _, _, rfl, ?_⟩
        simp only [Nat.reduceBEq, Bool.false_or, Bool.true_or, beq_self_eq_true, forall_const]
        exact ⟨fb, (by first | exact f0 | (intros; trivial) | (intros; rfl)), (by first | exact f1 | (intros; trivial) | (intros; rfl)), (by first | exact f2 | (intros; trivial) | (intros; rfl)), (by first | exact f3 | (intros; trivial) | (intros; rfl)), (by first | exact f4 | (intros; trivial) | (intros; rfl)), (by first | exact f5 | (intros; trivial) | (intros; rfl)), (by first | exact f6 | (intros; trivial) | (intros; rfl)), (by first | exact f7 | (intros; trivial) | (intros; rfl)), (by first | exact f8 | (intros; trivial) | (intros; rfl)), (by first | exact f9 | (intros; trivial) | (intros; rfl)), (by first | exact f10 | (intros; trivial) | (intros; rfl)), (by first | exact f11 | (intros; trivial) | (intros; rfl)), (by first | exact f12 | (intros; trivial) | (intros; rfl)), (by first | exact f13 | (intros; trivial) | (intros; rfl)), (by first | exact f14 | (intros; trivial) | (intros; rfl)), (by first | exact f15 | (intros; trivial) | (intros; rfl)), (by first | exact f16 | (intros; trivial) | (intros; rfl)), (by first | exact f17 | (intros; trivial) | (intros; rfl)), (by first | exact f18 | (intros; trivial) | (intros; rfl)), (by first | exact f19 | (intros; trivial) | (intros; rfl)), (by first | exact f20 | (intros; trivial) | (intros; rfl)), (by first | exact f21 | (intros; trivial) | (intros; rfl)), (by first | exact f22 | (intros; trivial) | (intros; rfl)), (by first | exact f23 | (intros; trivial) | (intros; rfl)), (by first | exact f24 | (intros; trivial) | (intros; rfl)), (by first | exact f25 | (intros; trivial) | (intros; rfl)), (by first | exact f26 | (intros; trivial) | (intros; rfl)), (by first | exact f27 | (intros; trivial) | (intros; rfl)), (by first | exact f28 | (intros; trivial) | (intros; rfl)), (by first | exact f29 | (intros; trivial) | (intros; rfl)), (by first | exact f30 | (intros; trivial) | (intros; rfl)), (by first | exact f31 | (intros; trivial) | (intros; rfl)), (by first | exact f32 | (intros; trivial) | (intros; rfl)), (by first | exact f33 | (intros; trivial) | (intros; rfl)), (by first | exact f34 | (intros; trivial) | (intros; rfl)), (by first | exact f35 | (intros; trivial) | (intros; rfl)), (by first | exact f36 | (intros; trivial) | (intros; rfl)), (by first | rfl | trivial)⟩
    case hend =>
      intro d a x hI hall
      unfold LayIn at hI
      obtain ⟨u14, u154, u155, u156, u157, u158, u159, u160, u161, u162, u163, u164, u165, u166, u167, u168, u169, u170, u171, u172, u173, u174, u175, u176, u177, u178, u179, u180, u181, u182, u183, u184, u185, u186, u187, u188, u189, u190, ha_, hR⟩ := hI
      obtain ⟨fb, f0, f1, f2, f3, f4, f5, f6, f7, f8, f9, f10, f11, f12, f13, f14, f15, f16, f17, f18, f19, f20, f21, f22, f23, f24, f25, f26, f27, f28, f29, f30, f31, f32, f33, f34, f35, f36, f37⟩ := hR
      subst ha_
      have gl := f37 (hall 37 (by decide))
      subst gl
      have HSx : Hid (Done m w x B n s g1 c1 g2 c2 g3 c3) := HD.out.below fb
      have hBlx : B < x.heap.size := Nat.lt_of_lt_of_le hBl0 fb.size
      have bx2 := (fb.cell (p := ⟨B, 2, none⟩) hBl0).trans b2
      have fbx2 : x.frozen? ⟨B, 2, none⟩ = false := frozen_of_block HSx.out.box.box 2
      have yx0 := (fb.cell (p := ⟨lb, lo, none⟩) hlb0).trans y0
      have yx1 := (fb.cell (p := ⟨lb, lo + 1, none⟩) hlb0).trans y1
      have zx0 : x.cell? ⟨g2, i0, none⟩ = some (.int .i64 v0) := by rw [← hv0_]; exact HSx.out.box.st.c2 hi0
      have fzx0 : x.frozen? ⟨g2, i0, none⟩ = false := HSx.out.box.st.r2.frozen _
      have hgx0 : g2 < x.heap.size := HSx.out.box.st.r2.lt
      have HFB := Lib.hid fb
      clear fb f0 f1 f2 f3 f4 f5 f6 f7 f8 f9 f10 f11 f12 f13 f14 f15 f16 f17 f18 f19 f20 f21 f22 f23 f24 f25 f26 f27 f28 f29 f30 f31 f32 f33 f34 f35 f36 f37
      clear hm
      by_cases hz : e = 0
      · have HE0 := Lib.hid hz
        rw [hz, errV_0]
        clear hz
        have hmx := mixed
        go_wp2
        go_big_region_o
        go_wp2
        refine bodyPost_ret (v := .nilIface) (by simp [results, Tryz.f64, go_sem]) rfl ?_
        refine Done.fin (HKK.out.trans HE0.out) ?_
        exact Done.below (Done.row2 (i := i0) (x := v0 + a1) HSx.out rfl rfl (by rw [← hv0_]; rfl) rfl) (by (repeat' (first | exact Below.refl _ _ | assumption | refine below_new ?_ _ | refine below_draw ?_ | refine below_tail (by assumption) ?_ | refine below_set ?_ (by first | omega | (simp <;> omega)) _)))
      · have hne := Lib.hid hz
        rw [errV_ne hz]
        go_wp2
        refine bodyPost_ret (v := .iface 127 (.agg #[.int .i64 e])) (by simp [results, Tryz.f64, go_sem]) rfl ?_
        exact ⟨by rw [HKK.out, errV_ne hne.out], HSx.out.bel.trans (by (repeat' (first | exact Below.refl _ _ | assumption | refine below_new ?_ _ | refine below_draw ?_ | refine below_tail (by assumption) ?_ | refine below_set ?_ (by first | omega | (simp <;> omega)) _))), fun h0 => absurd (HKK.out.symm.trans h0) hne.out⟩
end Go.Proofs.YthooacpfmjpdmaaGreatDoor
