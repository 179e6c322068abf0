/- The order hear. Conditions: as said. -/
import Derived.Test.YthooacpfmjpdmaaGreatDoorODoB
namespace Go.Proofs.YthooacpfmjpdmaaGreatDoor
open Go.RowKit
set_option maxRecDepth 1000000 in
def HearI (W0 : World) (B n : Nat) (s : St) (g1 c1 g2 c2 g3 c3 lb lo cc : Nat) (a0 sml smc : Int) (q0 q1 q3 : Bool) (e0 e1 e2 e3 e : Int) (sv1 sv2 sv4 sv5 sv6 sv7 sv8 sv9 sv10 sv11 sv12 sv13 sv14 sv16 sv17 sv18 sv19 sv20 sv21 sv22 sv23 sv24 sv25 sv26 sv27 sv28 sv29 sv30 sv31 sv32 sv33 sv34 sv35 sv36 sv37 sv38 sv39 sv40 sv41 sv42 sv43 sv44 sv45 sv46 sv47 sv48 sv49 sv50 sv51 sv52 sv53 sv54 sv55 sv56 sv57 sv58 sv59 sv60 sv61 sv62 sv63 sv64 sv65 sv66 sv67 sv68 sv69 sv70 sv71 sv72 sv73 sv74 sv75 sv76 sv77 sv78 sv79 sv80 sv81 sv82 sv83 sv84 sv85 sv86 sv87 sv88 sv89 sv90 sv91 sv92 sv93 sv94 sv95 sv96 sv97 sv98 sv99 sv100 sv101 sv102 sv103 sv104 sv105 sv106 sv107 sv108 sv109 sv110 sv111 sv112 sv113 sv114 sv115 sv116 sv117 sv118 sv119 sv120 sv121 sv122 sv123 sv124 sv125 sv126 sv127 sv128 sv129 sv130 sv131 sv132 sv133 sv134 sv135 sv136 sv137 sv138 sv139 sv140 sv141 sv142 sv143 sv144 sv145 sv146 sv147 sv148 sv149 sv150 sv151 sv152 sv153 sv154 sv155 sv156 sv157 sv158 sv159 sv160 sv161 sv162 sv163 sv164 sv165 sv166 sv167 sv168 sv169 sv170 sv171 sv172 sv173 sv174 sv175 sv176 sv177 sv178 sv179 sv180 sv181 sv182 sv183 sv184 sv185 sv186 sv187 sv188 sv189 sv190 sv191 sv192 sv193 sv194 sv195 sv196 sv197 sv198 sv199 sv200 sv201 sv202 sv203 sv204 sv205 sv206 sv207 sv208 sv209 : Value) (d : Nat → Bool) (a : Act) (x : World) : Prop :=
  ∃ u15 u210 u211 u212 u213 u214 u215 u216 u217 u218 u219 u220 u221 u222 u223 u224 u225 u226 u227 u228 u229 u230 u231 u232 u233 u234 u235 u236 u237 u238 u239 u240 u241 : Value, a = ⟨List.toArray ((.pointer (some ⟨B, 0, none⟩)) :: sv1 :: sv2 :: (.slice (some ⟨lb, lo, none⟩) 1 cc) :: sv4 :: sv5 :: sv6 :: sv7 :: sv8 :: sv9 :: sv10 :: sv11 :: sv12 :: sv13 :: sv14 :: u15 :: sv16 :: sv17 :: sv18 :: sv19 :: sv20 :: sv21 :: sv22 :: sv23 :: sv24 :: sv25 :: sv26 :: sv27 :: sv28 :: sv29 :: sv30 :: sv31 :: sv32 :: sv33 :: sv34 :: sv35 :: sv36 :: sv37 :: sv38 :: sv39 :: sv40 :: sv41 :: sv42 :: sv43 :: sv44 :: sv45 :: sv46 :: sv47 :: sv48 :: sv49 :: sv50 :: sv51 :: sv52 :: sv53 :: sv54 :: sv55 :: sv56 :: sv57 :: sv58 :: sv59 :: sv60 :: sv61 :: sv62 :: sv63 :: sv64 :: sv65 :: sv66 :: sv67 :: sv68 :: sv69 :: sv70 :: sv71 :: sv72 :: sv73 :: sv74 :: sv75 :: sv76 :: sv77 :: sv78 :: sv79 :: sv80 :: sv81 :: sv82 :: sv83 :: sv84 :: sv85 :: sv86 :: sv87 :: sv88 :: sv89 :: sv90 :: sv91 :: sv92 :: sv93 :: sv94 :: sv95 :: sv96 :: sv97 :: sv98 :: sv99 :: sv100 :: sv101 :: sv102 :: sv103 :: sv104 :: sv105 :: sv106 :: sv107 :: sv108 :: sv109 :: sv110 :: sv111 :: sv112 :: sv113 :: sv114 :: sv115 :: sv116 :: sv117 :: sv118 :: sv119 :: sv120 :: sv121 :: sv122 :: sv123 :: sv124 :: sv125 :: sv126 :: sv127 :: sv128 :: sv129 :: sv130 :: sv131 :: sv132 :: sv133 :: sv134 :: sv135 :: sv136 :: sv137 :: sv138 :: sv139 :: sv140 :: sv141 :: sv142 :: sv143 :: sv144 :: sv145 :: sv146 :: sv147 :: sv148 :: sv149 :: sv150 :: sv151 :: sv152 :: sv153 :: sv154 :: sv155 :: sv156 :: sv157 :: sv158 :: sv159 :: sv160 :: sv161 :: sv162 :: sv163 :: sv164 :: sv165 :: sv166 :: sv167 :: sv168 :: sv169 :: sv170 :: sv171 :: sv172 :: sv173 :: sv174 :: sv175 :: sv176 :: sv177 :: sv178 :: sv179 :: sv180 :: sv181 :: sv182 :: sv183 :: sv184 :: sv185 :: sv186 :: sv187 :: sv188 :: sv189 :: sv190 :: sv191 :: sv192 :: sv193 :: sv194 :: sv195 :: sv196 :: sv197 :: sv198 :: sv199 :: sv200 :: sv201 :: sv202 :: sv203 :: sv204 :: sv205 :: sv206 :: sv207 :: sv208 :: sv209 :: u210 :: u211 :: u212 :: u213 :: u214 :: u215 :: u216 :: u217 :: u218 :: u219 :: u220 :: u221 :: u222 :: u223 :: u224 :: u225 :: u226 :: u227 :: u228 :: u229 :: u230 :: u231 :: u232 :: u233 :: u234 :: u235 :: u236 :: u237 :: u238 :: u239 :: u240 :: u241 :: undef :: undef :: undef :: undef :: undef :: undef :: undef :: undef :: undef :: undef :: undef :: undef :: undef :: undef :: undef :: undef :: undef :: undef :: undef :: undef :: undef :: undef :: undef :: undef :: undef :: undef :: undef :: undef :: undef :: undef :: undef :: undef :: undef :: undef :: undef :: undef :: undef :: undef :: undef :: undef :: undef :: undef :: undef :: undef :: undef :: undef :: undef :: undef :: undef :: undef :: undef :: undef :: undef :: undef :: undef :: undef :: undef :: undef :: undef :: undef :: undef :: undef :: undef :: undef :: undef :: undef :: undef :: undef :: undef :: undef :: undef :: undef :: undef :: undef :: undef :: undef :: undef :: undef :: undef :: undef :: undef :: undef :: undef :: undef :: undef :: undef :: undef :: undef :: undef :: undef :: undef :: undef :: undef :: undef :: undef :: undef :: undef :: undef :: undef :: undef :: undef :: undef :: undef :: undef :: undef :: undef :: undef :: undef :: undef :: undef :: undef :: undef :: undef :: undef :: undef :: undef :: undef :: undef :: undef :: undef :: undef :: undef :: undef :: undef :: undef :: undef :: undef :: undef :: undef :: undef :: undef :: undef :: undef :: undef :: undef :: undef :: undef :: undef :: undef :: undef :: undef :: undef :: undef :: undef :: undef :: undef :: undef :: undef :: undef :: undef :: undef :: undef :: undef :: undef :: undef :: undef :: undef :: undef :: undef :: undef :: undef :: undef :: undef :: undef :: undef :: undef :: undef :: undef :: undef :: undef :: undef :: undef :: undef :: undef :: undef :: undef :: undef :: undef :: undef :: undef :: undef :: undef :: undef :: undef :: undef :: undef :: undef :: undef :: undef :: undef :: undef :: undef :: undef :: undef :: undef :: undef :: undef :: undef :: undef :: undef :: undef :: undef :: undef :: undef :: undef :: undef :: undef :: undef :: undef :: undef :: undef :: undef :: undef :: undef :: undef :: undef :: undef :: undef :: undef :: undef :: undef :: undef :: []), []⟩ ∧
    Below W0.heap.size W0 x ∧
    (d 0 = true → u210 = .slice (some ⟨lb, lo, none⟩) 1 cc) ∧
    (d 1 = true → u211 = .pointer (some ⟨lb, lo, none⟩)) ∧
    (d 2 = true → u212 = .int .i64 a0) ∧
    (d 3 = true → u213 = .bool q0) ∧
    (d 4 = true → u214 = errV e0) ∧
    (d 5 = true → u215 = .pointer (some ⟨B, 0, none⟩)) ∧
    (d 6 = true → u216 = .pointer (some ⟨B, 0, none⟩)) ∧
    (d 7 = true → u217 = .pointer (some ⟨B, 3, none⟩)) ∧
    (d 8 = true → u218 = .pointer (some ⟨B, 4, none⟩)) ∧
    (d 9 = true → u219 = .bool s.fixed) ∧
    (d 10 = true → u220 = .bool q1) ∧
    (d 11 = true → u221 = errV e1) ∧
    (d 12 = true → u222 = .pointer (some ⟨B, 0, none⟩)) ∧
    (d 13 = true → u223 = .pointer (some ⟨B, 0, none⟩)) ∧
    (d 14 = true → u224 = .pointer (some ⟨B, 5, none⟩)) ∧
    (d 15 = true → u225 = .pointer (some ⟨B, 6, none⟩)) ∧
    (d 16 = true → u226 = .bool s.heard) ∧
    (d 17 = true → u227 = errV e2) ∧
    (d 18 = true → u228 = .pointer (some ⟨B, 0, none⟩)) ∧
    (d 19 = true → u229 = .pointer (some ⟨B, 0, none⟩)) ∧
    (d 20 = true → u230 = .pointer (some ⟨B, 2, none⟩)) ∧
    (d 21 = true → u231 = .slice (some ⟨g2, 0, none⟩) n c2) ∧
    (d 22 = true → u232 = .int .i64 sml) ∧
    (d 23 = true → u233 = .pointer (some ⟨B, 0, none⟩)) ∧
    (d 24 = true → u234 = .pointer (some ⟨B, 0, none⟩)) ∧
    (d 25 = true → u235 = .agg #[.int .i64 s.day, .slice (some ⟨g1, 0, none⟩) n c1, .slice (some ⟨g2, 0, none⟩) n c2, .int .i64 s.part, .bool s.fixed, .int .i64 s.stop, .bool s.heard, .slice (some ⟨g3, 0, none⟩) n c3, .bool s.ent]) ∧
    (d 26 = true → IntsAt x u236 (clmF s)) ∧
    (d 27 = true → u237 = .int .i64 smc) ∧
    (d 28 = true → u238 = .bool q3) ∧
    (d 29 = true → u239 = errV e3) ∧
    (d 30 = true → ErrsAt x u240 [e0, e1, e2, e3]) ∧
    (d 31 = true → u241 = errV e) ∧
    (d 32 = true → u15 = errV e)
theorem HearI_law (W0 : World) (B n : Nat) (s : St) (g1 c1 g2 c2 g3 c3 lb lo cc : Nat) (a0 sml smc : Int) (q0 q1 q3 : Bool) (e0 e1 e2 e3 e : Int) {sv1 sv2 sv4 sv5 sv6 sv7 sv8 sv9 sv10 sv11 sv12 sv13 sv14 sv16 sv17 sv18 sv19 sv20 sv21 sv22 sv23 sv24 sv25 sv26 sv27 sv28 sv29 sv30 sv31 sv32 sv33 sv34 sv35 sv36 sv37 sv38 sv39 sv40 sv41 sv42 sv43 sv44 sv45 sv46 sv47 sv48 sv49 sv50 sv51 sv52 sv53 sv54 sv55 sv56 sv57 sv58 sv59 sv60 sv61 sv62 sv63 sv64 sv65 sv66 sv67 sv68 sv69 sv70 sv71 sv72 sv73 sv74 sv75 sv76 sv77 sv78 sv79 sv80 sv81 sv82 sv83 sv84 sv85 sv86 sv87 sv88 sv89 sv90 sv91 sv92 sv93 sv94 sv95 sv96 sv97 sv98 sv99 sv100 sv101 sv102 sv103 sv104 sv105 sv106 sv107 sv108 sv109 sv110 sv111 sv112 sv113 sv114 sv115 sv116 sv117 sv118 sv119 sv120 sv121 sv122 sv123 sv124 sv125 sv126 sv127 sv128 sv129 sv130 sv131 sv132 sv133 sv134 sv135 sv136 sv137 sv138 sv139 sv140 sv141 sv142 sv143 sv144 sv145 sv146 sv147 sv148 sv149 sv150 sv151 sv152 sv153 sv154 sv155 sv156 sv157 sv158 sv159 sv160 sv161 sv162 sv163 sv164 sv165 sv166 sv167 sv168 sv169 sv170 sv171 sv172 sv173 sv174 sv175 sv176 sv177 sv178 sv179 sv180 sv181 sv182 sv183 sv184 sv185 sv186 sv187 sv188 sv189 sv190 sv191 sv192 sv193 sv194 sv195 sv196 sv197 sv198 sv199 sv200 sv201 sv202 sv203 sv204 sv205 sv206 sv207 sv208 sv209 : Value} {P : Program} {id : Nat} {ops : Array Oper} {Q : Exit → Act → World → Prop} {a : Act} {w : World} (hm : P.follows .mixedOrders = true) (hd : edgesDown ops = true)
    (h0 : HearI W0 B n s g1 c1 g2 c2 g3 c3 lb lo cc a0 sml smc q0 q1 q3 e0 e1 e2 e3 e sv1 sv2 sv4 sv5 sv6 sv7 sv8 sv9 sv10 sv11 sv12 sv13 sv14 sv16 sv17 sv18 sv19 sv20 sv21 sv22 sv23 sv24 sv25 sv26 sv27 sv28 sv29 sv30 sv31 sv32 sv33 sv34 sv35 sv36 sv37 sv38 sv39 sv40 sv41 sv42 sv43 sv44 sv45 sv46 sv47 sv48 sv49 sv50 sv51 sv52 sv53 sv54 sv55 sv56 sv57 sv58 sv59 sv60 sv61 sv62 sv63 sv64 sv65 sv66 sv67 sv68 sv69 sv70 sv71 sv72 sv73 sv74 sv75 sv76 sv77 sv78 sv79 sv80 sv81 sv82 sv83 sv84 sv85 sv86 sv87 sv88 sv89 sv90 sv91 sv92 sv93 sv94 sv95 sv96 sv97 sv98 sv99 sv100 sv101 sv102 sv103 sv104 sv105 sv106 sv107 sv108 sv109 sv110 sv111 sv112 sv113 sv114 sv115 sv116 sv117 sv118 sv119 sv120 sv121 sv122 sv123 sv124 sv125 sv126 sv127 sv128 sv129 sv130 sv131 sv132 sv133 sv134 sv135 sv136 sv137 sv138 sv139 sv140 sv141 sv142 sv143 sv144 sv145 sv146 sv147 sv148 sv149 sv150 sv151 sv152 sv153 sv154 sv155 sv156 sv157 sv158 sv159 sv160 sv161 sv162 sv163 sv164 sv165 sv166 sv167 sv168 sv169 sv170 sv171 sv172 sv173 sv174 sv175 sv176 sv177 sv178 sv179 sv180 sv181 sv182 sv183 sv184 sv185 sv186 sv187 sv188 sv189 sv190 sv191 sv192 sv193 sv194 sv195 sv196 sv197 sv198 sv199 sv200 sv201 sv202 sv203 sv204 sv205 sv206 sv207 sv208 sv209 (fun _ => false) a w.drew)
    (hstep : ∀ (d : Nat → Bool) (a : Act) (w : World), HearI W0 B n s g1 c1 g2 c2 g3 c3 lb lo cc a0 sml smc q0 q1 q3 e0 e1 e2 e3 e sv1 sv2 sv4 sv5 sv6 sv7 sv8 sv9 sv10 sv11 sv12 sv13 sv14 sv16 sv17 sv18 sv19 sv20 sv21 sv22 sv23 sv24 sv25 sv26 sv27 sv28 sv29 sv30 sv31 sv32 sv33 sv34 sv35 sv36 sv37 sv38 sv39 sv40 sv41 sv42 sv43 sv44 sv45 sv46 sv47 sv48 sv49 sv50 sv51 sv52 sv53 sv54 sv55 sv56 sv57 sv58 sv59 sv60 sv61 sv62 sv63 sv64 sv65 sv66 sv67 sv68 sv69 sv70 sv71 sv72 sv73 sv74 sv75 sv76 sv77 sv78 sv79 sv80 sv81 sv82 sv83 sv84 sv85 sv86 sv87 sv88 sv89 sv90 sv91 sv92 sv93 sv94 sv95 sv96 sv97 sv98 sv99 sv100 sv101 sv102 sv103 sv104 sv105 sv106 sv107 sv108 sv109 sv110 sv111 sv112 sv113 sv114 sv115 sv116 sv117 sv118 sv119 sv120 sv121 sv122 sv123 sv124 sv125 sv126 sv127 sv128 sv129 sv130 sv131 sv132 sv133 sv134 sv135 sv136 sv137 sv138 sv139 sv140 sv141 sv142 sv143 sv144 sv145 sv146 sv147 sv148 sv149 sv150 sv151 sv152 sv153 sv154 sv155 sv156 sv157 sv158 sv159 sv160 sv161 sv162 sv163 sv164 sv165 sv166 sv167 sv168 sv169 sv170 sv171 sv172 sv173 sv174 sv175 sv176 sv177 sv178 sv179 sv180 sv181 sv182 sv183 sv184 sv185 sv186 sv187 sv188 sv189 sv190 sv191 sv192 sv193 sv194 sv195 sv196 sv197 sv198 sv199 sv200 sv201 sv202 sv203 sv204 sv205 sv206 sv207 sv208 sv209 d a w → ∀ i, i < ops.size → d i = false → (∀ o, ops[i]? = some o → ∀ e ∈ o.after, Region.binds .any e = true → d e.on = true) → wpOp P ops Q i (HearI W0 B n s g1 c1 g2 c2 g3 c3 lb lo cc a0 sml smc q0 q1 q3 e0 e1 e2 e3 e sv1 sv2 sv4 sv5 sv6 sv7 sv8 sv9 sv10 sv11 sv12 sv13 sv14 sv16 sv17 sv18 sv19 sv20 sv21 sv22 sv23 sv24 sv25 sv26 sv27 sv28 sv29 sv30 sv31 sv32 sv33 sv34 sv35 sv36 sv37 sv38 sv39 sv40 sv41 sv42 sv43 sv44 sv45 sv46 sv47 sv48 sv49 sv50 sv51 sv52 sv53 sv54 sv55 sv56 sv57 sv58 sv59 sv60 sv61 sv62 sv63 sv64 sv65 sv66 sv67 sv68 sv69 sv70 sv71 sv72 sv73 sv74 sv75 sv76 sv77 sv78 sv79 sv80 sv81 sv82 sv83 sv84 sv85 sv86 sv87 sv88 sv89 sv90 sv91 sv92 sv93 sv94 sv95 sv96 sv97 sv98 sv99 sv100 sv101 sv102 sv103 sv104 sv105 sv106 sv107 sv108 sv109 sv110 sv111 sv112 sv113 sv114 sv115 sv116 sv117 sv118 sv119 sv120 sv121 sv122 sv123 sv124 sv125 sv126 sv127 sv128 sv129 sv130 sv131 sv132 sv133 sv134 sv135 sv136 sv137 sv138 sv139 sv140 sv141 sv142 sv143 sv144 sv145 sv146 sv147 sv148 sv149 sv150 sv151 sv152 sv153 sv154 sv155 sv156 sv157 sv158 sv159 sv160 sv161 sv162 sv163 sv164 sv165 sv166 sv167 sv168 sv169 sv170 sv171 sv172 sv173 sv174 sv175 sv176 sv177 sv178 sv179 sv180 sv181 sv182 sv183 sv184 sv185 sv186 sv187 sv188 sv189 sv190 sv191 sv192 sv193 sv194 sv195 sv196 sv197 sv198 sv199 sv200 sv201 sv202 sv203 sv204 sv205 sv206 sv207 sv208 sv209 (fun j => j == i || d j)) a w)
    (hend : ∀ (d : Nat → Bool) (a : Act) (w : World), HearI W0 B n s g1 c1 g2 c2 g3 c3 lb lo cc a0 sml smc q0 q1 q3 e0 e1 e2 e3 e sv1 sv2 sv4 sv5 sv6 sv7 sv8 sv9 sv10 sv11 sv12 sv13 sv14 sv16 sv17 sv18 sv19 sv20 sv21 sv22 sv23 sv24 sv25 sv26 sv27 sv28 sv29 sv30 sv31 sv32 sv33 sv34 sv35 sv36 sv37 sv38 sv39 sv40 sv41 sv42 sv43 sv44 sv45 sv46 sv47 sv48 sv49 sv50 sv51 sv52 sv53 sv54 sv55 sv56 sv57 sv58 sv59 sv60 sv61 sv62 sv63 sv64 sv65 sv66 sv67 sv68 sv69 sv70 sv71 sv72 sv73 sv74 sv75 sv76 sv77 sv78 sv79 sv80 sv81 sv82 sv83 sv84 sv85 sv86 sv87 sv88 sv89 sv90 sv91 sv92 sv93 sv94 sv95 sv96 sv97 sv98 sv99 sv100 sv101 sv102 sv103 sv104 sv105 sv106 sv107 sv108 sv109 sv110 sv111 sv112 sv113 sv114 sv115 sv116 sv117 sv118 sv119 sv120 sv121 sv122 sv123 sv124 sv125 sv126 sv127 sv128 sv129 sv130 sv131 sv132 sv133 sv134 sv135 sv136 sv137 sv138 sv139 sv140 sv141 sv142 sv143 sv144 sv145 sv146 sv147 sv148 sv149 sv150 sv151 sv152 sv153 sv154 sv155 sv156 sv157 sv158 sv159 sv160 sv161 sv162 sv163 sv164 sv165 sv166 sv167 sv168 sv169 sv170 sv171 sv172 sv173 sv174 sv175 sv176 sv177 sv178 sv179 sv180 sv181 sv182 sv183 sv184 sv185 sv186 sv187 sv188 sv189 sv190 sv191 sv192 sv193 sv194 sv195 sv196 sv197 sv198 sv199 sv200 sv201 sv202 sv203 sv204 sv205 sv206 sv207 sv208 sv209 d a w → (∀ i, i < ops.size → d i = true) → Q .normal a w) : (Code.region id ops true).wp P Q a w := wp_region_inv hm hd (HearI W0 B n s g1 c1 g2 c2 g3 c3 lb lo cc a0 sml smc q0 q1 q3 e0 e1 e2 e3 e sv1 sv2 sv4 sv5 sv6 sv7 sv8 sv9 sv10 sv11 sv12 sv13 sv14 sv16 sv17 sv18 sv19 sv20 sv21 sv22 sv23 sv24 sv25 sv26 sv27 sv28 sv29 sv30 sv31 sv32 sv33 sv34 sv35 sv36 sv37 sv38 sv39 sv40 sv41 sv42 sv43 sv44 sv45 sv46 sv47 sv48 sv49 sv50 sv51 sv52 sv53 sv54 sv55 sv56 sv57 sv58 sv59 sv60 sv61 sv62 sv63 sv64 sv65 sv66 sv67 sv68 sv69 sv70 sv71 sv72 sv73 sv74 sv75 sv76 sv77 sv78 sv79 sv80 sv81 sv82 sv83 sv84 sv85 sv86 sv87 sv88 sv89 sv90 sv91 sv92 sv93 sv94 sv95 sv96 sv97 sv98 sv99 sv100 sv101 sv102 sv103 sv104 sv105 sv106 sv107 sv108 sv109 sv110 sv111 sv112 sv113 sv114 sv115 sv116 sv117 sv118 sv119 sv120 sv121 sv122 sv123 sv124 sv125 sv126 sv127 sv128 sv129 sv130 sv131 sv132 sv133 sv134 sv135 sv136 sv137 sv138 sv139 sv140 sv141 sv142 sv143 sv144 sv145 sv146 sv147 sv148 sv149 sv150 sv151 sv152 sv153 sv154 sv155 sv156 sv157 sv158 sv159 sv160 sv161 sv162 sv163 sv164 sv165 sv166 sv167 sv168 sv169 sv170 sv171 sv172 sv173 sv174 sv175 sv176 sv177 sv178 sv179 sv180 sv181 sv182 sv183 sv184 sv185 sv186 sv187 sv188 sv189 sv190 sv191 sv192 sv193 sv194 sv195 sv196 sv197 sv198 sv199 sv200 sv201 sv202 sv203 sv204 sv205 sv206 sv207 sv208 sv209) h0 hstep hend
set_option maxRecDepth 1000000 in
def HearJ (W0 : World) (B lb lo cc CB : Nat) (cF : Int) (fa sa : Option Addr) (fn fc sn sc : Nat) (sd a0 r ea : Int) (sv1 sv2 sv4 sv6 sv7 sv8 sv9 sv10 sv11 sv12 sv13 sv14 sv15 sv18 sv19 sv20 sv21 sv22 sv23 sv24 sv25 sv26 sv27 sv28 sv29 sv30 sv31 sv32 sv33 sv34 sv35 sv36 sv37 sv38 sv39 sv40 sv41 sv42 sv43 sv44 sv45 sv46 sv47 sv48 sv49 sv50 sv51 sv52 sv53 sv54 sv55 sv56 sv57 sv58 sv59 sv60 sv61 sv62 sv63 sv64 sv65 sv66 sv67 sv68 sv69 sv70 sv71 sv72 sv73 sv74 sv75 sv76 sv77 sv78 sv79 sv80 sv81 sv82 sv83 sv84 sv85 sv86 sv87 sv88 sv89 sv90 sv91 sv92 sv93 sv94 sv95 sv96 sv97 sv98 sv99 sv100 sv101 sv102 sv103 sv104 sv105 sv106 sv107 sv108 sv109 sv110 sv111 sv112 sv113 sv114 sv115 sv116 sv117 sv118 sv119 sv120 sv121 sv122 sv123 sv124 sv125 sv126 sv127 sv128 sv129 sv130 sv131 sv132 sv133 sv134 sv135 sv136 sv137 sv138 sv139 sv140 sv141 sv142 sv143 sv144 sv145 sv146 sv147 sv148 sv149 sv150 sv151 sv152 sv153 sv154 sv155 sv156 sv157 sv158 sv159 sv160 sv161 sv162 sv163 sv164 sv165 sv166 sv167 sv168 sv169 sv170 sv171 sv172 sv173 sv174 sv175 sv176 sv177 sv178 sv179 sv180 sv181 sv182 sv183 sv184 sv185 sv186 sv187 sv188 sv189 sv190 sv191 sv192 sv193 sv194 sv195 sv196 sv197 sv198 sv199 sv200 sv201 sv202 sv203 sv204 sv205 sv206 sv207 sv208 sv209 sv210 sv211 sv212 sv213 sv214 sv215 sv216 sv217 sv218 sv219 sv220 sv221 sv222 sv223 sv224 sv225 sv226 sv227 sv228 sv229 sv230 sv231 sv232 sv233 sv234 sv235 sv236 sv237 sv238 sv239 sv240 sv241 sv242 sv243 sv244 : Value) (d : Nat → Bool) (a : Act) (x : World) : Prop :=
  ∃ u16 u17 u245 u246 u247 u248 u249 u250 u251 u252 u253 u254 u255 u256 : Value, a = ⟨List.toArray ((.pointer (some ⟨B, 0, none⟩)) :: sv1 :: sv2 :: (.slice (some ⟨lb, lo, none⟩) 1 cc) :: sv4 :: (.pointer (some ⟨CB, 0, none⟩)) :: sv6 :: sv7 :: sv8 :: sv9 :: sv10 :: sv11 :: sv12 :: sv13 :: sv14 :: sv15 :: u16 :: u17 :: sv18 :: sv19 :: sv20 :: sv21 :: sv22 :: sv23 :: sv24 :: sv25 :: sv26 :: sv27 :: sv28 :: sv29 :: sv30 :: sv31 :: sv32 :: sv33 :: sv34 :: sv35 :: sv36 :: sv37 :: sv38 :: sv39 :: sv40 :: sv41 :: sv42 :: sv43 :: sv44 :: sv45 :: sv46 :: sv47 :: sv48 :: sv49 :: sv50 :: sv51 :: sv52 :: sv53 :: sv54 :: sv55 :: sv56 :: sv57 :: sv58 :: sv59 :: sv60 :: sv61 :: sv62 :: sv63 :: sv64 :: sv65 :: sv66 :: sv67 :: sv68 :: sv69 :: sv70 :: sv71 :: sv72 :: sv73 :: sv74 :: sv75 :: sv76 :: sv77 :: sv78 :: sv79 :: sv80 :: sv81 :: sv82 :: sv83 :: sv84 :: sv85 :: sv86 :: sv87 :: sv88 :: sv89 :: sv90 :: sv91 :: sv92 :: sv93 :: sv94 :: sv95 :: sv96 :: sv97 :: sv98 :: sv99 :: sv100 :: sv101 :: sv102 :: sv103 :: sv104 :: sv105 :: sv106 :: sv107 :: sv108 :: sv109 :: sv110 :: sv111 :: sv112 :: sv113 :: sv114 :: sv115 :: sv116 :: sv117 :: sv118 :: sv119 :: sv120 :: sv121 :: sv122 :: sv123 :: sv124 :: sv125 :: sv126 :: sv127 :: sv128 :: sv129 :: sv130 :: sv131 :: sv132 :: sv133 :: sv134 :: sv135 :: sv136 :: sv137 :: sv138 :: sv139 :: sv140 :: sv141 :: sv142 :: sv143 :: sv144 :: sv145 :: sv146 :: sv147 :: sv148 :: sv149 :: sv150 :: sv151 :: sv152 :: sv153 :: sv154 :: sv155 :: sv156 :: sv157 :: sv158 :: sv159 :: sv160 :: sv161 :: sv162 :: sv163 :: sv164 :: sv165 :: sv166 :: sv167 :: sv168 :: sv169 :: sv170 :: sv171 :: sv172 :: sv173 :: sv174 :: sv175 :: sv176 :: sv177 :: sv178 :: sv179 :: sv180 :: sv181 :: sv182 :: sv183 :: sv184 :: sv185 :: sv186 :: sv187 :: sv188 :: sv189 :: sv190 :: sv191 :: sv192 :: sv193 :: sv194 :: sv195 :: sv196 :: sv197 :: sv198 :: sv199 :: sv200 :: sv201 :: sv202 :: sv203 :: sv204 :: sv205 :: sv206 :: sv207 :: sv208 :: sv209 :: sv210 :: sv211 :: sv212 :: sv213 :: sv214 :: sv215 :: sv216 :: sv217 :: sv218 :: sv219 :: sv220 :: sv221 :: sv222 :: sv223 :: sv224 :: sv225 :: sv226 :: sv227 :: sv228 :: sv229 :: sv230 :: sv231 :: sv232 :: sv233 :: sv234 :: sv235 :: sv236 :: sv237 :: sv238 :: sv239 :: sv240 :: sv241 :: sv242 :: sv243 :: sv244 :: u245 :: u246 :: u247 :: u248 :: u249 :: u250 :: u251 :: u252 :: u253 :: u254 :: u255 :: u256 :: undef :: undef :: undef :: undef :: undef :: undef :: undef :: undef :: undef :: undef :: undef :: undef :: undef :: undef :: undef :: undef :: undef :: undef :: undef :: undef :: undef :: undef :: undef :: undef :: undef :: undef :: undef :: undef :: undef :: undef :: undef :: undef :: undef :: undef :: undef :: undef :: undef :: undef :: undef :: undef :: undef :: undef :: undef :: undef :: undef :: undef :: undef :: undef :: undef :: undef :: undef :: undef :: undef :: undef :: undef :: undef :: undef :: undef :: undef :: undef :: undef :: undef :: undef :: undef :: undef :: undef :: undef :: undef :: undef :: undef :: undef :: undef :: undef :: undef :: undef :: undef :: undef :: undef :: undef :: undef :: undef :: undef :: undef :: undef :: undef :: undef :: undef :: undef :: undef :: undef :: undef :: undef :: undef :: undef :: undef :: undef :: undef :: undef :: undef :: undef :: undef :: undef :: undef :: undef :: undef :: undef :: undef :: undef :: undef :: undef :: undef :: undef :: undef :: undef :: undef :: undef :: undef :: undef :: undef :: undef :: undef :: undef :: undef :: undef :: undef :: undef :: undef :: undef :: undef :: undef :: undef :: undef :: undef :: undef :: undef :: undef :: undef :: undef :: undef :: undef :: undef :: undef :: undef :: undef :: undef :: undef :: undef :: undef :: undef :: undef :: undef :: undef :: undef :: undef :: undef :: undef :: undef :: undef :: undef :: undef :: undef :: undef :: undef :: undef :: undef :: undef :: undef :: undef :: undef :: undef :: undef :: undef :: undef :: undef :: undef :: undef :: undef :: undef :: undef :: undef :: undef :: undef :: undef :: undef :: undef :: undef :: undef :: undef :: undef :: undef :: undef :: undef :: undef :: undef :: undef :: undef :: undef :: undef :: undef :: undef :: undef :: undef :: undef :: undef :: undef :: undef :: undef :: []), []⟩ ∧
    Below W0.heap.size W0 x ∧
    (d 0 = true → u246 = .agg #[.int .i64 cF, .slice fa fn fc, .slice sa sn sc]) ∧
    (d 1 = true → u247 = .pointer (some ⟨B, 0, none⟩)) ∧
    (d 2 = true → u248 = .pointer (some ⟨B, 0, none⟩)) ∧
    (d 3 = true → u249 = .pointer (some ⟨B, 0, none⟩)) ∧
    (d 4 = true → u250 = .int .i64 sd) ∧
    (d 5 = true → u251 = .slice (some ⟨lb, lo, none⟩) 1 cc) ∧
    (d 6 = true → u252 = .pointer (some ⟨lb, lo, none⟩)) ∧
    (d 7 = true → u253 = .int .i64 a0) ∧
    (d 8 = true → u254 = .tuple #[.int .i64 r, .int .i64 ea]) ∧
    (d 9 = true → u245 = .tuple #[.int .i64 r, .int .i64 ea]) ∧
    (d 10 = true → u255 = .int .i64 r) ∧
    (d 11 = true → u256 = .int .i64 ea) ∧
    (d 12 = true → u16 = .int .i64 r) ∧
    (d 13 = true → u17 = .int .i64 ea)
theorem HearJ_law (W0 : World) (B lb lo cc CB : Nat) (cF : Int) (fa sa : Option Addr) (fn fc sn sc : Nat) (sd a0 r ea : Int) {sv1 sv2 sv4 sv6 sv7 sv8 sv9 sv10 sv11 sv12 sv13 sv14 sv15 sv18 sv19 sv20 sv21 sv22 sv23 sv24 sv25 sv26 sv27 sv28 sv29 sv30 sv31 sv32 sv33 sv34 sv35 sv36 sv37 sv38 sv39 sv40 sv41 sv42 sv43 sv44 sv45 sv46 sv47 sv48 sv49 sv50 sv51 sv52 sv53 sv54 sv55 sv56 sv57 sv58 sv59 sv60 sv61 sv62 sv63 sv64 sv65 sv66 sv67 sv68 sv69 sv70 sv71 sv72 sv73 sv74 sv75 sv76 sv77 sv78 sv79 sv80 sv81 sv82 sv83 sv84 sv85 sv86 sv87 sv88 sv89 sv90 sv91 sv92 sv93 sv94 sv95 sv96 sv97 sv98 sv99 sv100 sv101 sv102 sv103 sv104 sv105 sv106 sv107 sv108 sv109 sv110 sv111 sv112 sv113 sv114 sv115 sv116 sv117 sv118 sv119 sv120 sv121 sv122 sv123 sv124 sv125 sv126 sv127 sv128 sv129 sv130 sv131 sv132 sv133 sv134 sv135 sv136 sv137 sv138 sv139 sv140 sv141 sv142 sv143 sv144 sv145 sv146 sv147 sv148 sv149 sv150 sv151 sv152 sv153 sv154 sv155 sv156 sv157 sv158 sv159 sv160 sv161 sv162 sv163 sv164 sv165 sv166 sv167 sv168 sv169 sv170 sv171 sv172 sv173 sv174 sv175 sv176 sv177 sv178 sv179 sv180 sv181 sv182 sv183 sv184 sv185 sv186 sv187 sv188 sv189 sv190 sv191 sv192 sv193 sv194 sv195 sv196 sv197 sv198 sv199 sv200 sv201 sv202 sv203 sv204 sv205 sv206 sv207 sv208 sv209 sv210 sv211 sv212 sv213 sv214 sv215 sv216 sv217 sv218 sv219 sv220 sv221 sv222 sv223 sv224 sv225 sv226 sv227 sv228 sv229 sv230 sv231 sv232 sv233 sv234 sv235 sv236 sv237 sv238 sv239 sv240 sv241 sv242 sv243 sv244 : Value} {P : Program} {id : Nat} {ops : Array Oper} {Q : Exit → Act → World → Prop} {a : Act} {w : World} (hm : P.follows .mixedOrders = true) (hd : edgesDown ops = true)
    (h0 : HearJ W0 B lb lo cc CB cF fa sa fn fc sn sc sd a0 r ea sv1 sv2 sv4 sv6 sv7 sv8 sv9 sv10 sv11 sv12 sv13 sv14 sv15 sv18 sv19 sv20 sv21 sv22 sv23 sv24 sv25 sv26 sv27 sv28 sv29 sv30 sv31 sv32 sv33 sv34 sv35 sv36 sv37 sv38 sv39 sv40 sv41 sv42 sv43 sv44 sv45 sv46 sv47 sv48 sv49 sv50 sv51 sv52 sv53 sv54 sv55 sv56 sv57 sv58 sv59 sv60 sv61 sv62 sv63 sv64 sv65 sv66 sv67 sv68 sv69 sv70 sv71 sv72 sv73 sv74 sv75 sv76 sv77 sv78 sv79 sv80 sv81 sv82 sv83 sv84 sv85 sv86 sv87 sv88 sv89 sv90 sv91 sv92 sv93 sv94 sv95 sv96 sv97 sv98 sv99 sv100 sv101 sv102 sv103 sv104 sv105 sv106 sv107 sv108 sv109 sv110 sv111 sv112 sv113 sv114 sv115 sv116 sv117 sv118 sv119 sv120 sv121 sv122 sv123 sv124 sv125 sv126 sv127 sv128 sv129 sv130 sv131 sv132 sv133 sv134 sv135 sv136 sv137 sv138 sv139 sv140 sv141 sv142 sv143 sv144 sv145 sv146 sv147 sv148 sv149 sv150 sv151 sv152 sv153 sv154 sv155 sv156 sv157 sv158 sv159 sv160 sv161 sv162 sv163 sv164 sv165 sv166 sv167 sv168 sv169 sv170 sv171 sv172 sv173 sv174 sv175 sv176 sv177 sv178 sv179 sv180 sv181 sv182 sv183 sv184 sv185 sv186 sv187 sv188 sv189 sv190 sv191 sv192 sv193 sv194 sv195 sv196 sv197 sv198 sv199 sv200 sv201 sv202 sv203 sv204 sv205 sv206 sv207 sv208 sv209 sv210 sv211 sv212 sv213 sv214 sv215 sv216 sv217 sv218 sv219 sv220 sv221 sv222 sv223 sv224 sv225 sv226 sv227 sv228 sv229 sv230 sv231 sv232 sv233 sv234 sv235 sv236 sv237 sv238 sv239 sv240 sv241 sv242 sv243 sv244 (fun _ => false) a w.drew)
    (hstep : ∀ (d : Nat → Bool) (a : Act) (w : World), HearJ W0 B lb lo cc CB cF fa sa fn fc sn sc sd a0 r ea sv1 sv2 sv4 sv6 sv7 sv8 sv9 sv10 sv11 sv12 sv13 sv14 sv15 sv18 sv19 sv20 sv21 sv22 sv23 sv24 sv25 sv26 sv27 sv28 sv29 sv30 sv31 sv32 sv33 sv34 sv35 sv36 sv37 sv38 sv39 sv40 sv41 sv42 sv43 sv44 sv45 sv46 sv47 sv48 sv49 sv50 sv51 sv52 sv53 sv54 sv55 sv56 sv57 sv58 sv59 sv60 sv61 sv62 sv63 sv64 sv65 sv66 sv67 sv68 sv69 sv70 sv71 sv72 sv73 sv74 sv75 sv76 sv77 sv78 sv79 sv80 sv81 sv82 sv83 sv84 sv85 sv86 sv87 sv88 sv89 sv90 sv91 sv92 sv93 sv94 sv95 sv96 sv97 sv98 sv99 sv100 sv101 sv102 sv103 sv104 sv105 sv106 sv107 sv108 sv109 sv110 sv111 sv112 sv113 sv114 sv115 sv116 sv117 sv118 sv119 sv120 sv121 sv122 sv123 sv124 sv125 sv126 sv127 sv128 sv129 sv130 sv131 sv132 sv133 sv134 sv135 sv136 sv137 sv138 sv139 sv140 sv141 sv142 sv143 sv144 sv145 sv146 sv147 sv148 sv149 sv150 sv151 sv152 sv153 sv154 sv155 sv156 sv157 sv158 sv159 sv160 sv161 sv162 sv163 sv164 sv165 sv166 sv167 sv168 sv169 sv170 sv171 sv172 sv173 sv174 sv175 sv176 sv177 sv178 sv179 sv180 sv181 sv182 sv183 sv184 sv185 sv186 sv187 sv188 sv189 sv190 sv191 sv192 sv193 sv194 sv195 sv196 sv197 sv198 sv199 sv200 sv201 sv202 sv203 sv204 sv205 sv206 sv207 sv208 sv209 sv210 sv211 sv212 sv213 sv214 sv215 sv216 sv217 sv218 sv219 sv220 sv221 sv222 sv223 sv224 sv225 sv226 sv227 sv228 sv229 sv230 sv231 sv232 sv233 sv234 sv235 sv236 sv237 sv238 sv239 sv240 sv241 sv242 sv243 sv244 d a w → ∀ i, i < ops.size → d i = false → (∀ o, ops[i]? = some o → ∀ e ∈ o.after, Region.binds .any e = true → d e.on = true) → wpOp P ops Q i (HearJ W0 B lb lo cc CB cF fa sa fn fc sn sc sd a0 r ea sv1 sv2 sv4 sv6 sv7 sv8 sv9 sv10 sv11 sv12 sv13 sv14 sv15 sv18 sv19 sv20 sv21 sv22 sv23 sv24 sv25 sv26 sv27 sv28 sv29 sv30 sv31 sv32 sv33 sv34 sv35 sv36 sv37 sv38 sv39 sv40 sv41 sv42 sv43 sv44 sv45 sv46 sv47 sv48 sv49 sv50 sv51 sv52 sv53 sv54 sv55 sv56 sv57 sv58 sv59 sv60 sv61 sv62 sv63 sv64 sv65 sv66 sv67 sv68 sv69 sv70 sv71 sv72 sv73 sv74 sv75 sv76 sv77 sv78 sv79 sv80 sv81 sv82 sv83 sv84 sv85 sv86 sv87 sv88 sv89 sv90 sv91 sv92 sv93 sv94 sv95 sv96 sv97 sv98 sv99 sv100 sv101 sv102 sv103 sv104 sv105 sv106 sv107 sv108 sv109 sv110 sv111 sv112 sv113 sv114 sv115 sv116 sv117 sv118 sv119 sv120 sv121 sv122 sv123 sv124 sv125 sv126 sv127 sv128 sv129 sv130 sv131 sv132 sv133 sv134 sv135 sv136 sv137 sv138 sv139 sv140 sv141 sv142 sv143 sv144 sv145 sv146 sv147 sv148 sv149 sv150 sv151 sv152 sv153 sv154 sv155 sv156 sv157 sv158 sv159 sv160 sv161 sv162 sv163 sv164 sv165 sv166 sv167 sv168 sv169 sv170 sv171 sv172 sv173 sv174 sv175 sv176 sv177 sv178 sv179 sv180 sv181 sv182 sv183 sv184 sv185 sv186 sv187 sv188 sv189 sv190 sv191 sv192 sv193 sv194 sv195 sv196 sv197 sv198 sv199 sv200 sv201 sv202 sv203 sv204 sv205 sv206 sv207 sv208 sv209 sv210 sv211 sv212 sv213 sv214 sv215 sv216 sv217 sv218 sv219 sv220 sv221 sv222 sv223 sv224 sv225 sv226 sv227 sv228 sv229 sv230 sv231 sv232 sv233 sv234 sv235 sv236 sv237 sv238 sv239 sv240 sv241 sv242 sv243 sv244 (fun j => j == i || d j)) a w)
    (hend : ∀ (d : Nat → Bool) (a : Act) (w : World), HearJ W0 B lb lo cc CB cF fa sa fn fc sn sc sd a0 r ea sv1 sv2 sv4 sv6 sv7 sv8 sv9 sv10 sv11 sv12 sv13 sv14 sv15 sv18 sv19 sv20 sv21 sv22 sv23 sv24 sv25 sv26 sv27 sv28 sv29 sv30 sv31 sv32 sv33 sv34 sv35 sv36 sv37 sv38 sv39 sv40 sv41 sv42 sv43 sv44 sv45 sv46 sv47 sv48 sv49 sv50 sv51 sv52 sv53 sv54 sv55 sv56 sv57 sv58 sv59 sv60 sv61 sv62 sv63 sv64 sv65 sv66 sv67 sv68 sv69 sv70 sv71 sv72 sv73 sv74 sv75 sv76 sv77 sv78 sv79 sv80 sv81 sv82 sv83 sv84 sv85 sv86 sv87 sv88 sv89 sv90 sv91 sv92 sv93 sv94 sv95 sv96 sv97 sv98 sv99 sv100 sv101 sv102 sv103 sv104 sv105 sv106 sv107 sv108 sv109 sv110 sv111 sv112 sv113 sv114 sv115 sv116 sv117 sv118 sv119 sv120 sv121 sv122 sv123 sv124 sv125 sv126 sv127 sv128 sv129 sv130 sv131 sv132 sv133 sv134 sv135 sv136 sv137 sv138 sv139 sv140 sv141 sv142 sv143 sv144 sv145 sv146 sv147 sv148 sv149 sv150 sv151 sv152 sv153 sv154 sv155 sv156 sv157 sv158 sv159 sv160 sv161 sv162 sv163 sv164 sv165 sv166 sv167 sv168 sv169 sv170 sv171 sv172 sv173 sv174 sv175 sv176 sv177 sv178 sv179 sv180 sv181 sv182 sv183 sv184 sv185 sv186 sv187 sv188 sv189 sv190 sv191 sv192 sv193 sv194 sv195 sv196 sv197 sv198 sv199 sv200 sv201 sv202 sv203 sv204 sv205 sv206 sv207 sv208 sv209 sv210 sv211 sv212 sv213 sv214 sv215 sv216 sv217 sv218 sv219 sv220 sv221 sv222 sv223 sv224 sv225 sv226 sv227 sv228 sv229 sv230 sv231 sv232 sv233 sv234 sv235 sv236 sv237 sv238 sv239 sv240 sv241 sv242 sv243 sv244 d a w → (∀ i, i < ops.size → d i = true) → Q .normal a w) : (Code.region id ops true).wp P Q a w := wp_region_inv hm hd (HearJ W0 B lb lo cc CB cF fa sa fn fc sn sc sd a0 r ea sv1 sv2 sv4 sv6 sv7 sv8 sv9 sv10 sv11 sv12 sv13 sv14 sv15 sv18 sv19 sv20 sv21 sv22 sv23 sv24 sv25 sv26 sv27 sv28 sv29 sv30 sv31 sv32 sv33 sv34 sv35 sv36 sv37 sv38 sv39 sv40 sv41 sv42 sv43 sv44 sv45 sv46 sv47 sv48 sv49 sv50 sv51 sv52 sv53 sv54 sv55 sv56 sv57 sv58 sv59 sv60 sv61 sv62 sv63 sv64 sv65 sv66 sv67 sv68 sv69 sv70 sv71 sv72 sv73 sv74 sv75 sv76 sv77 sv78 sv79 sv80 sv81 sv82 sv83 sv84 sv85 sv86 sv87 sv88 sv89 sv90 sv91 sv92 sv93 sv94 sv95 sv96 sv97 sv98 sv99 sv100 sv101 sv102 sv103 sv104 sv105 sv106 sv107 sv108 sv109 sv110 sv111 sv112 sv113 sv114 sv115 sv116 sv117 sv118 sv119 sv120 sv121 sv122 sv123 sv124 sv125 sv126 sv127 sv128 sv129 sv130 sv131 sv132 sv133 sv134 sv135 sv136 sv137 sv138 sv139 sv140 sv141 sv142 sv143 sv144 sv145 sv146 sv147 sv148 sv149 sv150 sv151 sv152 sv153 sv154 sv155 sv156 sv157 sv158 sv159 sv160 sv161 sv162 sv163 sv164 sv165 sv166 sv167 sv168 sv169 sv170 sv171 sv172 sv173 sv174 sv175 sv176 sv177 sv178 sv179 sv180 sv181 sv182 sv183 sv184 sv185 sv186 sv187 sv188 sv189 sv190 sv191 sv192 sv193 sv194 sv195 sv196 sv197 sv198 sv199 sv200 sv201 sv202 sv203 sv204 sv205 sv206 sv207 sv208 sv209 sv210 sv211 sv212 sv213 sv214 sv215 sv216 sv217 sv218 sv219 sv220 sv221 sv222 sv223 sv224 sv225 sv226 sv227 sv228 sv229 sv230 sv231 sv232 sv233 sv234 sv235 sv236 sv237 sv238 sv239 sv240 sv241 sv242 sv243 sv244) h0 hstep hend
set_option maxRecDepth 1000000 in
set_option maxHeartbeats 16000000 in
theorem do_hear (m : Nat) (w : World) (B n : Nat) (s : St) (g1 c1 g2 c2 g3 c3 : Nat) (cv lv : Value) (c : Cal) (a0 : Int) (ra0 : 0 ≤ a0 ∧ a0 ≤ 9999) (h : StBox m w B n s g1 c1 g2 c2 g3 c3) (hg : Good s) (hc : CalAt w cv c) (hv : validF c = 0) (hl : IntsAt w lv [a0]) :
    Calls Tryz.prog 64 #[.pointer (some ⟨B, 0, none⟩), cv, frmV (4, 1, 0), lv] w (DoR m w B n g1 c1 g2 c2 g3 c3 (kindE c s 4 [a0]) (kindS c s 4 [a0])) := by
  have HB := Lib.hid h
  have HG := Lib.hid hg
  have HC := Lib.hid hc
  have HV := Lib.hid hv
  have HL := Lib.hid hl
  have hn1 := h.st.n1
  have hn8 := h.st.n8
  have hmB := h.mB
  have hBl : B < w.heap.size := (Array.getElem?_eq_some_iff.1 h.box).1
  have hmW : m ≤ w.heap.size := by omega
  obtain ⟨ca, cc, rfl, hlc, hcm, -⟩ := hl
  obtain ⟨fv, sv, rfl, -⟩ := id hc
  obtain ⟨fa, fn, fc, rfl, sa, sn, sc, rfl⟩ : ∃ fa fn fc, fv = .slice fa fn fc ∧ ∃ sa sn sc, sv = .slice sa sn sc := by
    obtain ⟨fv', sv', e, ⟨fa, fc, e1, _⟩, ⟨sa, sc, e2, _⟩⟩ := HC.out
    simp only [Value.agg.injEq, Array.mk.injEq, List.cons.injEq, and_true, true_and] at e
    exact ⟨fa, _, fc, by rw [e.1, e1], sa, _, sc, by rw [e.2, e2]⟩
  simp only [List.length_cons, List.length_nil, Nat.zero_add] at hlc HL ⊢
  obtain ⟨lb, lo, rfl, hlb, x0⟩ := HL.out.cellAt (m := 0) (by simp)
  simp only [gi, List.getElem?_cons_zero, Option.getD_some, Nat.add_zero] at x0
  clear h hg hc hv
  unfold frmV
  dsimp only
  go_enter Tryz.func64, Tryz.ntmps64
  go_wp2
  obtain ⟨W0, hW0⟩ : ∃ W0, (w.alloc (.cells #[.int .i64 c.first, .slice fa fn fc, .slice sa sn sc] 25)).alloc (.cells #[.int .i64 4, .int .i64 1, .int .i64 0] 104) = W0 := ⟨_, rfl⟩
  have hbW : Below w.heap.size w W0 := by rw [← hW0]; (repeat' (first | exact Below.refl _ _ | assumption | refine below_new ?_ _ | refine below_draw ?_ | refine below_tail (by assumption) ?_ | refine below_set ?_ (by first | omega | (simp <;> omega)) _))
  have hBC : W0.heap[w.heap.size]? = some (.cells #[.int .i64 c.first, .slice fa fn fc, .slice sa sn sc] 25 (0, 0)) := by
    rw [← hW0, Below.heap_alloc _ _ _ (by simp)]; exact alloc_new _ _ rfl
  have hBF : W0.heap[w.heap.size + 1]? = some (.cells #[.int .i64 4, .int .i64 1, .int .i64 0] 104 (0, 0)) := by
    rw [← hW0]; exact alloc_new _ _ (by simp)
  rw [hW0]
  have HST : Hid (StBox m W0 B n s g1 c1 g2 c2 g3 c3) := HB.out.keep hbW
  have hBW := HST.out.box
  unfold stC at hBW
  have kf := (cell_of_block hBF 0).trans (show _ = some (.int .i64 4) from rfl)
  have _ := ra0
  have b0 := (cell_of_block hBW 0).trans (show _ = some (.int .i64 s.day) from rfl)
  have b1 := (cell_of_block hBW 1).trans (show _ = some (.slice (some ⟨g1, 0, none⟩) n c1) from rfl)
  have b2 := (cell_of_block hBW 2).trans (show _ = some (.slice (some ⟨g2, 0, none⟩) n c2) from rfl)
  have b3 := (cell_of_block hBW 3).trans (show _ = some (.int .i64 s.part) from rfl)
  have b4 := (cell_of_block hBW 4).trans (show _ = some (.bool s.fixed) from rfl)
  have b5 := (cell_of_block hBW 5).trans (show _ = some (.int .i64 s.stop) from rfl)
  have b6 := (cell_of_block hBW 6).trans (show _ = some (.bool s.heard) from rfl)
  have b7 := (cell_of_block hBW 7).trans (show _ = some (.slice (some ⟨g3, 0, none⟩) n c3) from rfl)
  have b8 := (cell_of_block hBW 8).trans (show _ = some (.bool s.ent) from rfl)
  have hBl0 : B < W0.heap.size := Nat.lt_of_lt_of_le hBl hbW.size
  have y0 := (hbW.cell (p := ⟨lb, lo, none⟩) hlb).trans x0
  have hlb0 : lb < W0.heap.size := Nat.lt_of_lt_of_le hlb hbW.size
  clear hW0 x0 hBF
  go_loop [32] (fun i => i = .int .i64 0) (fun _ => 0)
  case atStart => rfl
  case round =>
    subst hrel
    obtain ⟨sml, hsl⟩ : ∃ x, sumI s.laid = x := ⟨_, rfl⟩
    obtain ⟨smc, hsc⟩ : ∃ x, sumI (clmF s) = x := ⟨_, rfl⟩
    have HSL := Lib.hid hsl
    have HSC := Lib.hid hsc
    have rsl : 0 ≤ sml ∧ sml ≤ 8000 := by rw [← hsl]; have h1 := HG.out.sum; have h2 := (HG.out.clm_sum HST.out.st).1; have h3 := sumI_nonneg HG.out.laid0; omega
    have rsc : 0 ≤ smc ∧ smc ≤ 8000 := by rw [← hsc]; have h2 := HG.out.clm_sum HST.out.st; have h3 := sumI_nonneg (fun x hx => (h2.2 x hx).1); omega
    clear hsl hsc
    have HCLM : Hid (∀ x, Below W0.heap.size W0 x → Calls Tryz.prog 66 #[.agg #[.int .i64 s.day, .slice (some ⟨g1, 0, none⟩) n c1, .slice (some ⟨g2, 0, none⟩) n c2, .int .i64 s.part, .bool s.fixed, .int .i64 s.stop, .bool s.heard, .slice (some ⟨g3, 0, none⟩) n c3, .bool s.ent]] x fun e w' => ∃ v, e = .returned v ∧ IntsT x.heap.size w' v (clmF s) ∧ Below x.heap.size x w') := by
      intro x fb
      have h := claims_calls m x n s g1 c1 g2 c2 g3 c3 (HST.out.st.below fb) HG.out
      unfold stW at h
      exact h
    have HD : Hid (Done m w W0 B n s g1 c1 g2 c2 g3 c3) := ⟨hbW.mono hmW, HST.out⟩
    obtain ⟨q0, hq0_⟩ : ∃ q, (decide (400 < a0)) = q := ⟨_, rfl⟩
    obtain ⟨e0, he0⟩ : ∃ e, whenE q0 1 = e := ⟨_, rfl⟩
    have H0 := Lib.hid he0
    obtain ⟨q1, hq1_⟩ : ∃ q, (!s.fixed) = q := ⟨_, rfl⟩
    obtain ⟨e1, he1⟩ : ∃ e, whenE q1 10 = e := ⟨_, rfl⟩
    have H1 := Lib.hid he1
    obtain ⟨e2, he2⟩ : ∃ e, whenE s.heard 6 = e := ⟨_, rfl⟩
    have H2 := Lib.hid he2
    obtain ⟨q3, hq3_⟩ : ∃ q, (sml != smc) = q := ⟨_, rfl⟩
    obtain ⟨e3, he3⟩ : ∃ e, whenE q3 8 = e := ⟨_, rfl⟩
    have H3 := Lib.hid he3
    obtain ⟨e, he⟩ : ∃ e, orFrom [e0, e1, e2, e3] 0 = e := ⟨_, rfl⟩
    have HEE := Lib.hid he
    have HKE : Hid (orFrom [whenE (decide (400 < a0)) 1, whenE (!s.fixed) 10, whenE (s.heard) 6, whenE (sml != smc) 8] 0 = e) := by show _ = _; rw [← he, ← he0, ← he1, ← he2, ← he3, hq0_, hq1_, hq3_]
    clear he he0 he1 he2 he3
    have HKK : Hid (kindE c s 4 [a0] = if e = 0 then askedF c [s.day] [a0] else e) := by
      show (if orFrom [whenE (decide (400 < a0)) 1, whenE (!s.fixed) 10, whenE s.heard 6, whenE (sumI s.laid != sumI (clmF s)) 8] 0 = 0 then askedF c [s.day] [a0] else orFrom [whenE (decide (400 < a0)) 1, whenE (!s.fixed) 10, whenE s.heard 6, whenE (sumI s.laid != sumI (clmF s)) 8] 0) = _
      rw [HSC.out, HSL.out, HKE.out]
    have hm := cells_errV
    unfold Value.cells at hm
    have HBC := Lib.hid hBC
    clear hBC
    go_wp2
    apply HearI_law W0 B n s g1 c1 g2 c2 g3 c3 lb lo cc a0 sml smc q0 q1 q3 e0 e1 e2 e3 e mixed (by kernel_rfl)
    case h0 =>
      unfold HearI
      refine ⟨_, _, _, _, _, _, _, _, _, _, _, _, _, _, _, _, _, _, _, _, _, _, _, _, _, _, _, _, _, _, _, _, _, rfl, by (repeat' (first | exact Below.refl _ _ | assumption | refine below_new ?_ _ | refine below_draw ?_ | refine below_tail (by assumption) ?_ | refine below_set ?_ (by first | omega | (simp <;> omega)) _)), ?_⟩
      simp only [Bool.false_eq_true, false_implies, and_self]
    case hstep =>
      intro d a x hI i hi hdi hed
      unfold HearI at hI
      obtain ⟨u15, u210, u211, u212, u213, u214, u215, u216, u217, u218, u219, u220, u221, u222, u223, u224, u225, u226, u227, u228, u229, u230, u231, u232, u233, u234, u235, u236, u237, u238, u239, u240, u241, ha_, hR⟩ := hI
      obtain ⟨fb, f0, f1, f2, f3, f4, f5, f6, f7, f8, f9, f10, f11, f12, f13, f14, f15, f16, f17, f18, f19, f20, f21, f22, f23, f24, f25, f26, f27, f28, f29, f30, f31, f32⟩ := hR
      subst ha_
      have hi' : i < 33 := hi
      clear hi
      rcases (show i = 0 ∨ i = 1 ∨ i = 2 ∨ i = 3 ∨ i = 4 ∨ i = 5 ∨ i = 6 ∨ i = 7 ∨ i = 8 ∨ i = 9 ∨ i = 10 ∨ i = 11 ∨ i = 12 ∨ i = 13 ∨ i = 14 ∨ i = 15 ∨ i = 16 ∨ i = 17 ∨ i = 18 ∨ i = 19 ∨ i = 20 ∨ i = 21 ∨ i = 22 ∨ i = 23 ∨ i = 24 ∨ i = 25 ∨ i = 26 ∨ i = 27 ∨ i = 28 ∨ i = 29 ∨ i = 30 ∨ i = 31 ∨ i = 32 by omega) with rfl | rfl | rfl | rfl | rfl | rfl | rfl | rfl | rfl | rfl | rfl | rfl | rfl | rfl | rfl | rfl | rfl | rfl | rfl | rfl | rfl | rfl | rfl | rfl | rfl | rfl | rfl | rfl | rfl | rfl | rfl | rfl | rfl
      · have he := hed _ rfl
        simp only [Region.binds] at he
        try simp at he
        clear hed hdi
        refine wpOp_step rfl (fun K hK => ?_)
        go_simp
        (try (refine hK _ _ ?_; clear hK K))
        unfold HearI
        refine ⟨_, _, _, _, _, _, _, _, _, _, _, _, _, _, _, _, _, _, _, _, _, _, _, _, _, _, _, _, _, _, _, _, _, rfl, ?_⟩
        simp only [Nat.reduceBEq, Bool.false_or, Bool.true_or, beq_self_eq_true, forall_const]
        exact ⟨fb, (by first | rfl | trivial), f1, f2, f3, f4, f5, f6, f7, f8, f9, f10, f11, f12, f13, f14, f15, f16, f17, f18, f19, f20, f21, f22, f23, f24, f25, f26, f27, f28, f29, f30, f31, f32⟩
      · have he := hed _ rfl
        simp only [Region.binds] at he
        try simp at he
        clear hed hdi
        refine wpOp_step rfl (fun K hK => ?_)
        have g0 := f0 (he)
        subst g0
        go_simp
        (try (refine hK _ _ ?_; clear hK K))
        unfold HearI
        refine ⟨_, _, _, _, _, _, _, _, _, _, _, _, _, _, _, _, _, _, _, _, _, _, _, _, _, _, _, _, _, _, _, _, _, rfl, ?_⟩
        simp only [Nat.reduceBEq, Bool.false_or, Bool.true_or, beq_self_eq_true, forall_const]
        exact ⟨fb, (by first | exact f0 | (intros; trivial) | (intros; rfl)), (by first | rfl | trivial), f2, f3, f4, f5, f6, f7, f8, f9, f10, f11, f12, f13, f14, f15, f16, f17, f18, f19, f20, f21, f22, f23, f24, f25, f26, f27, f28, f29, f30, f31, f32⟩
      · have he := hed _ rfl
        simp only [Region.binds] at he
        try simp at he
        clear hed hdi
        refine wpOp_step rfl (fun K hK => ?_)
        have g1 := f1 (he)
        subst g1
        have qc := (fb.cell (p := ⟨lb, lo, none⟩) hlb0).trans y0
        go_simp
        (try (refine hK _ _ ?_; clear hK K))
        unfold HearI
        refine ⟨_, _, _, _, _, _, _, _, _, _, _, _, _, _, _, _, _, _, _, _, _, _, _, _, _, _, _, _, _, _, _, _, _, rfl, ?_⟩
        simp only [Nat.reduceBEq, Bool.false_or, Bool.true_or, beq_self_eq_true, forall_const]
        exact ⟨fb, f0, (by first | exact f1 | (intros; trivial) | (intros; rfl)), (by first | rfl | trivial), f3, f4, f5, f6, f7, f8, f9, f10, f11, f12, f13, f14, f15, f16, f17, f18, f19, f20, f21, f22, f23, f24, f25, f26, f27, f28, f29, f30, f31, f32⟩
      · have he := hed _ rfl
        simp only [Region.binds] at he
        try simp at he
        clear hed hdi
        refine wpOp_step rfl (fun K hK => ?_)
        have g2 := f2 (he)
        subst g2
        go_simp
        (try (refine hK _ _ ?_; clear hK K))
        unfold HearI
        refine ⟨_, _, _, _, _, _, _, _, _, _, _, _, _, _, _, _, _, _, _, _, _, _, _, _, _, _, _, _, _, _, _, _, _, rfl, ?_⟩
        simp only [Nat.reduceBEq, Bool.false_or, Bool.true_or, beq_self_eq_true, forall_const]
        exact ⟨fb, f0, f1, (by first | exact f2 | (intros; trivial) | (intros; rfl)), (by first | rfl | trivial), f4, f5, f6, f7, f8, f9, f10, f11, f12, f13, f14, f15, f16, f17, f18, f19, f20, f21, f22, f23, f24, f25, f26, f27, f28, f29, f30, f31, f32⟩
      · have he := hed _ rfl
        simp only [Region.binds] at he
        try simp at he
        clear hed hdi
        refine wpOp_step rfl (fun K hK => ?_)
        have g3 := f3 (he)
        subst g3
        go_wp2_with (go_at_call 97; (with_reducible refine (when_is (by decide) H0.out).use ?_))
        (try (refine hK _ _ ?_; clear hK K))
        unfold HearI
        refine ⟨_, _, _, _, _, _, _, _, _, _, _, _, _, _, _, _, _, _, _, _, _, _, _, _, _, _, _, _, _, _, _, _, _, rfl, ?_⟩
        simp only [Nat.reduceBEq, Bool.false_or, Bool.true_or, beq_self_eq_true, forall_const]
        exact ⟨fb, f0, f1, f2, (by first | exact f3 | (intros; trivial) | (intros; rfl)), (by first | rfl | trivial), f5, f6, f7, f8, f9, f10, f11, f12, f13, f14, f15, f16, f17, f18, f19, f20, f21, f22, f23, f24, f25, f26, f27, f28, f29, f30, f31, f32⟩
      · have he := hed _ rfl
        simp only [Region.binds] at he
        try simp at he
        clear hed hdi
        refine wpOp_step rfl (fun K hK => ?_)
        go_simp
        (try (refine hK _ _ ?_; clear hK K))
        unfold HearI
        refine ⟨_, _, _, _, _, _, _, _, _, _, _, _, _, _, _, _, _, _, _, _, _, _, _, _, _, _, _, _, _, _, _, _, _, rfl, ?_⟩
        simp only [Nat.reduceBEq, Bool.false_or, Bool.true_or, beq_self_eq_true, forall_const]
        exact ⟨fb, f0, f1, f2, f3, f4, (by first | rfl | trivial), f6, f7, f8, f9, f10, f11, f12, f13, f14, f15, f16, f17, f18, f19, f20, f21, f22, f23, f24, f25, f26, f27, f28, f29, f30, f31, f32⟩
      · have he := hed _ rfl
        simp only [Region.binds] at he
        try simp at he
        clear hed hdi
        refine wpOp_step rfl (fun K hK => ?_)
        have g5 := f5 (he)
        subst g5
        go_simp
        (try (refine hK _ _ ?_; clear hK K))
        unfold HearI
        refine ⟨_, _, _, _, _, _, _, _, _, _, _, _, _, _, _, _, _, _, _, _, _, _, _, _, _, _, _, _, _, _, _, _, _, rfl, ?_⟩
        simp only [Nat.reduceBEq, Bool.false_or, Bool.true_or, beq_self_eq_true, forall_const]
        exact ⟨fb, f0, f1, f2, f3, f4, (by first | exact f5 | (intros; trivial) | (intros; rfl)), (by first | rfl | trivial), f7, f8, f9, f10, f11, f12, f13, f14, f15, f16, f17, f18, f19, f20, f21, f22, f23, f24, f25, f26, f27, f28, f29, f30, f31, f32⟩
      · have he := hed _ rfl
        simp only [Region.binds] at he
        try simp at he
        clear hed hdi
        refine wpOp_step rfl (fun K hK => ?_)
        have g6 := f6 (he)
        subst g6
        go_simp
        (try (refine hK _ _ ?_; clear hK K))
        unfold HearI
        refine ⟨_, _, _, _, _, _, _, _, _, _, _, _, _, _, _, _, _, _, _, _, _, _, _, _, _, _, _, _, _, _, _, _, _, rfl, ?_⟩
        simp only [Nat.reduceBEq, Bool.false_or, Bool.true_or, beq_self_eq_true, forall_const]
        exact ⟨fb, f0, f1, f2, f3, f4, f5, (by first | exact f6 | (intros; trivial) | (intros; rfl)), (by first | rfl | trivial), f8, f9, f10, f11, f12, f13, f14, f15, f16, f17, f18, f19, f20, f21, f22, f23, f24, f25, f26, f27, f28, f29, f30, f31, f32⟩
      · have he := hed _ rfl
        simp only [Region.binds] at he
        try simp at he
        clear hed hdi
        refine wpOp_step rfl (fun K hK => ?_)
        have g7 := f7 (he)
        subst g7
        go_simp
        (try (refine hK _ _ ?_; clear hK K))
        unfold HearI
        refine ⟨_, _, _, _, _, _, _, _, _, _, _, _, _, _, _, _, _, _, _, _, _, _, _, _, _, _, _, _, _, _, _, _, _, rfl, ?_⟩
        simp only [Nat.reduceBEq, Bool.false_or, Bool.true_or, beq_self_eq_true, forall_const]
        exact ⟨fb, f0, f1, f2, f3, f4, f5, f6, (by first | exact f7 | (intros; trivial) | (intros; rfl)), (by first | rfl | trivial), f9, f10, f11, f12, f13, f14, f15, f16, f17, f18, f19, f20, f21, f22, f23, f24, f25, f26, f27, f28, f29, f30, f31, f32⟩
      · have he := hed _ rfl
        simp only [Region.binds] at he
        try simp at he
        clear hed hdi
        refine wpOp_step rfl (fun K hK => ?_)
        have g8 := f8 (he)
        subst g8
        have qc := (fb.cell (p := ⟨B, 4, none⟩) hBl0).trans b4
        go_simp
        (try (refine hK _ _ ?_; clear hK K))
        unfold HearI
        refine ⟨_, _, _, _, _, _, _, _, _, _, _, _, _, _, _, _, _, _, _, _, _, _, _, _, _, _, _, _, _, _, _, _, _, rfl, ?_⟩
        simp only [Nat.reduceBEq, Bool.false_or, Bool.true_or, beq_self_eq_true, forall_const]
        exact ⟨fb, f0, f1, f2, f3, f4, f5, f6, f7, (by first | exact f8 | (intros; trivial) | (intros; rfl)), (by first | rfl | trivial), f10, f11, f12, f13, f14, f15, f16, f17, f18, f19, f20, f21, f22, f23, f24, f25, f26, f27, f28, f29, f30, f31, f32⟩
      · have he := hed _ rfl
        simp only [Region.binds] at he
        try simp at he
        clear hed hdi
        refine wpOp_step rfl (fun K hK => ?_)
        have g9 := f9 (he)
        subst g9
        go_simp
        (try (refine hK _ _ ?_; clear hK K))
        unfold HearI
        refine ⟨_, _, _, _, _, _, _, _, _, _, _, _, _, _, _, _, _, _, _, _, _, _, _, _, _, _, _, _, _, _, _, _, _, rfl, ?_⟩
        simp only [Nat.reduceBEq, Bool.false_or, Bool.true_or, beq_self_eq_true, forall_const]
        exact ⟨fb, f0, f1, f2, f3, f4, f5, f6, f7, f8, (by first | exact f9 | (intros; trivial) | (intros; rfl)), (by first | rfl | trivial), f11, f12, f13, f14, f15, f16, f17, f18, f19, f20, f21, f22, f23, f24, f25, f26, f27, f28, f29, f30, f31, f32⟩
      · have he := hed _ rfl
        simp only [Region.binds] at he
        try simp at he
        clear hed hdi
        refine wpOp_step rfl (fun K hK => ?_)
        have g10 := f10 (he.1)
        subst g10
        go_wp2_with (go_at_call 97; (with_reducible refine (when_is (by decide) H1.out).use ?_))
        (try (refine hK _ _ ?_; clear hK K))
        unfold HearI
        refine ⟨_, _, _, _, _, _, _, _, _, _, _, _, _, _, _, _, _, _, _, _, _, _, _, _, _, _, _, _, _, _, _, _, _, rfl, ?_⟩
        simp only [Nat.reduceBEq, Bool.false_or, Bool.true_or, beq_self_eq_true, forall_const]
        exact ⟨fb, f0, f1, f2, f3, (by first | exact f4 | (intros; trivial) | (intros; rfl)), f5, f6, f7, f8, f9, (by first | exact f10 | (intros; trivial) | (intros; rfl)), (by first | rfl | trivial), f12, f13, f14, f15, f16, f17, f18, f19, f20, f21, f22, f23, f24, f25, f26, f27, f28, f29, f30, f31, f32⟩
      · have he := hed _ rfl
        simp only [Region.binds] at he
        try simp at he
        clear hed hdi
        refine wpOp_step rfl (fun K hK => ?_)
        go_simp
        (try (refine hK _ _ ?_; clear hK K))
        unfold HearI
        refine ⟨_, _, _, _, _, _, _, _, _, _, _, _, _, _, _, _, _, _, _, _, _, _, _, _, _, _, _, _, _, _, _, _, _, rfl, ?_⟩
        simp only [Nat.reduceBEq, Bool.false_or, Bool.true_or, beq_self_eq_true, forall_const]
        exact ⟨fb, f0, f1, f2, f3, f4, f5, f6, f7, f8, f9, f10, f11, (by first | rfl | trivial), f13, f14, f15, f16, f17, f18, f19, f20, f21, f22, f23, f24, f25, f26, f27, f28, f29, f30, f31, f32⟩
      · have he := hed _ rfl
        simp only [Region.binds] at he
        try simp at he
        clear hed hdi
        refine wpOp_step rfl (fun K hK => ?_)
        have g12 := f12 (he)
        subst g12
        go_simp
        (try (refine hK _ _ ?_; clear hK K))
        unfold HearI
        refine ⟨_, _, _, _, _, _, _, _, _, _, _, _, _, _, _, _, _, _, _, _, _, _, _, _, _, _, _, _, _, _, _, _, _, rfl, ?_⟩
        simp only [Nat.reduceBEq, Bool.false_or, Bool.true_or, beq_self_eq_true, forall_const]
        exact ⟨fb, f0, f1, f2, f3, f4, f5, f6, f7, f8, f9, f10, f11, (by first | exact f12 | (intros; trivial) | (intros; rfl)), (by first | rfl | trivial), f14, f15, f16, f17, f18, f19, f20, f21, f22, f23, f24, f25, f26, f27, f28, f29, f30, f31, f32⟩
      · have he := hed _ rfl
        simp only [Region.binds] at he
        try simp at he
        clear hed hdi
        refine wpOp_step rfl (fun K hK => ?_)
        have g13 := f13 (he)
        subst g13
        go_simp
        (try (refine hK _ _ ?_; clear hK K))
        unfold HearI
        refine ⟨_, _, _, _, _, _, _, _, _, _, _, _, _, _, _, _, _, _, _, _, _, _, _, _, _, _, _, _, _, _, _, _, _, rfl, ?_⟩
        simp only [Nat.reduceBEq, Bool.false_or, Bool.true_or, beq_self_eq_true, forall_const]
        exact ⟨fb, f0, f1, f2, f3, f4, f5, f6, f7, f8, f9, f10, f11, f12, (by first | exact f13 | (intros; trivial) | (intros; rfl)), (by first | rfl | trivial), f15, f16, f17, f18, f19, f20, f21, f22, f23, f24, f25, f26, f27, f28, f29, f30, f31, f32⟩
      · have he := hed _ rfl
        simp only [Region.binds] at he
        try simp at he
        clear hed hdi
        refine wpOp_step rfl (fun K hK => ?_)
        have g14 := f14 (he)
        subst g14
        go_simp
        (try (refine hK _ _ ?_; clear hK K))
        unfold HearI
        refine ⟨_, _, _, _, _, _, _, _, _, _, _, _, _, _, _, _, _, _, _, _, _, _, _, _, _, _, _, _, _, _, _, _, _, rfl, ?_⟩
        simp only [Nat.reduceBEq, Bool.false_or, Bool.true_or, beq_self_eq_true, forall_const]
        exact ⟨fb, f0, f1, f2, f3, f4, f5, f6, f7, f8, f9, f10, f11, f12, f13, (by first | exact f14 | (intros; trivial) | (intros; rfl)), (by first | rfl | trivial), f16, f17, f18, f19, f20, f21, f22, f23, f24, f25, f26, f27, f28, f29, f30, f31, f32⟩
      · have he := hed _ rfl
        simp only [Region.binds] at he
        try simp at he
        clear hed hdi
        refine wpOp_step rfl (fun K hK => ?_)
        have g15 := f15 (he)
        subst g15
        have qc := (fb.cell (p := ⟨B, 6, none⟩) hBl0).trans b6
        go_simp
        (try (refine hK _ _ ?_; clear hK K))
        unfold HearI
        refine ⟨_, _, _, _, _, _, _, _, _, _, _, _, _, _, _, _, _, _, _, _, _, _, _, _, _, _, _, _, _, _, _, _, _, rfl, ?_⟩
        simp only [Nat.reduceBEq, Bool.false_or, Bool.true_or, beq_self_eq_true, forall_const]
        exact ⟨fb, f0, f1, f2, f3, f4, f5, f6, f7, f8, f9, f10, f11, f12, f13, f14, (by first | exact f15 | (intros; trivial) | (intros; rfl)), (by first | rfl | trivial), f17, f18, f19, f20, f21, f22, f23, f24, f25, f26, f27, f28, f29, f30, f31, f32⟩
      · have he := hed _ rfl
        simp only [Region.binds] at he
        try simp at he
        clear hed hdi
        refine wpOp_step rfl (fun K hK => ?_)
        have g16 := f16 (he.1)
        subst g16
        go_wp2_with (go_at_call 97; (with_reducible refine (when_is (by decide) H2.out).use ?_))
        (try (refine hK _ _ ?_; clear hK K))
        unfold HearI
        refine ⟨_, _, _, _, _, _, _, _, _, _, _, _, _, _, _, _, _, _, _, _, _, _, _, _, _, _, _, _, _, _, _, _, _, rfl, ?_⟩
        simp only [Nat.reduceBEq, Bool.false_or, Bool.true_or, beq_self_eq_true, forall_const]
        exact ⟨fb, f0, f1, f2, f3, f4, f5, f6, f7, f8, f9, f10, (by first | exact f11 | (intros; trivial) | (intros; rfl)), f12, f13, f14, f15, (by first | exact f16 | (intros; trivial) | (intros; rfl)), (by first | rfl | trivial), f18, f19, f20, f21, f22, f23, f24, f25, f26, f27, f28, f29, f30, f31, f32⟩
      · have he := hed _ rfl
        simp only [Region.binds] at he
        try simp at he
        clear hed hdi
        refine wpOp_step rfl (fun K hK => ?_)
        go_simp
        (try (refine hK _ _ ?_; clear hK K))
        unfold HearI
        refine ⟨_, _, _, _, _, _, _, _, _, _, _, _, _, _, _, _, _, _, _, _, _, _, _, _, _, _, _, _, _, _, _, _, _, rfl, ?_⟩
        simp only [Nat.reduceBEq, Bool.false_or, Bool.true_or, beq_self_eq_true, forall_const]
        exact ⟨fb, f0, f1, f2, f3, f4, f5, f6, f7, f8, f9, f10, f11, f12, f13, f14, f15, f16, f17, (by first | rfl | trivial), f19, f20, f21, f22, f23, f24, f25, f26, f27, f28, f29, f30, f31, f32⟩
      · have he := hed _ rfl
        simp only [Region.binds] at he
        try simp at he
        clear hed hdi
        refine wpOp_step rfl (fun K hK => ?_)
        have g18 := f18 (he)
        subst g18
        go_simp
        (try (refine hK _ _ ?_; clear hK K))
        unfold HearI
        refine ⟨_, _, _, _, _, _, _, _, _, _, _, _, _, _, _, _, _, _, _, _, _, _, _, _, _, _, _, _, _, _, _, _, _, rfl, ?_⟩
        simp only [Nat.reduceBEq, Bool.false_or, Bool.true_or, beq_self_eq_true, forall_const]
        exact ⟨fb, f0, f1, f2, f3, f4, f5, f6, f7, f8, f9, f10, f11, f12, f13, f14, f15, f16, f17, (by first | exact f18 | (intros; trivial) | (intros; rfl)), (by first | rfl | trivial), f20, f21, f22, f23, f24, f25, f26, f27, f28, f29, f30, f31, f32⟩
      · have he := hed _ rfl
        simp only [Region.binds] at he
        try simp at he
        clear hed hdi
        refine wpOp_step rfl (fun K hK => ?_)
        have g19 := f19 (he)
        subst g19
        go_simp
        (try (refine hK _ _ ?_; clear hK K))
        unfold HearI
        refine ⟨_, _, _, _, _, _, _, _, _, _, _, _, _, _, _, _, _, _, _, _, _, _, _, _, _, _, _, _, _, _, _, _, _, rfl, ?_⟩
        simp only [Nat.reduceBEq, Bool.false_or, Bool.true_or, beq_self_eq_true, forall_const]
        exact ⟨fb, f0, f1, f2, f3, f4, f5, f6, f7, f8, f9, f10, f11, f12, f13, f14, f15, f16, f17, f18, (by first | exact f19 | (intros; trivial) | (intros; rfl)), (by first | rfl | trivial), f21, f22, f23, f24, f25, f26, f27, f28, f29, f30, f31, f32⟩
      · have he := hed _ rfl
        simp only [Region.binds] at he
        try simp at he
        clear hed hdi
        refine wpOp_step rfl (fun K hK => ?_)
        have g20 := f20 (he)
        subst g20
        have qc := (fb.cell (p := ⟨B, 2, none⟩) hBl0).trans b2
        go_simp
        (try (refine hK _ _ ?_; clear hK K))
        unfold HearI
        refine ⟨_, _, _, _, _, _, _, _, _, _, _, _, _, _, _, _, _, _, _, _, _, _, _, _, _, _, _, _, _, _, _, _, _, rfl, ?_⟩
        simp only [Nat.reduceBEq, Bool.false_or, Bool.true_or, beq_self_eq_true, forall_const]
        exact ⟨fb, f0, f1, f2, f3, f4, f5, f6, f7, f8, f9, f10, f11, f12, f13, f14, f15, f16, f17, f18, f19, (by first | exact f20 | (intros; trivial) | (intros; rfl)), (by first | rfl | trivial), f22, f23, f24, f25, f26, f27, f28, f29, f30, f31, f32⟩
      · have he := hed _ rfl
        simp only [Region.binds] at he
        try simp at he
        clear hed hdi
        refine wpOp_step rfl (fun K hK => ?_)
        have g21 := f21 (he.1)
        subst g21
        go_wp2_with (go_at_call 72; (with_reducible refine (total_is (HST.out.st.laid.below fb) (HG.out.laid_few HST.out.st).1 HSL.out).use ?_))
        (try (refine hK _ _ ?_; clear hK K))
        unfold HearI
        refine ⟨_, _, _, _, _, _, _, _, _, _, _, _, _, _, _, _, _, _, _, _, _, _, _, _, _, _, _, _, _, _, _, _, _, rfl, ?_⟩
        simp only [Nat.reduceBEq, Bool.false_or, Bool.true_or, beq_self_eq_true, forall_const]
        exact ⟨fb, f0, f1, f2, f3, f4, f5, f6, f7, f8, f9, f10, f11, f12, f13, f14, f15, f16, (by first | exact f17 | (intros; trivial) | (intros; rfl)), f18, f19, f20, (by first | exact f21 | (intros; trivial) | (intros; rfl)), (by first | rfl | trivial), f23, f24, f25, f26, f27, f28, f29, f30, f31, f32⟩
      · have he := hed _ rfl
        simp only [Region.binds] at he
        try simp at he
        clear hed hdi
        refine wpOp_step rfl (fun K hK => ?_)
        go_simp
        (try (refine hK _ _ ?_; clear hK K))
        unfold HearI
        refine ⟨_, _, _, _, _, _, _, _, _, _, _, _, _, _, _, _, _, _, _, _, _, _, _, _, _, _, _, _, _, _, _, _, _, rfl, ?_⟩
        simp only [Nat.reduceBEq, Bool.false_or, Bool.true_or, beq_self_eq_true, forall_const]
        exact ⟨fb, f0, f1, f2, f3, f4, f5, f6, f7, f8, f9, f10, f11, f12, f13, f14, f15, f16, f17, f18, f19, f20, f21, f22, (by first | rfl | trivial), f24, f25, f26, f27, f28, f29, f30, f31, f32⟩
      · have he := hed _ rfl
        simp only [Region.binds] at he
        try simp at he
        clear hed hdi
        refine wpOp_step rfl (fun K hK => ?_)
        have g23 := f23 (he)
        subst g23
        go_simp
        (try (refine hK _ _ ?_; clear hK K))
        unfold HearI
        refine ⟨_, _, _, _, _, _, _, _, _, _, _, _, _, _, _, _, _, _, _, _, _, _, _, _, _, _, _, _, _, _, _, _, _, rfl, ?_⟩
        simp only [Nat.reduceBEq, Bool.false_or, Bool.true_or, beq_self_eq_true, forall_const]
        exact ⟨fb, f0, f1, f2, f3, f4, f5, f6, f7, f8, f9, f10, f11, f12, f13, f14, f15, f16, f17, f18, f19, f20, f21, f22, (by first | exact f23 | (intros; trivial) | (intros; rfl)), (by first | rfl | trivial), f25, f26, f27, f28, f29, f30, f31, f32⟩
      · have he := hed _ rfl
        simp only [Region.binds] at he
        try simp at he
        clear hed hdi
        refine wpOp_step rfl (fun K hK => ?_)
        have g24 := f24 (he)
        subst g24
        have k0_ := (fb.cell (p := ⟨B, 0, none⟩) hBl0).trans b0
        have k1_ := (fb.cell (p := ⟨B, 1, none⟩) hBl0).trans b1
        have k2_ := (fb.cell (p := ⟨B, 2, none⟩) hBl0).trans b2
        have k3_ := (fb.cell (p := ⟨B, 3, none⟩) hBl0).trans b3
        have k4_ := (fb.cell (p := ⟨B, 4, none⟩) hBl0).trans b4
        have k5_ := (fb.cell (p := ⟨B, 5, none⟩) hBl0).trans b5
        have k6_ := (fb.cell (p := ⟨B, 6, none⟩) hBl0).trans b6
        have k7_ := (fb.cell (p := ⟨B, 7, none⟩) hBl0).trans b7
        have k8_ := (fb.cell (p := ⟨B, 8, none⟩) hBl0).trans b8
        go_simp
        (try (refine hK _ _ ?_; clear hK K))
        unfold HearI
        refine ⟨_, _, _, _, _, _, _, _, _, _, _, _, _, _, _, _, _, _, _, _, _, _, _, _, _, _, _, _, _, _, _, _, _, rfl, ?_⟩
        simp only [Nat.reduceBEq, Bool.false_or, Bool.true_or, beq_self_eq_true, forall_const]
        exact ⟨fb, f0, f1, f2, f3, f4, f5, f6, f7, f8, f9, f10, f11, f12, f13, f14, f15, f16, f17, f18, f19, f20, f21, f22, f23, (by first | exact f24 | (intros; trivial) | (intros; rfl)), (by first | rfl | trivial), f26, f27, f28, f29, f30, f31, f32⟩
      · have he := hed _ rfl
        simp only [Region.binds] at he
        try simp at he
        clear hed hdi
        refine wpOp_step rfl (fun K hK => ?_)
        have g25 := f25 (he.1)
        subst g25
        go_wp2_with (go_at_call 66; (refine (HCLM.out _ fb).mono ?_); rintro e6 x6 ⟨v6, rfl, HI6, hb6⟩)
        (try (refine hK _ _ ?_; clear hK K))
        unfold HearI
        refine ⟨_, _, _, _, _, _, _, _, _, _, _, _, _, _, _, _, _, _, _, _, _, _, _, _, _, _, _, _, _, _, _, _, _, rfl, ?_⟩
        simp only [Nat.reduceBEq, Bool.false_or, Bool.true_or, beq_self_eq_true, forall_const]
        exact ⟨fb.trans (hb6.mono fb.size), f0, f1, f2, f3, f4, f5, f6, f7, f8, f9, f10, f11, f12, f13, f14, f15, f16, f17, f18, f19, f20, f21, (by first | exact f22 | (intros; trivial) | (intros; rfl)), f23, f24, (by first | exact f25 | (intros; trivial) | (intros; rfl)), HI6.1, f27, f28, f29, (fun h => (f30 h).below hb6), f31, f32⟩
      · have he := hed _ rfl
        simp only [Region.binds] at he
        try simp at he
        clear hed hdi
        refine wpOp_step rfl (fun K hK => ?_)
        have g26 := f26 (he)
        go_wp2_with (go_at_call 72; (with_reducible refine (total_is g26 (HG.out.clm_few HST.out.st) HSC.out).use ?_))
        (try (refine hK _ _ ?_; clear hK K))
        unfold HearI
        refine ⟨_, _, _, _, _, _, _, _, _, _, _, _, _, _, _, _, _, _, _, _, _, _, _, _, _, _, _, _, _, _, _, _, _, rfl, ?_⟩
        simp only [Nat.reduceBEq, Bool.false_or, Bool.true_or, beq_self_eq_true, forall_const]
        exact ⟨fb, f0, f1, f2, f3, f4, f5, f6, f7, f8, f9, f10, f11, f12, f13, f14, f15, f16, f17, f18, f19, f20, f21, f22, f23, f24, f25, (by first | exact f26 | (intros; trivial) | (intros; rfl)), (by first | rfl | trivial), f28, f29, f30, f31, f32⟩
      · have he := hed _ rfl
        simp only [Region.binds] at he
        try simp at he
        clear hed hdi
        refine wpOp_step rfl (fun K hK => ?_)
        have g22 := f22 (he.1)
        subst g22
        have g27 := f27 (he.2)
        subst g27
        go_simp
        (try (refine hK _ _ ?_; clear hK K))
        unfold HearI
        refine ⟨_, _, _, _, _, _, _, _, _, _, _, _, _, _, _, _, _, _, _, _, _, _, _, _, _, _, _, _, _, _, _, _, _, rfl, ?_⟩
        simp only [Nat.reduceBEq, Bool.false_or, Bool.true_or, beq_self_eq_true, forall_const]
        exact ⟨fb, f0, f1, f2, f3, f4, f5, f6, f7, f8, f9, f10, f11, f12, f13, f14, f15, f16, f17, f18, f19, f20, f21, (by first | exact f22 | (intros; trivial) | (intros; rfl)), f23, f24, f25, f26, (by first | exact f27 | (intros; trivial) | (intros; rfl)), (by first | rfl | trivial), f29, f30, f31, f32⟩
      · have he := hed _ rfl
        simp only [Region.binds] at he
        try simp at he
        clear hed hdi
        refine wpOp_step rfl (fun K hK => ?_)
        have g28 := f28 (he.1)
        subst g28
        go_wp2_with (go_at_call 97; (with_reducible refine (when_is (by decide) H3.out).use ?_))
        (try (refine hK _ _ ?_; clear hK K))
        unfold HearI
        refine ⟨_, _, _, _, _, _, _, _, _, _, _, _, _, _, _, _, _, _, _, _, _, _, _, _, _, _, _, _, _, _, _, _, _, rfl, ?_⟩
        simp only [Nat.reduceBEq, Bool.false_or, Bool.true_or, beq_self_eq_true, forall_const]
        exact ⟨fb, f0, f1, f2, f3, f4, f5, f6, f7, f8, f9, f10, f11, f12, f13, f14, f15, f16, f17, f18, f19, f20, f21, f22, f23, f24, f25, f26, (by first | exact f27 | (intros; trivial) | (intros; rfl)), (by first | exact f28 | (intros; trivial) | (intros; rfl)), (by first | rfl | trivial), f30, f31, f32⟩
      · have he := hed _ rfl
        simp only [Region.binds] at he
        try simp at he
        clear hed hdi
        refine wpOp_step rfl (fun K hK => ?_)
        have g4 := f4 (he.1)
        subst g4
        have g11 := f11 (he.2.1)
        subst g11
        have g17 := f17 (he.2.2.1)
        subst g17
        have g29 := f29 (he.2.2.2)
        subst g29
        go_simp
        (try (refine hK _ _ ?_; clear hK K))
        unfold HearI
        refine ⟨_, _, _, _, _, _, _, _, _, _, _, _, _, _, _, _, _, _, _, _, _, _, _, _, _, _, _, _, _, _, _, _, _, rfl, ?_⟩
        simp only [Nat.reduceBEq, Bool.false_or, Bool.true_or, beq_self_eq_true, forall_const]
        exact ⟨by (repeat' (first | exact Below.refl _ _ | assumption | refine below_new ?_ _ | refine below_draw ?_ | refine below_tail (by assumption) ?_ | refine below_set ?_ (by first | omega | (simp <;> omega)) _)), f0, f1, f2, f3, (by first | exact f4 | (intros; trivial) | (intros; rfl)), f5, f6, f7, f8, f9, f10, (by first | exact f11 | (intros; trivial) | (intros; rfl)), f12, f13, f14, f15, f16, (by first | exact f17 | (intros; trivial) | (intros; rfl)), f18, f19, f20, f21, f22, f23, f24, f25, (fun h => (f26 h).below (by (repeat' (first | exact Below.refl _ _ | assumption | refine below_new ?_ _ | refine below_draw ?_ | refine below_tail (by assumption) ?_ | refine below_set ?_ (by first | omega | (simp <;> omega)) _)))), f27, f28, (by first | exact f29 | (intros; trivial) | (intros; rfl)), errs4 rfl, f31, f32⟩
      · have he := hed _ rfl
        simp only [Region.binds] at he
        try simp at he
        clear hed hdi
        refine wpOp_step rfl (fun K hK => ?_)
        have g30 := f30 (he.1)
        go_wp2_with (go_at_call 96; (with_reducible refine (first_is g30 HEE.out).use ?_))
        (try (refine hK _ _ ?_; clear hK K))
        unfold HearI
        refine ⟨_, _, _, _, _, _, _, _, _, _, _, _, _, _, _, _, _, _, _, _, _, _, _, _, _, _, _, _, _, _, _, _, _, rfl, ?_⟩
        simp only [Nat.reduceBEq, Bool.false_or, Bool.true_or, beq_self_eq_true, forall_const]
        exact ⟨fb, f0, f1, f2, f3, f4, f5, f6, f7, f8, f9, f10, f11, f12, f13, f14, f15, f16, f17, f18, f19, f20, f21, f22, f23, f24, f25, f26, f27, f28, (by first | exact f29 | (intros; trivial) | (intros; rfl)), (by first | exact f30 | (intros; trivial) | (intros; rfl)), (by first | rfl | trivial), f32⟩
      · have he := hed _ rfl
        simp only [Region.binds] at he
        try simp at he
        clear hed hdi
        refine wpOp_step rfl (fun K hK => ?_)
        have g31 := f31 (he.1)
        subst g31
        go_simp
        (try (refine hK _ _ ?_; clear hK K))
        unfold HearI
        refine ⟨_, _, _, _, _, _, _, _, _, _, _, _, _, _, _, _, _, _, _, _, _, _, _, _, _, _, _, _, _, _, _, _, _, rfl, ?_⟩
        simp only [Nat.reduceBEq, Bool.false_or, Bool.true_or, beq_self_eq_true, forall_const]
        exact ⟨fb, (by first | exact f0 | (intros; trivial) | (intros; rfl)), (by first | exact f1 | (intros; trivial) | (intros; rfl)), (by first | exact f2 | (intros; trivial) | (intros; rfl)), (by first | exact f3 | (intros; trivial) | (intros; rfl)), (by first | exact f4 | (intros; trivial) | (intros; rfl)), (by first | exact f5 | (intros; trivial) | (intros; rfl)), (by first | exact f6 | (intros; trivial) | (intros; rfl)), (by first | exact f7 | (intros; trivial) | (intros; rfl)), (by first | exact f8 | (intros; trivial) | (intros; rfl)), (by first | exact f9 | (intros; trivial) | (intros; rfl)), (by first | exact f10 | (intros; trivial) | (intros; rfl)), (by first | exact f11 | (intros; trivial) | (intros; rfl)), (by first | exact f12 | (intros; trivial) | (intros; rfl)), (by first | exact f13 | (intros; trivial) | (intros; rfl)), (by first | exact f14 | (intros; trivial) | (intros; rfl)), (by first | exact f15 | (intros; trivial) | (intros; rfl)), (by first | exact f16 | (intros; trivial) | (intros; rfl)), (by first | exact f17 | (intros; trivial) | (intros; rfl)), (by first | exact f18 | (intros; trivial) | (intros; rfl)), (by first | exact f19 | (intros; trivial) | (intros; rfl)), (by first | exact f20 | (intros; trivial) | (intros; rfl)), (by first | exact f21 | (intros; trivial) | (intros; rfl)), (by first | exact f22 | (intros; trivial) | (intros; rfl)), (by first | exact f23 | (intros; trivial) | (intros; rfl)), (by first | exact f24 | (intros; trivial) | (intros; rfl)), (by first | exact f25 | (intros; trivial) | (intros; rfl)), (by first | exact f26 | (intros; trivial) | (intros; rfl)), (by first | exact f27 | (intros; trivial) | (intros; rfl)), (by first | exact f28 | (intros; trivial) | (intros; rfl)), (by first | exact f29 | (intros; trivial) | (intros; rfl)), (by first | exact f30 | (intros; trivial) | (intros; rfl)), (by first | exact f31 | (intros; trivial) | (intros; rfl)), (by first | rfl | trivial)⟩
    case hend =>
      intro d a x hI hall
      unfold HearI at hI
      obtain ⟨u15, u210, u211, u212, u213, u214, u215, u216, u217, u218, u219, u220, u221, u222, u223, u224, u225, u226, u227, u228, u229, u230, u231, u232, u233, u234, u235, u236, u237, u238, u239, u240, u241, ha_, hR⟩ := hI
      obtain ⟨fb, f0, f1, f2, f3, f4, f5, f6, f7, f8, f9, f10, f11, f12, f13, f14, f15, f16, f17, f18, f19, f20, f21, f22, f23, f24, f25, f26, f27, f28, f29, f30, f31, f32⟩ := hR
      subst ha_
      have gl := f32 (hall 32 (by decide))
      subst gl
      have HSx : Hid (Done m w x B n s g1 c1 g2 c2 g3 c3) := HD.out.below fb
      have hBlx : B < x.heap.size := Nat.lt_of_lt_of_le hBl0 fb.size
      have bx0 := (fb.cell (p := ⟨B, 0, none⟩) hBl0).trans b0
      have fbx0 : x.frozen? ⟨B, 0, none⟩ = false := frozen_of_block HSx.out.box.box 0
      have bx5 := (fb.cell (p := ⟨B, 5, none⟩) hBl0).trans b5
      have fbx5 : x.frozen? ⟨B, 5, none⟩ = false := frozen_of_block HSx.out.box.box 5
      have bx6 := (fb.cell (p := ⟨B, 6, none⟩) hBl0).trans b6
      have fbx6 : x.frozen? ⟨B, 6, none⟩ = false := frozen_of_block HSx.out.box.box 6
      have yx0 := (fb.cell (p := ⟨lb, lo, none⟩) hlb0).trans y0
      have HFB := Lib.hid fb
      clear fb f0 f1 f2 f3 f4 f5 f6 f7 f8 f9 f10 f11 f12 f13 f14 f15 f16 f17 f18 f19 f20 f21 f22 f23 f24 f25 f26 f27 f28 f29 f30 f31 f32
      clear hm
      by_cases hz : e = 0
      · have HE0 := Lib.hid hz
        rw [hz, errV_0]
        clear hz
        obtain ⟨r, hr⟩ : ∃ r, endsR c s.day a0 = r := ⟨_, rfl⟩
        obtain ⟨ea, hea⟩ : ∃ r, askedF c [s.day] [a0] = r := ⟨_, rfl⟩
        have HR := Lib.hid hr
        have HEA := Lib.hid hea
        have hCB0 : w.heap.size < W0.heap.size := (Array.getElem?_eq_some_iff.1 HBC.out).1
        have hCBx : w.heap.size < x.heap.size := Nat.lt_of_lt_of_le hCB0 HFB.out.size
        have hlbx : lb < x.heap.size := Nat.lt_of_lt_of_le hlb0 HFB.out.size
        have HBX : Hid (x.heap[w.heap.size]? = some (.cells #[.int .i64 c.first, .slice fa fn fc, .slice sa sn sc] 25 (0, 0))) := (HFB.out.block _ hCB0).trans HBC.out
        have kcx0 := (cell_of_block HBX.out 0).trans (show _ = some (.int .i64 c.first) from rfl)
        have kcx1 := (cell_of_block HBX.out 1).trans (show _ = some (.slice fa fn fc) from rfl)
        have kcx2 := (cell_of_block HBX.out 2).trans (show _ = some (.slice sa sn sc) from rfl)
        have HEN : Hid (∀ y, Below x.heap.size x y → Gives Tryz.prog 84 #[.agg #[.int .i64 c.first, .slice fa fn fc, .slice sa sn sc], .int .i64 s.day, .int .i64 a0] y (.tuple #[.int .i64 r, .int .i64 ea])) := by
          intro y fy
          rw [← hr, ← hea]
          exact Ends_calls _ c s.day a0 y (HC.out.below ((hbW.trans (HFB.out.mono hbW.size)).trans (fy.mono (Nat.le_trans hbW.size HFB.out.size))))
        clear hr hea
        go_wp2
        apply HearJ_law x B lb lo cc w.heap.size c.first fa sa fn fc sn sc s.day a0 r ea mixed (by kernel_rfl)
        case h0 =>
          unfold HearJ
          refine ⟨_, _, _, _, _, _, _, _, _, _, _, _, _, _, rfl, by (repeat' (first | exact Below.refl _ _ | assumption | refine below_new ?_ _ | refine below_draw ?_ | refine below_tail (by assumption) ?_ | refine below_set ?_ (by first | omega | (simp <;> omega)) _)), ?_⟩
          simp only [Bool.false_eq_true, false_implies, and_self]
        case hstep =>
          intro d a y hI i hi hdi hed
          unfold HearJ at hI
          obtain ⟨u16, u17, u245, u246, u247, u248, u249, u250, u251, u252, u253, u254, u255, u256, ha_, hR⟩ := hI
          obtain ⟨fb, f0, f1, f2, f3, f4, f5, f6, f7, f8, f9, f10, f11, f12, f13⟩ := hR
          subst ha_
          have hi' : i < 14 := hi
          clear hi
          rcases (show i = 0 ∨ i = 1 ∨ i = 2 ∨ i = 3 ∨ i = 4 ∨ i = 5 ∨ i = 6 ∨ i = 7 ∨ i = 8 ∨ i = 9 ∨ i = 10 ∨ i = 11 ∨ i = 12 ∨ i = 13 by omega) with rfl | rfl | rfl | rfl | rfl | rfl | rfl | rfl | rfl | rfl | rfl | rfl | rfl | rfl
          · have he := hed _ rfl
            simp only [Region.binds] at he
            try simp at he
            clear hed hdi
            refine wpOp_step rfl (fun K hK => ?_)
            have kc0_ := (fb.cell (p := ⟨w.heap.size, 0, none⟩) hCBx).trans kcx0
            have kc1_ := (fb.cell (p := ⟨w.heap.size, 1, none⟩) hCBx).trans kcx1
            have kc2_ := (fb.cell (p := ⟨w.heap.size, 2, none⟩) hCBx).trans kcx2
            go_simp
            (try (refine hK _ _ ?_; clear hK K))
            unfold HearJ
            refine ⟨_, _, _, _, _, _, _, _, _, _, _, _, _, _, rfl, ?_⟩
            simp only [Nat.reduceBEq, Bool.false_or, Bool.true_or, beq_self_eq_true, forall_const]
            exact ⟨fb, (by first | rfl | trivial), f1, f2, f3, f4, f5, f6, f7, f8, f9, f10, f11, f12, f13⟩
          · have he := hed _ rfl
            simp only [Region.binds] at he
            try simp at he
            clear hed hdi
            refine wpOp_step rfl (fun K hK => ?_)
            go_simp
            (try (refine hK _ _ ?_; clear hK K))
            unfold HearJ
            refine ⟨_, _, _, _, _, _, _, _, _, _, _, _, _, _, rfl, ?_⟩
            simp only [Nat.reduceBEq, Bool.false_or, Bool.true_or, beq_self_eq_true, forall_const]
            exact ⟨fb, f0, (by first | rfl | trivial), f2, f3, f4, f5, f6, f7, f8, f9, f10, f11, f12, f13⟩
          · have he := hed _ rfl
            simp only [Region.binds] at he
            try simp at he
            clear hed hdi
            refine wpOp_step rfl (fun K hK => ?_)
            have g1 := f1 (he)
            subst g1
            go_simp
            (try (refine hK _ _ ?_; clear hK K))
            unfold HearJ
            refine ⟨_, _, _, _, _, _, _, _, _, _, _, _, _, _, rfl, ?_⟩
            simp only [Nat.reduceBEq, Bool.false_or, Bool.true_or, beq_self_eq_true, forall_const]
            exact ⟨fb, f0, (by first | exact f1 | (intros; trivial) | (intros; rfl)), (by first | rfl | trivial), f3, f4, f5, f6, f7, f8, f9, f10, f11, f12, f13⟩
          · have he := hed _ rfl
            simp only [Region.binds] at he
            try simp at he
            clear hed hdi
            refine wpOp_step rfl (fun K hK => ?_)
            have g2 := f2 (he)
            subst g2
            go_simp
            (try (refine hK _ _ ?_; clear hK K))
            unfold HearJ
            refine ⟨_, _, _, _, _, _, _, _, _, _, _, _, _, _, rfl, ?_⟩
            simp only [Nat.reduceBEq, Bool.false_or, Bool.true_or, beq_self_eq_true, forall_const]
            exact ⟨fb, f0, f1, (by first | exact f2 | (intros; trivial) | (intros; rfl)), (by first | rfl | trivial), f4, f5, f6, f7, f8, f9, f10, f11, f12, f13⟩
          · have he := hed _ rfl
            simp only [Region.binds] at he
            try simp at he
            clear hed hdi
            refine wpOp_step rfl (fun K hK => ?_)
            have g3 := f3 (he)
            subst g3
            have qc := (fb.cell (p := ⟨B, 0, none⟩) hBlx).trans bx0
            go_simp
            (try (refine hK _ _ ?_; clear hK K))
            unfold HearJ
            refine ⟨_, _, _, _, _, _, _, _, _, _, _, _, _, _, rfl, ?_⟩
            simp only [Nat.reduceBEq, Bool.false_or, Bool.true_or, beq_self_eq_true, forall_const]
            exact ⟨fb, f0, f1, f2, (by first | exact f3 | (intros; trivial) | (intros; rfl)), (by first | rfl | trivial), f5, f6, f7, f8, f9, f10, f11, f12, f13⟩
          · have he := hed _ rfl
            simp only [Region.binds] at he
            try simp at he
            clear hed hdi
            refine wpOp_step rfl (fun K hK => ?_)
            go_simp
            (try (refine hK _ _ ?_; clear hK K))
            unfold HearJ
            refine ⟨_, _, _, _, _, _, _, _, _, _, _, _, _, _, rfl, ?_⟩
            simp only [Nat.reduceBEq, Bool.false_or, Bool.true_or, beq_self_eq_true, forall_const]
            exact ⟨fb, f0, f1, f2, f3, f4, (by first | rfl | trivial), f6, f7, f8, f9, f10, f11, f12, f13⟩
          · have he := hed _ rfl
            simp only [Region.binds] at he
            try simp at he
            clear hed hdi
            refine wpOp_step rfl (fun K hK => ?_)
            have g5 := f5 (he)
            subst g5
            go_simp
            (try (refine hK _ _ ?_; clear hK K))
            unfold HearJ
            refine ⟨_, _, _, _, _, _, _, _, _, _, _, _, _, _, rfl, ?_⟩
            simp only [Nat.reduceBEq, Bool.false_or, Bool.true_or, beq_self_eq_true, forall_const]
            exact ⟨fb, f0, f1, f2, f3, f4, (by first | exact f5 | (intros; trivial) | (intros; rfl)), (by first | rfl | trivial), f7, f8, f9, f10, f11, f12, f13⟩
          · have he := hed _ rfl
            simp only [Region.binds] at he
            try simp at he
            clear hed hdi
            refine wpOp_step rfl (fun K hK => ?_)
            have g6 := f6 (he)
            subst g6
            have qc := (fb.cell (p := ⟨lb, lo, none⟩) hlbx).trans yx0
            go_simp
            (try (refine hK _ _ ?_; clear hK K))
            unfold HearJ
            refine ⟨_, _, _, _, _, _, _, _, _, _, _, _, _, _, rfl, ?_⟩
            simp only [Nat.reduceBEq, Bool.false_or, Bool.true_or, beq_self_eq_true, forall_const]
            exact ⟨fb, f0, f1, f2, f3, f4, f5, (by first | exact f6 | (intros; trivial) | (intros; rfl)), (by first | rfl | trivial), f8, f9, f10, f11, f12, f13⟩
          · have he := hed _ rfl
            simp only [Region.binds] at he
            try simp at he
            clear hed hdi
            refine wpOp_step rfl (fun K hK => ?_)
            have g0 := f0 (he.1)
            subst g0
            have g4 := f4 (he.2.1)
            subst g4
            have g7 := f7 (he.2.2)
            subst g7
            go_wp2_with (go_at_call 84; (refine (HEN.out _ fb).use ?_); intro x8 hb8 hz8 hc8 hf8; clear hc8 hf8 hz8)
            (try (refine hK _ _ ?_; clear hK K))
            unfold HearJ
            refine ⟨_, _, _, _, _, _, _, _, _, _, _, _, _, _, rfl, ?_⟩
            simp only [Nat.reduceBEq, Bool.false_or, Bool.true_or, beq_self_eq_true, forall_const]
            exact ⟨fb.trans (hb8.mono fb.size), (by first | exact f0 | (intros; trivial) | (intros; rfl)), f1, f2, f3, (by first | exact f4 | (intros; trivial) | (intros; rfl)), f5, f6, (by first | exact f7 | (intros; trivial) | (intros; rfl)), (by first | rfl | trivial), f9, f10, f11, f12, f13⟩
          · have he := hed _ rfl
            simp only [Region.binds] at he
            try simp at he
            clear hed hdi
            refine wpOp_step rfl (fun K hK => ?_)
            have g8 := f8 (he)
            subst g8
            go_simp
            (try (refine hK _ _ ?_; clear hK K))
            unfold HearJ
            refine ⟨_, _, _, _, _, _, _, _, _, _, _, _, _, _, rfl, ?_⟩
            simp only [Nat.reduceBEq, Bool.false_or, Bool.true_or, beq_self_eq_true, forall_const]
            exact ⟨fb, f0, f1, f2, f3, f4, f5, f6, f7, (by first | exact f8 | (intros; trivial) | (intros; rfl)), (by first | rfl | trivial), f10, f11, f12, f13⟩
          · have he := hed _ rfl
            simp only [Region.binds] at he
            try simp at he
            clear hed hdi
            refine wpOp_step rfl (fun K hK => ?_)
            have g9 := f9 (he)
            subst g9
            go_simp
            (try (refine hK _ _ ?_; clear hK K))
            unfold HearJ
            refine ⟨_, _, _, _, _, _, _, _, _, _, _, _, _, _, rfl, ?_⟩
            simp only [Nat.reduceBEq, Bool.false_or, Bool.true_or, beq_self_eq_true, forall_const]
            exact ⟨fb, f0, f1, f2, f3, f4, f5, f6, f7, f8, (by first | exact f9 | (intros; trivial) | (intros; rfl)), (by first | rfl | trivial), f11, f12, f13⟩
          · have he := hed _ rfl
            simp only [Region.binds] at he
            try simp at he
            clear hed hdi
            refine wpOp_step rfl (fun K hK => ?_)
            have g9 := f9 (he)
            subst g9
            go_simp
            (try (refine hK _ _ ?_; clear hK K))
            unfold HearJ
            refine ⟨_, _, _, _, _, _, _, _, _, _, _, _, _, _, rfl, ?_⟩
            simp only [Nat.reduceBEq, Bool.false_or, Bool.true_or, beq_self_eq_true, forall_const]
            exact ⟨fb, f0, f1, f2, f3, f4, f5, f6, f7, f8, (by first | exact f9 | (intros; trivial) | (intros; rfl)), f10, (by first | rfl | trivial), f12, f13⟩
          · have he := hed _ rfl
            simp only [Region.binds] at he
            try simp at he
            clear hed hdi
            refine wpOp_step rfl (fun K hK => ?_)
            have g10 := f10 (he.1)
            subst g10
            go_simp
            (try (refine hK _ _ ?_; clear hK K))
            unfold HearJ
            refine ⟨_, _, _, _, _, _, _, _, _, _, _, _, _, _, rfl, ?_⟩
            simp only [Nat.reduceBEq, Bool.false_or, Bool.true_or, beq_self_eq_true, forall_const]
            exact ⟨fb, (by first | exact f0 | (intros; trivial) | (intros; rfl)), (by first | exact f1 | (intros; trivial) | (intros; rfl)), (by first | exact f2 | (intros; trivial) | (intros; rfl)), (by first | exact f3 | (intros; trivial) | (intros; rfl)), (by first | exact f4 | (intros; trivial) | (intros; rfl)), (by first | exact f5 | (intros; trivial) | (intros; rfl)), (by first | exact f6 | (intros; trivial) | (intros; rfl)), (by first | exact f7 | (intros; trivial) | (intros; rfl)), (by first | exact f8 | (intros; trivial) | (intros; rfl)), (by first | exact f9 | (intros; trivial) | (intros; rfl)), (by first | exact f10 | (intros; trivial) | (intros; rfl)), f11, (by first | rfl | trivial), f13⟩
          · have he := hed _ rfl
            simp only [Region.binds] at he
            try simp at he
            clear hed hdi
            refine wpOp_step rfl (fun K hK => ?_)
            have g11 := f11 (he.1)
            subst g11
            go_simp
            (try (refine hK _ _ ?_; clear hK K))
            unfold HearJ
            refine ⟨_, _, _, _, _, _, _, _, _, _, _, _, _, _, rfl, ?_⟩
            simp only [Nat.reduceBEq, Bool.false_or, Bool.true_or, beq_self_eq_true, forall_const]
            exact ⟨fb, (by first | exact f0 | (intros; trivial) | (intros; rfl)), (by first | exact f1 | (intros; trivial) | (intros; rfl)), (by first | exact f2 | (intros; trivial) | (intros; rfl)), (by first | exact f3 | (intros; trivial) | (intros; rfl)), (by first | exact f4 | (intros; trivial) | (intros; rfl)), (by first | exact f5 | (intros; trivial) | (intros; rfl)), (by first | exact f6 | (intros; trivial) | (intros; rfl)), (by first | exact f7 | (intros; trivial) | (intros; rfl)), (by first | exact f8 | (intros; trivial) | (intros; rfl)), (by first | exact f9 | (intros; trivial) | (intros; rfl)), (by first | exact f10 | (intros; trivial) | (intros; rfl)), (by first | exact f11 | (intros; trivial) | (intros; rfl)), (by first | exact f12 | (intros; trivial) | (intros; rfl)), (by first | rfl | trivial)⟩
        case hend =>
          intro d a y hI hall
          unfold HearJ at hI
          obtain ⟨u16, u17, u245, u246, u247, u248, u249, u250, u251, u252, u253, u254, u255, u256, ha_, hR⟩ := hI
          obtain ⟨fb, f0, f1, f2, f3, f4, f5, f6, f7, f8, f9, f10, f11, f12, f13⟩ := hR
          subst ha_
          have gl := f13 (hall 13 (by decide))
          subst gl
          have gr := f12 (hall 12 (by decide))
          subst gr
          have HSy : Hid (Done m w y B n s g1 c1 g2 c2 g3 c3) := HSx.out.below fb
          have by5 := (fb.cell (p := ⟨B, 5, none⟩) hBlx).trans bx5
          have by6 := (fb.cell (p := ⟨B, 6, none⟩) hBlx).trans bx6
          have fby5 : y.frozen? ⟨B, 5, none⟩ = false := frozen_of_block HSy.out.box.box 5
          have fby6 : y.frozen? ⟨B, 6, none⟩ = false := frozen_of_block HSy.out.box.box 6
          clear fb f0 f1 f2 f3 f4 f5 f6 f7 f8 f9 f10 f11 f12 f13
          by_cases hz : ea = 0
          · have HE1 := Lib.hid hz
            rw [hz]
            clear hz
            go_wp2
            refine bodyPost_ret (v := .nilIface) (by simp [results, Tryz.f64, go_sem]) rfl ?_
            refine Done.fin (HKK.out.trans ((if_pos HE0.out).trans (HEA.out.trans HE1.out))) ?_
            exact Done.below (Done.cell (s := { s with stop := r }) (s' := kindS c s 4 [a0]) (i := 6) (v := .bool true) (Done.cell (s' := { s with stop := r }) (i := 5) (v := .int .i64 r) HSy.out rfl rfl rfl rfl) (by rw [← HR.out]; rfl) rfl rfl rfl) (by (repeat' (first | exact Below.refl _ _ | assumption | refine below_new ?_ _ | refine below_draw ?_ | refine below_tail (by assumption) ?_ | refine below_set ?_ (by first | omega | (simp <;> omega)) _)))
          · have hne := Lib.hid hz
            go_wp2
            refine bodyPost_ret (v := .iface 127 (.agg #[.int .i64 ea])) (by simp [results, Tryz.f64, go_sem]) rfl ?_
            exact ⟨by rw [HKK.out, if_pos HE0.out, HEA.out, errV_ne hne.out], HSy.out.bel.trans (by (repeat' (first | exact Below.refl _ _ | assumption | refine below_new ?_ _ | refine below_draw ?_ | refine below_tail (by assumption) ?_ | refine below_set ?_ (by first | omega | (simp <;> omega)) _))), fun h0 => absurd ((HKK.out.trans ((if_pos HE0.out).trans HEA.out)).symm.trans h0) hne.out⟩
      · have hne := Lib.hid hz
        rw [errV_ne hz]
        go_wp2
        refine bodyPost_ret (v := .iface 127 (.agg #[.int .i64 e])) (by simp [results, Tryz.f64, go_sem]) rfl ?_
        exact ⟨by rw [HKK.out, if_neg hne.out, errV_ne hne.out], HSx.out.bel.trans (by (repeat' (first | exact Below.refl _ _ | assumption | refine below_new ?_ _ | refine below_draw ?_ | refine below_tail (by assumption) ?_ | refine below_set ?_ (by first | omega | (simp <;> omega)) _))), fun h0 => absurd ((HKK.out.trans (if_neg hne.out)).symm.trans h0) hne.out⟩
end Go.Proofs.YthooacpfmjpdmaaGreatDoor
