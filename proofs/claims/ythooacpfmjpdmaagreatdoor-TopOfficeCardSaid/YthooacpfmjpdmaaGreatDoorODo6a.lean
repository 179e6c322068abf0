/- The order move, by nothing. Conditions: as said. -/
import Derived.Test.YthooacpfmjpdmaaGreatDoorODoB
namespace Go.Proofs.YthooacpfmjpdmaaGreatDoor
open Go.RowKit
set_option maxRecDepth 1000000 in
def MoveIn (W0 : World) (B : Nat) (n : Nat) (g2 : Nat) (c2 : Nat) (g3 : Nat) (c3 : Nat) (i0 : Nat) (i1 : Nat) (v1 : Int) (v0 : Bool) (q1 : Bool) (q2 : Bool) (e0 : Int) (e1 : Int) (e2 : Int) (e : Int) (sv1 sv2 sv3 sv4 sv5 sv6 sv7 sv8 sv9 sv10 sv11 sv12 sv13 sv14 sv15 sv16 sv17 sv18 sv23 sv24 sv25 sv26 sv27 sv28 sv29 sv30 sv31 sv32 sv33 sv34 sv35 sv36 sv37 sv38 sv39 sv40 sv41 sv42 sv43 sv44 sv45 sv46 sv47 sv48 sv49 sv50 sv51 sv52 sv53 sv54 sv55 sv56 sv57 sv58 sv59 sv60 sv61 sv62 sv63 sv64 sv65 sv66 sv67 sv68 sv69 sv70 sv71 sv72 sv73 sv74 sv75 sv76 sv77 sv78 sv79 sv80 sv81 sv82 sv83 sv84 sv85 sv86 sv87 sv88 sv89 sv90 sv91 sv92 sv93 sv94 sv95 sv96 sv97 sv98 sv99 sv100 sv101 sv102 sv103 sv104 sv105 sv106 sv107 sv108 sv109 sv110 sv111 sv112 sv113 sv114 sv115 sv116 sv117 sv118 sv119 sv120 sv121 sv122 sv123 sv124 sv125 sv126 sv127 sv128 sv129 sv130 sv131 sv132 sv133 sv134 sv135 sv136 sv137 sv138 sv139 sv140 sv141 sv142 sv143 sv144 sv145 sv146 sv147 sv148 sv149 sv150 sv151 sv152 sv153 sv154 sv155 sv156 sv157 sv158 sv159 sv160 sv161 sv162 sv163 sv164 sv165 sv166 sv167 sv168 sv169 sv170 sv171 sv172 sv173 sv174 sv175 sv176 sv177 sv178 sv179 sv180 sv181 sv182 sv183 sv184 sv185 sv186 sv187 sv188 sv189 sv190 sv191 sv192 sv193 sv194 sv195 sv196 sv197 sv198 sv199 sv200 sv201 sv202 sv203 sv204 sv205 sv206 sv207 sv208 sv209 sv210 sv211 sv212 sv213 sv214 sv215 sv216 sv217 sv218 sv219 sv220 sv221 sv222 sv223 sv224 sv225 sv226 sv227 sv228 sv229 sv230 sv231 sv232 sv233 sv234 sv235 sv236 sv237 sv238 sv239 sv240 sv241 sv242 sv243 sv244 sv245 sv246 sv247 sv248 sv249 sv250 sv251 sv252 sv253 sv254 sv255 sv256 sv257 sv258 sv259 sv260 sv261 sv262 sv263 sv264 sv265 sv266 sv267 sv268 sv269 sv270 sv271 sv272 sv273 sv274 sv275 sv276 sv277 sv278 sv279 sv280 sv281 sv282 sv283 sv284 sv285 sv286 sv287 sv288 sv289 sv290 sv291 sv292 sv293 sv294 sv295 sv296 sv297 sv298 sv299 sv300 sv301 sv302 sv303 sv304 sv305 sv306 sv307 sv308 sv309 sv310 sv311 sv312 sv313 sv314 sv315 sv316 sv317 sv318 sv319 sv320 : Value) (d : Nat → Bool) (a : Act) (x : World) : Prop :=
  ∃ u22 u321 u322 u323 u324 u325 u326 u327 u328 u329 u330 u331 u332 u333 u334 u335 u336 u337 u338 u339 u340 u341 u342 u343 u344 u345 u346 u347 u348 u349 : Value, a = ⟨List.toArray ((.pointer (some ⟨B, 0, none⟩)) :: sv1 :: sv2 :: sv3 :: sv4 :: sv5 :: sv6 :: sv7 :: sv8 :: sv9 :: sv10 :: sv11 :: sv12 :: sv13 :: sv14 :: sv15 :: sv16 :: sv17 :: sv18 :: (.int .i64 (i0 : Int)) :: (.int .i64 (i1 : Int)) :: (.int .i64 0) :: u22 :: sv23 :: sv24 :: sv25 :: sv26 :: sv27 :: sv28 :: sv29 :: sv30 :: sv31 :: sv32 :: sv33 :: sv34 :: sv35 :: sv36 :: sv37 :: sv38 :: sv39 :: sv40 :: sv41 :: sv42 :: sv43 :: sv44 :: sv45 :: sv46 :: sv47 :: sv48 :: sv49 :: sv50 :: sv51 :: sv52 :: sv53 :: sv54 :: sv55 :: sv56 :: sv57 :: sv58 :: sv59 :: sv60 :: sv61 :: sv62 :: sv63 :: sv64 :: sv65 :: sv66 :: sv67 :: sv68 :: sv69 :: sv70 :: sv71 :: sv72 :: sv73 :: sv74 :: sv75 :: sv76 :: sv77 :: sv78 :: sv79 :: sv80 :: sv81 :: sv82 :: sv83 :: sv84 :: sv85 :: sv86 :: sv87 :: sv88 :: sv89 :: sv90 :: sv91 :: sv92 :: sv93 :: sv94 :: sv95 :: sv96 :: sv97 :: sv98 :: sv99 :: sv100 :: sv101 :: sv102 :: sv103 :: sv104 :: sv105 :: sv106 :: sv107 :: sv108 :: sv109 :: sv110 :: sv111 :: sv112 :: sv113 :: sv114 :: sv115 :: sv116 :: sv117 :: sv118 :: sv119 :: sv120 :: sv121 :: sv122 :: sv123 :: sv124 :: sv125 :: sv126 :: sv127 :: sv128 :: sv129 :: sv130 :: sv131 :: sv132 :: sv133 :: sv134 :: sv135 :: sv136 :: sv137 :: sv138 :: sv139 :: sv140 :: sv141 :: sv142 :: sv143 :: sv144 :: sv145 :: sv146 :: sv147 :: sv148 :: sv149 :: sv150 :: sv151 :: sv152 :: sv153 :: sv154 :: sv155 :: sv156 :: sv157 :: sv158 :: sv159 :: sv160 :: sv161 :: sv162 :: sv163 :: sv164 :: sv165 :: sv166 :: sv167 :: sv168 :: sv169 :: sv170 :: sv171 :: sv172 :: sv173 :: sv174 :: sv175 :: sv176 :: sv177 :: sv178 :: sv179 :: sv180 :: sv181 :: sv182 :: sv183 :: sv184 :: sv185 :: sv186 :: sv187 :: sv188 :: sv189 :: sv190 :: sv191 :: sv192 :: sv193 :: sv194 :: sv195 :: sv196 :: sv197 :: sv198 :: sv199 :: sv200 :: sv201 :: sv202 :: sv203 :: sv204 :: sv205 :: sv206 :: sv207 :: sv208 :: sv209 :: sv210 :: sv211 :: sv212 :: sv213 :: sv214 :: sv215 :: sv216 :: sv217 :: sv218 :: sv219 :: sv220 :: sv221 :: sv222 :: sv223 :: sv224 :: sv225 :: sv226 :: sv227 :: sv228 :: sv229 :: sv230 :: sv231 :: sv232 :: sv233 :: sv234 :: sv235 :: sv236 :: sv237 :: sv238 :: sv239 :: sv240 :: sv241 :: sv242 :: sv243 :: sv244 :: sv245 :: sv246 :: sv247 :: sv248 :: sv249 :: sv250 :: sv251 :: sv252 :: sv253 :: sv254 :: sv255 :: sv256 :: sv257 :: sv258 :: sv259 :: sv260 :: sv261 :: sv262 :: sv263 :: sv264 :: sv265 :: sv266 :: sv267 :: sv268 :: sv269 :: sv270 :: sv271 :: sv272 :: sv273 :: sv274 :: sv275 :: sv276 :: sv277 :: sv278 :: sv279 :: sv280 :: sv281 :: sv282 :: sv283 :: sv284 :: sv285 :: sv286 :: sv287 :: sv288 :: sv289 :: sv290 :: sv291 :: sv292 :: sv293 :: sv294 :: sv295 :: sv296 :: sv297 :: sv298 :: sv299 :: sv300 :: sv301 :: sv302 :: sv303 :: sv304 :: sv305 :: sv306 :: sv307 :: sv308 :: sv309 :: sv310 :: sv311 :: sv312 :: sv313 :: sv314 :: sv315 :: sv316 :: sv317 :: sv318 :: sv319 :: sv320 :: u321 :: u322 :: u323 :: u324 :: u325 :: u326 :: u327 :: u328 :: u329 :: u330 :: u331 :: u332 :: u333 :: u334 :: u335 :: u336 :: u337 :: u338 :: u339 :: u340 :: u341 :: u342 :: u343 :: u344 :: u345 :: u346 :: u347 :: u348 :: u349 :: undef :: undef :: undef :: undef :: undef :: undef :: undef :: undef :: undef :: undef :: undef :: undef :: undef :: undef :: undef :: undef :: undef :: undef :: undef :: undef :: undef :: undef :: undef :: undef :: undef :: undef :: undef :: undef :: undef :: undef :: undef :: undef :: undef :: undef :: undef :: undef :: undef :: undef :: undef :: undef :: undef :: undef :: undef :: undef :: undef :: undef :: undef :: undef :: undef :: undef :: undef :: undef :: undef :: undef :: undef :: undef :: undef :: undef :: undef :: undef :: undef :: undef :: undef :: undef :: undef :: undef :: undef :: undef :: undef :: undef :: undef :: undef :: undef :: undef :: undef :: undef :: undef :: undef :: undef :: undef :: undef :: undef :: undef :: undef :: undef :: undef :: undef :: undef :: undef :: undef :: undef :: undef :: undef :: undef :: undef :: undef :: undef :: undef :: undef :: undef :: undef :: undef :: undef :: undef :: undef :: undef :: undef :: undef :: undef :: undef :: undef :: undef :: undef :: undef :: []), []⟩ ∧
    Below W0.heap.size W0 x ∧
    (d 0 = true → u321 = .int .i64 0) ∧
    (d 1 = true → u322 = .bool true) ∧
    (d 2 = true → u323 = .bool true) ∧
    (d 3 = true → u324 = undef) ∧
    (d 4 = true → u325 = undef) ∧
    (d 5 = true → u326 = undef) ∧
    (d 6 = true → u327 = .bool true) ∧
    (d 7 = true → u328 = errV e0) ∧
    (d 8 = true → u329 = .pointer (some ⟨B, 0, none⟩)) ∧
    (d 9 = true → u330 = .pointer (some ⟨B, 0, none⟩)) ∧
    (d 10 = true → u331 = .pointer (some ⟨B, 7, none⟩)) ∧
    (d 11 = true → u332 = .slice (some ⟨g3, 0, none⟩) n c3) ∧
    (d 12 = true → u333 = .int .i64 (i0 : Int)) ∧
    (d 13 = true → u334 = .pointer (some ⟨g3, i0, none⟩)) ∧
    (d 14 = true → u335 = .bool v0) ∧
    (d 15 = true → u336 = .bool q1) ∧
    (d 16 = true → u337 = errV e1) ∧
    (d 17 = true → u338 = .pointer (some ⟨B, 0, none⟩)) ∧
    (d 18 = true → u339 = .pointer (some ⟨B, 0, none⟩)) ∧
    (d 19 = true → u340 = .pointer (some ⟨B, 2, none⟩)) ∧
    (d 20 = true → u341 = .slice (some ⟨g2, 0, none⟩) n c2) ∧
    (d 21 = true → u342 = .int .i64 (i1 : Int)) ∧
    (d 22 = true → u343 = .pointer (some ⟨g2, i1, none⟩)) ∧
    (d 23 = true → u344 = .int .i64 v1) ∧
    (d 24 = true → u345 = .int .i64 0) ∧
    (d 25 = true → u346 = .bool q2) ∧
    (d 26 = true → u347 = errV e2) ∧
    (d 27 = true → ErrsAt x u348 [e0, e1, e2]) ∧
    (d 28 = true → u349 = errV e) ∧
    (d 29 = true → u22 = errV e)
theorem MoveIn_law (W0 : World) (B : Nat) (n : Nat) (g2 : Nat) (c2 : Nat) (g3 : Nat) (c3 : Nat) (i0 : Nat) (i1 : Nat) (v1 : Int) (v0 : Bool) (q1 : Bool) (q2 : Bool) (e0 : Int) (e1 : Int) (e2 : Int) (e : Int) {sv1 sv2 sv3 sv4 sv5 sv6 sv7 sv8 sv9 sv10 sv11 sv12 sv13 sv14 sv15 sv16 sv17 sv18 sv23 sv24 sv25 sv26 sv27 sv28 sv29 sv30 sv31 sv32 sv33 sv34 sv35 sv36 sv37 sv38 sv39 sv40 sv41 sv42 sv43 sv44 sv45 sv46 sv47 sv48 sv49 sv50 sv51 sv52 sv53 sv54 sv55 sv56 sv57 sv58 sv59 sv60 sv61 sv62 sv63 sv64 sv65 sv66 sv67 sv68 sv69 sv70 sv71 sv72 sv73 sv74 sv75 sv76 sv77 sv78 sv79 sv80 sv81 sv82 sv83 sv84 sv85 sv86 sv87 sv88 sv89 sv90 sv91 sv92 sv93 sv94 sv95 sv96 sv97 sv98 sv99 sv100 sv101 sv102 sv103 sv104 sv105 sv106 sv107 sv108 sv109 sv110 sv111 sv112 sv113 sv114 sv115 sv116 sv117 sv118 sv119 sv120 sv121 sv122 sv123 sv124 sv125 sv126 sv127 sv128 sv129 sv130 sv131 sv132 sv133 sv134 sv135 sv136 sv137 sv138 sv139 sv140 sv141 sv142 sv143 sv144 sv145 sv146 sv147 sv148 sv149 sv150 sv151 sv152 sv153 sv154 sv155 sv156 sv157 sv158 sv159 sv160 sv161 sv162 sv163 sv164 sv165 sv166 sv167 sv168 sv169 sv170 sv171 sv172 sv173 sv174 sv175 sv176 sv177 sv178 sv179 sv180 sv181 sv182 sv183 sv184 sv185 sv186 sv187 sv188 sv189 sv190 sv191 sv192 sv193 sv194 sv195 sv196 sv197 sv198 sv199 sv200 sv201 sv202 sv203 sv204 sv205 sv206 sv207 sv208 sv209 sv210 sv211 sv212 sv213 sv214 sv215 sv216 sv217 sv218 sv219 sv220 sv221 sv222 sv223 sv224 sv225 sv226 sv227 sv228 sv229 sv230 sv231 sv232 sv233 sv234 sv235 sv236 sv237 sv238 sv239 sv240 sv241 sv242 sv243 sv244 sv245 sv246 sv247 sv248 sv249 sv250 sv251 sv252 sv253 sv254 sv255 sv256 sv257 sv258 sv259 sv260 sv261 sv262 sv263 sv264 sv265 sv266 sv267 sv268 sv269 sv270 sv271 sv272 sv273 sv274 sv275 sv276 sv277 sv278 sv279 sv280 sv281 sv282 sv283 sv284 sv285 sv286 sv287 sv288 sv289 sv290 sv291 sv292 sv293 sv294 sv295 sv296 sv297 sv298 sv299 sv300 sv301 sv302 sv303 sv304 sv305 sv306 sv307 sv308 sv309 sv310 sv311 sv312 sv313 sv314 sv315 sv316 sv317 sv318 sv319 sv320 : Value} {P : Program} {id : Nat} {ops : Array Oper} {Q : Exit → Act → World → Prop} {a : Act} {w : World} (hm : P.follows .mixedOrders = true) (hd : edgesDown ops = true)
    (h0 : MoveIn W0 B n g2 c2 g3 c3 i0 i1 v1 v0 q1 q2 e0 e1 e2 e sv1 sv2 sv3 sv4 sv5 sv6 sv7 sv8 sv9 sv10 sv11 sv12 sv13 sv14 sv15 sv16 sv17 sv18 sv23 sv24 sv25 sv26 sv27 sv28 sv29 sv30 sv31 sv32 sv33 sv34 sv35 sv36 sv37 sv38 sv39 sv40 sv41 sv42 sv43 sv44 sv45 sv46 sv47 sv48 sv49 sv50 sv51 sv52 sv53 sv54 sv55 sv56 sv57 sv58 sv59 sv60 sv61 sv62 sv63 sv64 sv65 sv66 sv67 sv68 sv69 sv70 sv71 sv72 sv73 sv74 sv75 sv76 sv77 sv78 sv79 sv80 sv81 sv82 sv83 sv84 sv85 sv86 sv87 sv88 sv89 sv90 sv91 sv92 sv93 sv94 sv95 sv96 sv97 sv98 sv99 sv100 sv101 sv102 sv103 sv104 sv105 sv106 sv107 sv108 sv109 sv110 sv111 sv112 sv113 sv114 sv115 sv116 sv117 sv118 sv119 sv120 sv121 sv122 sv123 sv124 sv125 sv126 sv127 sv128 sv129 sv130 sv131 sv132 sv133 sv134 sv135 sv136 sv137 sv138 sv139 sv140 sv141 sv142 sv143 sv144 sv145 sv146 sv147 sv148 sv149 sv150 sv151 sv152 sv153 sv154 sv155 sv156 sv157 sv158 sv159 sv160 sv161 sv162 sv163 sv164 sv165 sv166 sv167 sv168 sv169 sv170 sv171 sv172 sv173 sv174 sv175 sv176 sv177 sv178 sv179 sv180 sv181 sv182 sv183 sv184 sv185 sv186 sv187 sv188 sv189 sv190 sv191 sv192 sv193 sv194 sv195 sv196 sv197 sv198 sv199 sv200 sv201 sv202 sv203 sv204 sv205 sv206 sv207 sv208 sv209 sv210 sv211 sv212 sv213 sv214 sv215 sv216 sv217 sv218 sv219 sv220 sv221 sv222 sv223 sv224 sv225 sv226 sv227 sv228 sv229 sv230 sv231 sv232 sv233 sv234 sv235 sv236 sv237 sv238 sv239 sv240 sv241 sv242 sv243 sv244 sv245 sv246 sv247 sv248 sv249 sv250 sv251 sv252 sv253 sv254 sv255 sv256 sv257 sv258 sv259 sv260 sv261 sv262 sv263 sv264 sv265 sv266 sv267 sv268 sv269 sv270 sv271 sv272 sv273 sv274 sv275 sv276 sv277 sv278 sv279 sv280 sv281 sv282 sv283 sv284 sv285 sv286 sv287 sv288 sv289 sv290 sv291 sv292 sv293 sv294 sv295 sv296 sv297 sv298 sv299 sv300 sv301 sv302 sv303 sv304 sv305 sv306 sv307 sv308 sv309 sv310 sv311 sv312 sv313 sv314 sv315 sv316 sv317 sv318 sv319 sv320 (fun _ => false) a w.drew)
    (hstep : ∀ (d : Nat → Bool) (a : Act) (w : World), MoveIn W0 B n g2 c2 g3 c3 i0 i1 v1 v0 q1 q2 e0 e1 e2 e sv1 sv2 sv3 sv4 sv5 sv6 sv7 sv8 sv9 sv10 sv11 sv12 sv13 sv14 sv15 sv16 sv17 sv18 sv23 sv24 sv25 sv26 sv27 sv28 sv29 sv30 sv31 sv32 sv33 sv34 sv35 sv36 sv37 sv38 sv39 sv40 sv41 sv42 sv43 sv44 sv45 sv46 sv47 sv48 sv49 sv50 sv51 sv52 sv53 sv54 sv55 sv56 sv57 sv58 sv59 sv60 sv61 sv62 sv63 sv64 sv65 sv66 sv67 sv68 sv69 sv70 sv71 sv72 sv73 sv74 sv75 sv76 sv77 sv78 sv79 sv80 sv81 sv82 sv83 sv84 sv85 sv86 sv87 sv88 sv89 sv90 sv91 sv92 sv93 sv94 sv95 sv96 sv97 sv98 sv99 sv100 sv101 sv102 sv103 sv104 sv105 sv106 sv107 sv108 sv109 sv110 sv111 sv112 sv113 sv114 sv115 sv116 sv117 sv118 sv119 sv120 sv121 sv122 sv123 sv124 sv125 sv126 sv127 sv128 sv129 sv130 sv131 sv132 sv133 sv134 sv135 sv136 sv137 sv138 sv139 sv140 sv141 sv142 sv143 sv144 sv145 sv146 sv147 sv148 sv149 sv150 sv151 sv152 sv153 sv154 sv155 sv156 sv157 sv158 sv159 sv160 sv161 sv162 sv163 sv164 sv165 sv166 sv167 sv168 sv169 sv170 sv171 sv172 sv173 sv174 sv175 sv176 sv177 sv178 sv179 sv180 sv181 sv182 sv183 sv184 sv185 sv186 sv187 sv188 sv189 sv190 sv191 sv192 sv193 sv194 sv195 sv196 sv197 sv198 sv199 sv200 sv201 sv202 sv203 sv204 sv205 sv206 sv207 sv208 sv209 sv210 sv211 sv212 sv213 sv214 sv215 sv216 sv217 sv218 sv219 sv220 sv221 sv222 sv223 sv224 sv225 sv226 sv227 sv228 sv229 sv230 sv231 sv232 sv233 sv234 sv235 sv236 sv237 sv238 sv239 sv240 sv241 sv242 sv243 sv244 sv245 sv246 sv247 sv248 sv249 sv250 sv251 sv252 sv253 sv254 sv255 sv256 sv257 sv258 sv259 sv260 sv261 sv262 sv263 sv264 sv265 sv266 sv267 sv268 sv269 sv270 sv271 sv272 sv273 sv274 sv275 sv276 sv277 sv278 sv279 sv280 sv281 sv282 sv283 sv284 sv285 sv286 sv287 sv288 sv289 sv290 sv291 sv292 sv293 sv294 sv295 sv296 sv297 sv298 sv299 sv300 sv301 sv302 sv303 sv304 sv305 sv306 sv307 sv308 sv309 sv310 sv311 sv312 sv313 sv314 sv315 sv316 sv317 sv318 sv319 sv320 d a w → ∀ i, i < ops.size → d i = false → (∀ o, ops[i]? = some o → ∀ e ∈ o.after, Region.binds .any e = true → d e.on = true) → wpOp P ops Q i (MoveIn W0 B n g2 c2 g3 c3 i0 i1 v1 v0 q1 q2 e0 e1 e2 e sv1 sv2 sv3 sv4 sv5 sv6 sv7 sv8 sv9 sv10 sv11 sv12 sv13 sv14 sv15 sv16 sv17 sv18 sv23 sv24 sv25 sv26 sv27 sv28 sv29 sv30 sv31 sv32 sv33 sv34 sv35 sv36 sv37 sv38 sv39 sv40 sv41 sv42 sv43 sv44 sv45 sv46 sv47 sv48 sv49 sv50 sv51 sv52 sv53 sv54 sv55 sv56 sv57 sv58 sv59 sv60 sv61 sv62 sv63 sv64 sv65 sv66 sv67 sv68 sv69 sv70 sv71 sv72 sv73 sv74 sv75 sv76 sv77 sv78 sv79 sv80 sv81 sv82 sv83 sv84 sv85 sv86 sv87 sv88 sv89 sv90 sv91 sv92 sv93 sv94 sv95 sv96 sv97 sv98 sv99 sv100 sv101 sv102 sv103 sv104 sv105 sv106 sv107 sv108 sv109 sv110 sv111 sv112 sv113 sv114 sv115 sv116 sv117 sv118 sv119 sv120 sv121 sv122 sv123 sv124 sv125 sv126 sv127 sv128 sv129 sv130 sv131 sv132 sv133 sv134 sv135 sv136 sv137 sv138 sv139 sv140 sv141 sv142 sv143 sv144 sv145 sv146 sv147 sv148 sv149 sv150 sv151 sv152 sv153 sv154 sv155 sv156 sv157 sv158 sv159 sv160 sv161 sv162 sv163 sv164 sv165 sv166 sv167 sv168 sv169 sv170 sv171 sv172 sv173 sv174 sv175 sv176 sv177 sv178 sv179 sv180 sv181 sv182 sv183 sv184 sv185 sv186 sv187 sv188 sv189 sv190 sv191 sv192 sv193 sv194 sv195 sv196 sv197 sv198 sv199 sv200 sv201 sv202 sv203 sv204 sv205 sv206 sv207 sv208 sv209 sv210 sv211 sv212 sv213 sv214 sv215 sv216 sv217 sv218 sv219 sv220 sv221 sv222 sv223 sv224 sv225 sv226 sv227 sv228 sv229 sv230 sv231 sv232 sv233 sv234 sv235 sv236 sv237 sv238 sv239 sv240 sv241 sv242 sv243 sv244 sv245 sv246 sv247 sv248 sv249 sv250 sv251 sv252 sv253 sv254 sv255 sv256 sv257 sv258 sv259 sv260 sv261 sv262 sv263 sv264 sv265 sv266 sv267 sv268 sv269 sv270 sv271 sv272 sv273 sv274 sv275 sv276 sv277 sv278 sv279 sv280 sv281 sv282 sv283 sv284 sv285 sv286 sv287 sv288 sv289 sv290 sv291 sv292 sv293 sv294 sv295 sv296 sv297 sv298 sv299 sv300 sv301 sv302 sv303 sv304 sv305 sv306 sv307 sv308 sv309 sv310 sv311 sv312 sv313 sv314 sv315 sv316 sv317 sv318 sv319 sv320 (fun j => j == i || d j)) a w)
    (hend : ∀ (d : Nat → Bool) (a : Act) (w : World), MoveIn W0 B n g2 c2 g3 c3 i0 i1 v1 v0 q1 q2 e0 e1 e2 e sv1 sv2 sv3 sv4 sv5 sv6 sv7 sv8 sv9 sv10 sv11 sv12 sv13 sv14 sv15 sv16 sv17 sv18 sv23 sv24 sv25 sv26 sv27 sv28 sv29 sv30 sv31 sv32 sv33 sv34 sv35 sv36 sv37 sv38 sv39 sv40 sv41 sv42 sv43 sv44 sv45 sv46 sv47 sv48 sv49 sv50 sv51 sv52 sv53 sv54 sv55 sv56 sv57 sv58 sv59 sv60 sv61 sv62 sv63 sv64 sv65 sv66 sv67 sv68 sv69 sv70 sv71 sv72 sv73 sv74 sv75 sv76 sv77 sv78 sv79 sv80 sv81 sv82 sv83 sv84 sv85 sv86 sv87 sv88 sv89 sv90 sv91 sv92 sv93 sv94 sv95 sv96 sv97 sv98 sv99 sv100 sv101 sv102 sv103 sv104 sv105 sv106 sv107 sv108 sv109 sv110 sv111 sv112 sv113 sv114 sv115 sv116 sv117 sv118 sv119 sv120 sv121 sv122 sv123 sv124 sv125 sv126 sv127 sv128 sv129 sv130 sv131 sv132 sv133 sv134 sv135 sv136 sv137 sv138 sv139 sv140 sv141 sv142 sv143 sv144 sv145 sv146 sv147 sv148 sv149 sv150 sv151 sv152 sv153 sv154 sv155 sv156 sv157 sv158 sv159 sv160 sv161 sv162 sv163 sv164 sv165 sv166 sv167 sv168 sv169 sv170 sv171 sv172 sv173 sv174 sv175 sv176 sv177 sv178 sv179 sv180 sv181 sv182 sv183 sv184 sv185 sv186 sv187 sv188 sv189 sv190 sv191 sv192 sv193 sv194 sv195 sv196 sv197 sv198 sv199 sv200 sv201 sv202 sv203 sv204 sv205 sv206 sv207 sv208 sv209 sv210 sv211 sv212 sv213 sv214 sv215 sv216 sv217 sv218 sv219 sv220 sv221 sv222 sv223 sv224 sv225 sv226 sv227 sv228 sv229 sv230 sv231 sv232 sv233 sv234 sv235 sv236 sv237 sv238 sv239 sv240 sv241 sv242 sv243 sv244 sv245 sv246 sv247 sv248 sv249 sv250 sv251 sv252 sv253 sv254 sv255 sv256 sv257 sv258 sv259 sv260 sv261 sv262 sv263 sv264 sv265 sv266 sv267 sv268 sv269 sv270 sv271 sv272 sv273 sv274 sv275 sv276 sv277 sv278 sv279 sv280 sv281 sv282 sv283 sv284 sv285 sv286 sv287 sv288 sv289 sv290 sv291 sv292 sv293 sv294 sv295 sv296 sv297 sv298 sv299 sv300 sv301 sv302 sv303 sv304 sv305 sv306 sv307 sv308 sv309 sv310 sv311 sv312 sv313 sv314 sv315 sv316 sv317 sv318 sv319 sv320 d a w → (∀ i, i < ops.size → d i = true) → Q .normal a w) : (Code.region id ops true).wp P Q a w := wp_region_inv hm hd (MoveIn W0 B n g2 c2 g3 c3 i0 i1 v1 v0 q1 q2 e0 e1 e2 e sv1 sv2 sv3 sv4 sv5 sv6 sv7 sv8 sv9 sv10 sv11 sv12 sv13 sv14 sv15 sv16 sv17 sv18 sv23 sv24 sv25 sv26 sv27 sv28 sv29 sv30 sv31 sv32 sv33 sv34 sv35 sv36 sv37 sv38 sv39 sv40 sv41 sv42 sv43 sv44 sv45 sv46 sv47 sv48 sv49 sv50 sv51 sv52 sv53 sv54 sv55 sv56 sv57 sv58 sv59 sv60 sv61 sv62 sv63 sv64 sv65 sv66 sv67 sv68 sv69 sv70 sv71 sv72 sv73 sv74 sv75 sv76 sv77 sv78 sv79 sv80 sv81 sv82 sv83 sv84 sv85 sv86 sv87 sv88 sv89 sv90 sv91 sv92 sv93 sv94 sv95 sv96 sv97 sv98 sv99 sv100 sv101 sv102 sv103 sv104 sv105 sv106 sv107 sv108 sv109 sv110 sv111 sv112 sv113 sv114 sv115 sv116 sv117 sv118 sv119 sv120 sv121 sv122 sv123 sv124 sv125 sv126 sv127 sv128 sv129 sv130 sv131 sv132 sv133 sv134 sv135 sv136 sv137 sv138 sv139 sv140 sv141 sv142 sv143 sv144 sv145 sv146 sv147 sv148 sv149 sv150 sv151 sv152 sv153 sv154 sv155 sv156 sv157 sv158 sv159 sv160 sv161 sv162 sv163 sv164 sv165 sv166 sv167 sv168 sv169 sv170 sv171 sv172 sv173 sv174 sv175 sv176 sv177 sv178 sv179 sv180 sv181 sv182 sv183 sv184 sv185 sv186 sv187 sv188 sv189 sv190 sv191 sv192 sv193 sv194 sv195 sv196 sv197 sv198 sv199 sv200 sv201 sv202 sv203 sv204 sv205 sv206 sv207 sv208 sv209 sv210 sv211 sv212 sv213 sv214 sv215 sv216 sv217 sv218 sv219 sv220 sv221 sv222 sv223 sv224 sv225 sv226 sv227 sv228 sv229 sv230 sv231 sv232 sv233 sv234 sv235 sv236 sv237 sv238 sv239 sv240 sv241 sv242 sv243 sv244 sv245 sv246 sv247 sv248 sv249 sv250 sv251 sv252 sv253 sv254 sv255 sv256 sv257 sv258 sv259 sv260 sv261 sv262 sv263 sv264 sv265 sv266 sv267 sv268 sv269 sv270 sv271 sv272 sv273 sv274 sv275 sv276 sv277 sv278 sv279 sv280 sv281 sv282 sv283 sv284 sv285 sv286 sv287 sv288 sv289 sv290 sv291 sv292 sv293 sv294 sv295 sv296 sv297 sv298 sv299 sv300 sv301 sv302 sv303 sv304 sv305 sv306 sv307 sv308 sv309 sv310 sv311 sv312 sv313 sv314 sv315 sv316 sv317 sv318 sv319 sv320) h0 hstep hend
set_option maxRecDepth 1000000 in
set_option maxHeartbeats 16000000 in
theorem do_move_n (m : Nat) (w : World) (B n : Nat) (s : St) (g1 c1 g2 c2 g3 c3 : Nat) (cv lv : Value) (c : Cal) (i0 : Nat) (hi0 : i0 < n) (i1 : Nat) (hi1 : i1 < n) (a2 : Int) (ra2 : 0 ≤ a2 ∧ a2 ≤ 9999) (h : StBox m w B n s g1 c1 g2 c2 g3 c3) (hg : Good s) (h2z : a2 = 0) (hc : CalAt w cv c) (hv : validF c = 0) (hl : IntsAt w lv [(i0 : Int), (i1 : Int), a2]) :
    Calls Tryz.prog 64 #[.pointer (some ⟨B, 0, none⟩), cv, frmV (6, 3, 2), lv] w (DoR m w B n g1 c1 g2 c2 g3 c3 (kindE c s 6 [(i0 : Int), (i1 : Int), a2]) (kindS c s 6 [(i0 : Int), (i1 : Int), a2])) := by
  have HB := Lib.hid h
  have HG := Lib.hid hg
  have HC := Lib.hid hc
  have HV := Lib.hid hv
  have HL := Lib.hid hl
  have hn1 := h.st.n1
  have hn8 := h.st.n8
  have hmB := h.mB
  have hBl : B < w.heap.size := (Array.getElem?_eq_some_iff.1 h.box).1
  have hmW : m ≤ w.heap.size := by omega
  obtain ⟨ca, cc, rfl, hlc, hcm, -⟩ := hl
  obtain ⟨fv, sv, rfl, -⟩ := id hc
  obtain ⟨fa, fn, fc, rfl, sa, sn, sc, rfl⟩ : ∃ fa fn fc, fv = .slice fa fn fc ∧ ∃ sa sn sc, sv = .slice sa sn sc := by
    obtain ⟨fv', sv', e, ⟨fa, fc, e1, _⟩, ⟨sa, sc, e2, _⟩⟩ := HC.out
    simp only [Value.agg.injEq, Array.mk.injEq, List.cons.injEq, and_true, true_and] at e
    exact ⟨fa, _, fc, by rw [e.1, e1], sa, _, sc, by rw [e.2, e2]⟩
  simp only [List.length_cons, List.length_nil, Nat.zero_add, Nat.reduceAdd] at hlc HL ⊢
  obtain ⟨lb, lo, rfl, hlb, x0⟩ := HL.out.cellAt (m := 0) (by simp)
  simp only [gi, List.getElem?_cons_zero, Option.getD_some, Nat.add_zero] at x0
  obtain ⟨_, _, ex1, -, x1⟩ := HL.out.cellAt (m := 1) (by simp)
  cases ex1
  simp [gi] at x1
  obtain ⟨_, _, ex2, -, x2⟩ := HL.out.cellAt (m := 2) (by simp)
  cases ex2
  simp [gi] at x2
  clear h hg hc hv
  unfold frmV
  dsimp only
  go_enter Tryz.func64, Tryz.ntmps64
  go_wp2
  obtain ⟨W0, hW0⟩ : ∃ W0, (w.alloc (.cells #[.int .i64 c.first, .slice fa fn fc, .slice sa sn sc] 25)).alloc (.cells #[.int .i64 6, .int .i64 3, .int .i64 2] 104) = W0 := ⟨_, rfl⟩
  have hbW : Below w.heap.size w W0 := by rw [← hW0]; (repeat' (first | exact Below.refl _ _ | assumption | refine below_new ?_ _ | refine below_draw ?_ | refine below_tail (by assumption) ?_ | refine below_set ?_ (by first | omega | (simp <;> omega)) _))
  have hBC : W0.heap[w.heap.size]? = some (.cells #[.int .i64 c.first, .slice fa fn fc, .slice sa sn sc] 25 (0, 0)) := by
    rw [← hW0, Below.heap_alloc _ _ _ (by simp)]; exact alloc_new _ _ rfl
  have hBF : W0.heap[w.heap.size + 1]? = some (.cells #[.int .i64 6, .int .i64 3, .int .i64 2] 104 (0, 0)) := by
    rw [← hW0]; exact alloc_new _ _ (by simp)
  rw [hW0]
  have HST : Hid (StBox m W0 B n s g1 c1 g2 c2 g3 c3) := HB.out.keep hbW
  have hBW := HST.out.box
  unfold stC at hBW
  have kf := (cell_of_block hBF 0).trans (show _ = some (.int .i64 6) from rfl)
  have _ := ra2
  have b1 := (cell_of_block hBW 1).trans (show _ = some (.slice (some ⟨g1, 0, none⟩) n c1) from rfl)
  have b2 := (cell_of_block hBW 2).trans (show _ = some (.slice (some ⟨g2, 0, none⟩) n c2) from rfl)
  have b7 := (cell_of_block hBW 7).trans (show _ = some (.slice (some ⟨g3, 0, none⟩) n c3) from rfl)
  have hBl0 : B < W0.heap.size := Nat.lt_of_lt_of_le hBl hbW.size
  have y0 := (hbW.cell (p := ⟨lb, lo, none⟩) hlb).trans x0
  have y1 := (hbW.cell (p := ⟨lb, lo + 1, none⟩) hlb).trans x1
  have y2 := (hbW.cell (p := ⟨lb, lo + 2, none⟩) hlb).trans x2
  have hlb0 : lb < W0.heap.size := Nat.lt_of_lt_of_le hlb hbW.size
  have hd0 : decide ((n : Int) ≤ (i0 : Int)) = false := decide_eq_false (by omega)
  have hp0 : (0 : Int) ≤ (i0 : Int) := by omega
  have hq0 : (i0 : Int) < (n : Int) := by omega
  have hd1 : decide ((n : Int) ≤ (i1 : Int)) = false := decide_eq_false (by omega)
  have hp1 : (0 : Int) ≤ (i1 : Int) := by omega
  have hq1 : (i1 : Int) < (n : Int) := by omega
  clear hW0 x0 x1 x2 hBF
  go_loop [32] (fun i => ∃ q : Nat, q ≤ 2 ∧ i = .int .i64 q) (fun i => 2 - (intOf i).toNat)
  case atStart => exact ⟨0, Nat.zero_le _, rfl⟩
  case round =>
    obtain ⟨q, hqo, rfl⟩ := hrel
    rcases (show q = 0 ∨ q = 1 ∨ q = 2 by omega) with rfl | rfl | rfl
    · go_wp2
      go_round
      case rel => exact ⟨1, by omega, by go_num⟩
      case measure => simp [intOf]
    · go_wp2
      go_round
      case rel => exact ⟨2, by omega, by go_num⟩
      case measure => simp [intOf]
    skip
    obtain ⟨v0, hv0_⟩ : ∃ v, gi s.opn false i0 = v := ⟨_, rfl⟩
    have z0 : W0.cell? ⟨g3, i0, none⟩ = some (.bool v0) := by rw [← hv0_]; exact HST.out.st.c3 hi0
    have fz0 : W0.frozen? ⟨g3, i0, none⟩ = false := HST.out.st.r3.frozen _
    have hgl0 : g3 < W0.heap.size := HST.out.st.r3.lt
    obtain ⟨v1, hv1_⟩ : ∃ v, gi s.laid 0 i1 = v := ⟨_, rfl⟩
    have z1 : W0.cell? ⟨g2, i1, none⟩ = some (.int .i64 v1) := by rw [← hv1_]; exact HST.out.st.c2 hi1
    have fz1 : W0.frozen? ⟨g2, i1, none⟩ = false := HST.out.st.r2.frozen _
    have hgl1 : g2 < W0.heap.size := HST.out.st.r2.lt
    have rv1 : 0 ≤ v1 ∧ v1 ≤ 10000 := by rw [← hv1_]; have hh := gi_mem (d := 0) (by rw [HST.out.st.l2]; exact hi1 : i1 < s.laid.length); exact ⟨HG.out.laid0 _ hh, (HG.out.laid_few HST.out.st).2 _ hh⟩
    obtain ⟨v2, hv2_⟩ : ∃ v, gi s.laid 0 i0 = v := ⟨_, rfl⟩
    have z2 : W0.cell? ⟨g2, i0, none⟩ = some (.int .i64 v2) := by rw [← hv2_]; exact HST.out.st.c2 hi0
    have fz2 : W0.frozen? ⟨g2, i0, none⟩ = false := HST.out.st.r2.frozen _
    have hgl2 : g2 < W0.heap.size := HST.out.st.r2.lt
    have rv2 : 0 ≤ v2 ∧ v2 ≤ 10000 := by rw [← hv2_]; have hh := gi_mem (d := 0) (by rw [HST.out.st.l2]; exact hi0 : i0 < s.laid.length); exact ⟨HG.out.laid0 _ hh, (HG.out.laid_few HST.out.st).2 _ hh⟩
    have hw1 : IntKind.i64.wrap (v1 - a2) = v1 - a2 := IntWalk.i64_in _ (by omega)
    have hw2 : IntKind.i64.wrap (v2 + a2) = v2 + a2 := IntWalk.i64_in _ (by omega)
    have n23 := HST.out.st.d23
    have n32 := Ne.symm n23
    have nB2 := HST.out.e2
    have nB3 := HST.out.e3
    have n2B := Ne.symm nB2
    have n3B := Ne.symm nB3
    have hmx := mixed
    have HD : Hid (Done m w W0 B n s g1 c1 g2 c2 g3 c3) := ⟨hbW.mono hmW, HST.out⟩
    subst h2z
    obtain ⟨e0, he0⟩ : ∃ e, whenE true 1 = e := ⟨_, rfl⟩
    have H0 := Lib.hid he0
    obtain ⟨q1, hq1_⟩ : ∃ q, (!v0) = q := ⟨_, rfl⟩
    obtain ⟨e1, he1⟩ : ∃ e, whenE q1 10 = e := ⟨_, rfl⟩
    have H1 := Lib.hid he1
    obtain ⟨q2, hq2_⟩ : ∃ q, (decide (v1 < 0)) = q := ⟨_, rfl⟩
    obtain ⟨e2, he2⟩ : ∃ e, whenE q2 8 = e := ⟨_, rfl⟩
    have H2 := Lib.hid he2
    obtain ⟨e, he⟩ : ∃ e, orFrom [e0, e1, e2] 0 = e := ⟨_, rfl⟩
    have HEE := Lib.hid he
    have HKE : Hid (orFrom [whenE (true) 1, whenE (!v0) 10, whenE (decide (v1 < 0)) 8] 0 = e) := by show _ = _; rw [← he, ← he0, ← he1, ← he2, hq1_, hq2_]
    clear he he0 he1 he2
    have HKK : Hid (kindE c s 6 [(i0 : Int), (i1 : Int), 0] = e) := by
      show orFrom [whenE (0 == 0 || (i0 : Int) == (i1 : Int)) 1, whenE (!gi s.opn false i0) 10, whenE (decide (gi s.laid 0 i1 < 0)) 8] 0 = e
      rw [hv0_, hv1_]; exact HKE.out
    have hm := cells_errV
    unfold Value.cells at hm
    go_wp2
    go_big_region_o
    go_wp2
    apply MoveIn_law W0 B n g2 c2 g3 c3 i0 i1 v1 v0 q1 q2 e0 e1 e2 e mixed (by kernel_rfl)
    case h0 =>
      unfold MoveIn
      refine ⟨_, _, _, _, _, _, _, _, _, _, _, _, _, _, _, _, _, _, _, _, _, _, _, _, _, _, _, _, _, _, rfl, by (repeat' (first | exact Below.refl _ _ | assumption | refine below_new ?_ _ | refine below_draw ?_ | refine below_tail (by assumption) ?_ | refine below_set ?_ (by first | omega | (simp <;> omega)) _)), ?_⟩
      simp only [Bool.false_eq_true, false_implies, and_self]
    case hstep =>
      intro d a x hI i hi hdi hed
      unfold MoveIn at hI
      obtain ⟨u22, u321, u322, u323, u324, u325, u326, u327, u328, u329, u330, u331, u332, u333, u334, u335, u336, u337, u338, u339, u340, u341, u342, u343, u344, u345, u346, u347, u348, u349, ha_, hR⟩ := hI
      obtain ⟨fb, f0, f1, f2, f3, f4, f5, f6, f7, f8, f9, f10, f11, f12, f13, f14, f15, f16, f17, f18, f19, f20, f21, f22, f23, f24, f25, f26, f27, f28, f29⟩ := hR
      subst ha_
      have hi' : i < 30 := hi
      clear hi
      rcases (show i = 0 ∨ i = 1 ∨ i = 2 ∨ i = 3 ∨ i = 4 ∨ i = 5 ∨ i = 6 ∨ i = 7 ∨ i = 8 ∨ i = 9 ∨ i = 10 ∨ i = 11 ∨ i = 12 ∨ i = 13 ∨ i = 14 ∨ i = 15 ∨ i = 16 ∨ i = 17 ∨ i = 18 ∨ i = 19 ∨ i = 20 ∨ i = 21 ∨ i = 22 ∨ i = 23 ∨ i = 24 ∨ i = 25 ∨ i = 26 ∨ i = 27 ∨ i = 28 ∨ i = 29 by omega) with rfl | rfl | rfl | rfl | rfl | rfl | rfl | rfl | rfl | rfl | rfl | rfl | rfl | rfl | rfl | rfl | rfl | rfl | rfl | rfl | rfl | rfl | rfl | rfl | rfl | rfl | rfl | rfl | rfl | rfl
      · have he := hed _ rfl
        simp only [Region.binds] at he
        try simp at he
        clear hed hdi
        refine wpOp_step rfl (fun K hK => ?_)
        go_simp
        (try (refine hK _ _ ?_; clear hK K))
        unfold MoveIn
        refine ⟨_, _, _, _, _, _, _, _, _, _, _, _, _, _, _, _, _, _, _, _, _, _, _, _, _, _, _, _, _, _, rfl, ?_⟩
        simp only [Nat.reduceBEq, Bool.false_or, Bool.true_or, beq_self_eq_true, forall_const]
        exact ⟨fb, (by first | rfl | trivial), f1, f2, f3, f4, f5, f6, f7, f8, f9, f10, f11, f12, f13, f14, f15, f16, f17, f18, f19, f20, f21, f22, f23, f24, f25, f26, f27, f28, f29⟩
      · have he := hed _ rfl
        simp only [Region.binds] at he
        try simp at he
        clear hed hdi
        refine wpOp_step rfl (fun K hK => ?_)
        have g0 := f0 (he)
        subst g0
        go_simp
        (try (refine hK _ _ ?_; clear hK K))
        unfold MoveIn
        refine ⟨_, _, _, _, _, _, _, _, _, _, _, _, _, _, _, _, _, _, _, _, _, _, _, _, _, _, _, _, _, _, rfl, ?_⟩
        simp only [Nat.reduceBEq, Bool.false_or, Bool.true_or, beq_self_eq_true, forall_const]
        exact ⟨fb, (by first | exact f0 | (intros; trivial) | (intros; rfl)), (by first | rfl | trivial), f2, f3, f4, f5, f6, f7, f8, f9, f10, f11, f12, f13, f14, f15, f16, f17, f18, f19, f20, f21, f22, f23, f24, f25, f26, f27, f28, f29⟩
      · have he := hed _ rfl
        simp only [Region.binds] at he
        try simp at he
        clear hed hdi
        refine wpOp_step rfl (fun K hK => ?_)
        have g1 := f1 (he)
        subst g1
        go_simp
        (try (refine hK _ _ ?_; clear hK K))
        unfold MoveIn
        refine ⟨_, _, _, _, _, _, _, _, _, _, _, _, _, _, _, _, _, _, _, _, _, _, _, _, _, _, _, _, _, _, rfl, ?_⟩
        simp only [Nat.reduceBEq, Bool.false_or, Bool.true_or, beq_self_eq_true, forall_const]
        exact ⟨fb, f0, (by first | exact f1 | (intros; trivial) | (intros; rfl)), (by first | rfl | trivial), f3, f4, f5, f6, f7, f8, f9, f10, f11, f12, f13, f14, f15, f16, f17, f18, f19, f20, f21, f22, f23, f24, f25, f26, f27, f28, f29⟩
      · have he := hed _ rfl
        simp only [Region.binds] at he
        try simp at he
        clear hed hdi
        refine wpOp_step rfl (fun K hK => ?_)
        have g2 := f2 (he)
        subst g2
        go_simp
        (try (refine hK _ _ ?_; clear hK K))
        unfold MoveIn
        refine ⟨_, _, _, _, _, _, _, _, _, _, _, _, _, _, _, _, _, _, _, _, _, _, _, _, _, _, _, _, _, _, rfl, ?_⟩
        simp only [Nat.reduceBEq, Bool.false_or, Bool.true_or, beq_self_eq_true, forall_const]
        exact ⟨fb, f0, f1, (by first | exact f2 | (intros; trivial) | (intros; rfl)), (by first | rfl | trivial), f4, f5, f6, f7, f8, f9, f10, f11, f12, f13, f14, f15, f16, f17, f18, f19, f20, f21, f22, f23, f24, f25, f26, f27, f28, f29⟩
      · have he := hed _ rfl
        simp only [Region.binds] at he
        try simp at he
        clear hed hdi
        refine wpOp_step rfl (fun K hK => ?_)
        have g2 := f2 (he)
        subst g2
        go_simp
        (try (refine hK _ _ ?_; clear hK K))
        unfold MoveIn
        refine ⟨_, _, _, _, _, _, _, _, _, _, _, _, _, _, _, _, _, _, _, _, _, _, _, _, _, _, _, _, _, _, rfl, ?_⟩
        simp only [Nat.reduceBEq, Bool.false_or, Bool.true_or, beq_self_eq_true, forall_const]
        exact ⟨fb, f0, f1, (by first | exact f2 | (intros; trivial) | (intros; rfl)), f3, (by first | rfl | trivial), f5, f6, f7, f8, f9, f10, f11, f12, f13, f14, f15, f16, f17, f18, f19, f20, f21, f22, f23, f24, f25, f26, f27, f28, f29⟩
      · have he := hed _ rfl
        simp only [Region.binds] at he
        try simp at he
        clear hed hdi
        refine wpOp_step rfl (fun K hK => ?_)
        have g3 := f3 (he.1)
        subst g3
        have g4 := f4 (he.2.1)
        subst g4
        have g2 := f2 (he.2.2)
        subst g2
        go_simp
        (try (refine hK _ _ ?_; clear hK K))
        unfold MoveIn
        refine ⟨_, _, _, _, _, _, _, _, _, _, _, _, _, _, _, _, _, _, _, _, _, _, _, _, _, _, _, _, _, _, rfl, ?_⟩
        simp only [Nat.reduceBEq, Bool.false_or, Bool.true_or, beq_self_eq_true, forall_const]
        exact ⟨fb, f0, f1, (by first | exact f2 | (intros; trivial) | (intros; rfl)), (by first | exact f3 | (intros; trivial) | (intros; rfl)), (by first | exact f4 | (intros; trivial) | (intros; rfl)), (by first | rfl | trivial), f6, f7, f8, f9, f10, f11, f12, f13, f14, f15, f16, f17, f18, f19, f20, f21, f22, f23, f24, f25, f26, f27, f28, f29⟩
      · have he := hed _ rfl
        simp only [Region.binds] at he
        try simp at he
        clear hed hdi
        refine wpOp_step rfl (fun K hK => ?_)
        have g2 := f2 (he.1)
        subst g2
        have g5 := f5 (he.2)
        subst g5
        go_simp
        (try (refine hK _ _ ?_; clear hK K))
        unfold MoveIn
        refine ⟨_, _, _, _, _, _, _, _, _, _, _, _, _, _, _, _, _, _, _, _, _, _, _, _, _, _, _, _, _, _, rfl, ?_⟩
        simp only [Nat.reduceBEq, Bool.false_or, Bool.true_or, beq_self_eq_true, forall_const]
        exact ⟨fb, f0, f1, (by first | exact f2 | (intros; trivial) | (intros; rfl)), f3, f4, (by first | exact f5 | (intros; trivial) | (intros; rfl)), (by first | rfl | trivial), f7, f8, f9, f10, f11, f12, f13, f14, f15, f16, f17, f18, f19, f20, f21, f22, f23, f24, f25, f26, f27, f28, f29⟩
      · have he := hed _ rfl
        simp only [Region.binds] at he
        try simp at he
        clear hed hdi
        refine wpOp_step rfl (fun K hK => ?_)
        have g6 := f6 (he.1)
        subst g6
        go_wp2_with (go_at_call 97; (with_reducible refine (when_is (by decide) H0.out).use ?_))
        (try (refine hK _ _ ?_; clear hK K))
        unfold MoveIn
        refine ⟨_, _, _, _, _, _, _, _, _, _, _, _, _, _, _, _, _, _, _, _, _, _, _, _, _, _, _, _, _, _, rfl, ?_⟩
        simp only [Nat.reduceBEq, Bool.false_or, Bool.true_or, beq_self_eq_true, forall_const]
        exact ⟨fb, f0, f1, (by first | exact f2 | (intros; trivial) | (intros; rfl)), f3, f4, f5, (by first | exact f6 | (intros; trivial) | (intros; rfl)), (by first | rfl | trivial), f8, f9, f10, f11, f12, f13, f14, f15, f16, f17, f18, f19, f20, f21, f22, f23, f24, f25, f26, f27, f28, f29⟩
      · have he := hed _ rfl
        simp only [Region.binds] at he
        try simp at he
        clear hed hdi
        refine wpOp_step rfl (fun K hK => ?_)
        go_simp
        (try (refine hK _ _ ?_; clear hK K))
        unfold MoveIn
        refine ⟨_, _, _, _, _, _, _, _, _, _, _, _, _, _, _, _, _, _, _, _, _, _, _, _, _, _, _, _, _, _, rfl, ?_⟩
        simp only [Nat.reduceBEq, Bool.false_or, Bool.true_or, beq_self_eq_true, forall_const]
        exact ⟨fb, f0, f1, f2, f3, f4, f5, f6, f7, (by first | rfl | trivial), f9, f10, f11, f12, f13, f14, f15, f16, f17, f18, f19, f20, f21, f22, f23, f24, f25, f26, f27, f28, f29⟩
      · have he := hed _ rfl
        simp only [Region.binds] at he
        try simp at he
        clear hed hdi
        refine wpOp_step rfl (fun K hK => ?_)
        have g8 := f8 (he)
        subst g8
        go_simp
        (try (refine hK _ _ ?_; clear hK K))
        unfold MoveIn
        refine ⟨_, _, _, _, _, _, _, _, _, _, _, _, _, _, _, _, _, _, _, _, _, _, _, _, _, _, _, _, _, _, rfl, ?_⟩
        simp only [Nat.reduceBEq, Bool.false_or, Bool.true_or, beq_self_eq_true, forall_const]
        exact ⟨fb, f0, f1, f2, f3, f4, f5, f6, f7, (by first | exact f8 | (intros; trivial) | (intros; rfl)), (by first | rfl | trivial), f10, f11, f12, f13, f14, f15, f16, f17, f18, f19, f20, f21, f22, f23, f24, f25, f26, f27, f28, f29⟩
      · have he := hed _ rfl
        simp only [Region.binds] at he
        try simp at he
        clear hed hdi
        refine wpOp_step rfl (fun K hK => ?_)
        have g9 := f9 (he)
        subst g9
        go_simp
        (try (refine hK _ _ ?_; clear hK K))
        unfold MoveIn
        refine ⟨_, _, _, _, _, _, _, _, _, _, _, _, _, _, _, _, _, _, _, _, _, _, _, _, _, _, _, _, _, _, rfl, ?_⟩
        simp only [Nat.reduceBEq, Bool.false_or, Bool.true_or, beq_self_eq_true, forall_const]
        exact ⟨fb, f0, f1, f2, f3, f4, f5, f6, f7, f8, (by first | exact f9 | (intros; trivial) | (intros; rfl)), (by first | rfl | trivial), f11, f12, f13, f14, f15, f16, f17, f18, f19, f20, f21, f22, f23, f24, f25, f26, f27, f28, f29⟩
      · have he := hed _ rfl
        simp only [Region.binds] at he
        try simp at he
        clear hed hdi
        refine wpOp_step rfl (fun K hK => ?_)
        have g10 := f10 (he)
        subst g10
        have qc := (fb.cell (p := ⟨B, 7, none⟩) hBl0).trans b7
        go_simp
        (try (refine hK _ _ ?_; clear hK K))
        unfold MoveIn
        refine ⟨_, _, _, _, _, _, _, _, _, _, _, _, _, _, _, _, _, _, _, _, _, _, _, _, _, _, _, _, _, _, rfl, ?_⟩
        simp only [Nat.reduceBEq, Bool.false_or, Bool.true_or, beq_self_eq_true, forall_const]
        exact ⟨fb, f0, f1, f2, f3, f4, f5, f6, f7, f8, f9, (by first | exact f10 | (intros; trivial) | (intros; rfl)), (by first | rfl | trivial), f12, f13, f14, f15, f16, f17, f18, f19, f20, f21, f22, f23, f24, f25, f26, f27, f28, f29⟩
      · have he := hed _ rfl
        simp only [Region.binds] at he
        try simp at he
        clear hed hdi
        refine wpOp_step rfl (fun K hK => ?_)
        go_simp
        (try (refine hK _ _ ?_; clear hK K))
        unfold MoveIn
        refine ⟨_, _, _, _, _, _, _, _, _, _, _, _, _, _, _, _, _, _, _, _, _, _, _, _, _, _, _, _, _, _, rfl, ?_⟩
        simp only [Nat.reduceBEq, Bool.false_or, Bool.true_or, beq_self_eq_true, forall_const]
        exact ⟨fb, f0, f1, f2, f3, f4, f5, f6, f7, f8, f9, f10, f11, (by first | rfl | trivial), f13, f14, f15, f16, f17, f18, f19, f20, f21, f22, f23, f24, f25, f26, f27, f28, f29⟩
      · have he := hed _ rfl
        simp only [Region.binds] at he
        try simp at he
        clear hed hdi
        refine wpOp_step rfl (fun K hK => ?_)
        have g11 := f11 (he.1)
        subst g11
        have g12 := f12 (he.2)
        subst g12
        go_simp
        (try (refine hK _ _ ?_; clear hK K))
        unfold MoveIn
        refine ⟨_, _, _, _, _, _, _, _, _, _, _, _, _, _, _, _, _, _, _, _, _, _, _, _, _, _, _, _, _, _, rfl, ?_⟩
        simp only [Nat.reduceBEq, Bool.false_or, Bool.true_or, beq_self_eq_true, forall_const]
        exact ⟨fb, f0, f1, f2, f3, f4, f5, f6, f7, f8, f9, f10, (by first | exact f11 | (intros; trivial) | (intros; rfl)), (by first | exact f12 | (intros; trivial) | (intros; rfl)), (by first | rfl | trivial), f14, f15, f16, f17, f18, f19, f20, f21, f22, f23, f24, f25, f26, f27, f28, f29⟩
      · have he := hed _ rfl
        simp only [Region.binds] at he
        try simp at he
        clear hed hdi
        refine wpOp_step rfl (fun K hK => ?_)
        have g13 := f13 (he)
        subst g13
        have qc := (fb.cell (p := ⟨g3, i0, none⟩) hgl0).trans z0
        go_simp
        (try (refine hK _ _ ?_; clear hK K))
        unfold MoveIn
        refine ⟨_, _, _, _, _, _, _, _, _, _, _, _, _, _, _, _, _, _, _, _, _, _, _, _, _, _, _, _, _, _, rfl, ?_⟩
        simp only [Nat.reduceBEq, Bool.false_or, Bool.true_or, beq_self_eq_true, forall_const]
        exact ⟨fb, f0, f1, f2, f3, f4, f5, f6, f7, f8, f9, f10, f11, f12, (by first | exact f13 | (intros; trivial) | (intros; rfl)), (by first | rfl | trivial), f15, f16, f17, f18, f19, f20, f21, f22, f23, f24, f25, f26, f27, f28, f29⟩
      · have he := hed _ rfl
        simp only [Region.binds] at he
        try simp at he
        clear hed hdi
        refine wpOp_step rfl (fun K hK => ?_)
        have g14 := f14 (he)
        subst g14
        go_simp
        (try (refine hK _ _ ?_; clear hK K))
        unfold MoveIn
        refine ⟨_, _, _, _, _, _, _, _, _, _, _, _, _, _, _, _, _, _, _, _, _, _, _, _, _, _, _, _, _, _, rfl, ?_⟩
        simp only [Nat.reduceBEq, Bool.false_or, Bool.true_or, beq_self_eq_true, forall_const]
        exact ⟨fb, f0, f1, f2, f3, f4, f5, f6, f7, f8, f9, f10, f11, f12, f13, (by first | exact f14 | (intros; trivial) | (intros; rfl)), (by first | rfl | trivial), f16, f17, f18, f19, f20, f21, f22, f23, f24, f25, f26, f27, f28, f29⟩
      · have he := hed _ rfl
        simp only [Region.binds] at he
        try simp at he
        clear hed hdi
        refine wpOp_step rfl (fun K hK => ?_)
        have g15 := f15 (he.1)
        subst g15
        go_wp2_with (go_at_call 97; (with_reducible refine (when_is (by decide) H1.out).use ?_))
        (try (refine hK _ _ ?_; clear hK K))
        unfold MoveIn
        refine ⟨_, _, _, _, _, _, _, _, _, _, _, _, _, _, _, _, _, _, _, _, _, _, _, _, _, _, _, _, _, _, rfl, ?_⟩
        simp only [Nat.reduceBEq, Bool.false_or, Bool.true_or, beq_self_eq_true, forall_const]
        exact ⟨fb, f0, f1, f2, f3, f4, f5, f6, (by first | exact f7 | (intros; trivial) | (intros; rfl)), f8, f9, f10, f11, f12, f13, f14, (by first | exact f15 | (intros; trivial) | (intros; rfl)), (by first | rfl | trivial), f17, f18, f19, f20, f21, f22, f23, f24, f25, f26, f27, f28, f29⟩
      · have he := hed _ rfl
        simp only [Region.binds] at he
        try simp at he
        clear hed hdi
        refine wpOp_step rfl (fun K hK => ?_)
        go_simp
        (try (refine hK _ _ ?_; clear hK K))
        unfold MoveIn
        refine ⟨_, _, _, _, _, _, _, _, _, _, _, _, _, _, _, _, _, _, _, _, _, _, _, _, _, _, _, _, _, _, rfl, ?_⟩
        simp only [Nat.reduceBEq, Bool.false_or, Bool.true_or, beq_self_eq_true, forall_const]
        exact ⟨fb, f0, f1, f2, f3, f4, f5, f6, f7, f8, f9, f10, f11, f12, f13, f14, f15, f16, (by first | rfl | trivial), f18, f19, f20, f21, f22, f23, f24, f25, f26, f27, f28, f29⟩
      · have he := hed _ rfl
        simp only [Region.binds] at he
        try simp at he
        clear hed hdi
        refine wpOp_step rfl (fun K hK => ?_)
        have g17 := f17 (he)
        subst g17
        go_simp
        (try (refine hK _ _ ?_; clear hK K))
        unfold MoveIn
        refine ⟨_, _, _, _, _, _, _, _, _, _, _, _, _, _, _, _, _, _, _, _, _, _, _, _, _, _, _, _, _, _, rfl, ?_⟩
        simp only [Nat.reduceBEq, Bool.false_or, Bool.true_or, beq_self_eq_true, forall_const]
        exact ⟨fb, f0, f1, f2, f3, f4, f5, f6, f7, f8, f9, f10, f11, f12, f13, f14, f15, f16, (by first | exact f17 | (intros; trivial) | (intros; rfl)), (by first | rfl | trivial), f19, f20, f21, f22, f23, f24, f25, f26, f27, f28, f29⟩
      · have he := hed _ rfl
        simp only [Region.binds] at he
        try simp at he
        clear hed hdi
        refine wpOp_step rfl (fun K hK => ?_)
        have g18 := f18 (he)
        subst g18
        go_simp
        (try (refine hK _ _ ?_; clear hK K))
        unfold MoveIn
        refine ⟨_, _, _, _, _, _, _, _, _, _, _, _, _, _, _, _, _, _, _, _, _, _, _, _, _, _, _, _, _, _, rfl, ?_⟩
        simp only [Nat.reduceBEq, Bool.false_or, Bool.true_or, beq_self_eq_true, forall_const]
        exact ⟨fb, f0, f1, f2, f3, f4, f5, f6, f7, f8, f9, f10, f11, f12, f13, f14, f15, f16, f17, (by first | exact f18 | (intros; trivial) | (intros; rfl)), (by first | rfl | trivial), f20, f21, f22, f23, f24, f25, f26, f27, f28, f29⟩
      · have he := hed _ rfl
        simp only [Region.binds] at he
        try simp at he
        clear hed hdi
        refine wpOp_step rfl (fun K hK => ?_)
        have g19 := f19 (he)
        subst g19
        have qc := (fb.cell (p := ⟨B, 2, none⟩) hBl0).trans b2
        go_simp
        (try (refine hK _ _ ?_; clear hK K))
        unfold MoveIn
        refine ⟨_, _, _, _, _, _, _, _, _, _, _, _, _, _, _, _, _, _, _, _, _, _, _, _, _, _, _, _, _, _, rfl, ?_⟩
        simp only [Nat.reduceBEq, Bool.false_or, Bool.true_or, beq_self_eq_true, forall_const]
        exact ⟨fb, f0, f1, f2, f3, f4, f5, f6, f7, f8, f9, f10, f11, f12, f13, f14, f15, f16, f17, f18, (by first | exact f19 | (intros; trivial) | (intros; rfl)), (by first | rfl | trivial), f21, f22, f23, f24, f25, f26, f27, f28, f29⟩
      · have he := hed _ rfl
        simp only [Region.binds] at he
        try simp at he
        clear hed hdi
        refine wpOp_step rfl (fun K hK => ?_)
        go_simp
        (try (refine hK _ _ ?_; clear hK K))
        unfold MoveIn
        refine ⟨_, _, _, _, _, _, _, _, _, _, _, _, _, _, _, _, _, _, _, _, _, _, _, _, _, _, _, _, _, _, rfl, ?_⟩
        simp only [Nat.reduceBEq, Bool.false_or, Bool.true_or, beq_self_eq_true, forall_const]
        exact ⟨fb, f0, f1, f2, f3, f4, f5, f6, f7, f8, f9, f10, f11, f12, f13, f14, f15, f16, f17, f18, f19, f20, (by first | rfl | trivial), f22, f23, f24, f25, f26, f27, f28, f29⟩
      · have he := hed _ rfl
        simp only [Region.binds] at he
        try simp at he
        clear hed hdi
        refine wpOp_step rfl (fun K hK => ?_)
        have g20 := f20 (he.1)
        subst g20
        have g21 := f21 (he.2)
        subst g21
        go_simp
        (try (refine hK _ _ ?_; clear hK K))
        unfold MoveIn
        refine ⟨_, _, _, _, _, _, _, _, _, _, _, _, _, _, _, _, _, _, _, _, _, _, _, _, _, _, _, _, _, _, rfl, ?_⟩
        simp only [Nat.reduceBEq, Bool.false_or, Bool.true_or, beq_self_eq_true, forall_const]
        exact ⟨fb, f0, f1, f2, f3, f4, f5, f6, f7, f8, f9, f10, f11, f12, f13, f14, f15, f16, f17, f18, f19, (by first | exact f20 | (intros; trivial) | (intros; rfl)), (by first | exact f21 | (intros; trivial) | (intros; rfl)), (by first | rfl | trivial), f23, f24, f25, f26, f27, f28, f29⟩
      · have he := hed _ rfl
        simp only [Region.binds] at he
        try simp at he
        clear hed hdi
        refine wpOp_step rfl (fun K hK => ?_)
        have g22 := f22 (he)
        subst g22
        have qc := (fb.cell (p := ⟨g2, i1, none⟩) hgl1).trans z1
        go_simp
        (try (refine hK _ _ ?_; clear hK K))
        unfold MoveIn
        refine ⟨_, _, _, _, _, _, _, _, _, _, _, _, _, _, _, _, _, _, _, _, _, _, _, _, _, _, _, _, _, _, rfl, ?_⟩
        simp only [Nat.reduceBEq, Bool.false_or, Bool.true_or, beq_self_eq_true, forall_const]
        exact ⟨fb, f0, f1, f2, f3, f4, f5, f6, f7, f8, f9, f10, f11, f12, f13, f14, f15, f16, f17, f18, f19, f20, f21, (by first | exact f22 | (intros; trivial) | (intros; rfl)), (by first | rfl | trivial), f24, f25, f26, f27, f28, f29⟩
      · have he := hed _ rfl
        simp only [Region.binds] at he
        try simp at he
        clear hed hdi
        refine wpOp_step rfl (fun K hK => ?_)
        go_simp
        (try (refine hK _ _ ?_; clear hK K))
        unfold MoveIn
        refine ⟨_, _, _, _, _, _, _, _, _, _, _, _, _, _, _, _, _, _, _, _, _, _, _, _, _, _, _, _, _, _, rfl, ?_⟩
        simp only [Nat.reduceBEq, Bool.false_or, Bool.true_or, beq_self_eq_true, forall_const]
        exact ⟨fb, f0, f1, f2, f3, f4, f5, f6, f7, f8, f9, f10, f11, f12, f13, f14, f15, f16, f17, f18, f19, f20, f21, f22, f23, (by first | rfl | trivial), f25, f26, f27, f28, f29⟩
      · have he := hed _ rfl
        simp only [Region.binds] at he
        try simp at he
        clear hed hdi
        refine wpOp_step rfl (fun K hK => ?_)
        have g23 := f23 (he.1)
        subst g23
        have g24 := f24 (he.2)
        subst g24
        go_simp
        (try (refine hK _ _ ?_; clear hK K))
        unfold MoveIn
        refine ⟨_, _, _, _, _, _, _, _, _, _, _, _, _, _, _, _, _, _, _, _, _, _, _, _, _, _, _, _, _, _, rfl, ?_⟩
        simp only [Nat.reduceBEq, Bool.false_or, Bool.true_or, beq_self_eq_true, forall_const]
        exact ⟨fb, f0, f1, f2, f3, f4, f5, f6, f7, f8, f9, f10, f11, f12, f13, f14, f15, f16, f17, f18, f19, f20, f21, f22, (by first | exact f23 | (intros; trivial) | (intros; rfl)), (by first | exact f24 | (intros; trivial) | (intros; rfl)), (by first | rfl | trivial), f26, f27, f28, f29⟩
      · have he := hed _ rfl
        simp only [Region.binds] at he
        try simp at he
        clear hed hdi
        refine wpOp_step rfl (fun K hK => ?_)
        have g25 := f25 (he.1)
        subst g25
        go_wp2_with (go_at_call 97; (with_reducible refine (when_is (by decide) H2.out).use ?_))
        (try (refine hK _ _ ?_; clear hK K))
        unfold MoveIn
        refine ⟨_, _, _, _, _, _, _, _, _, _, _, _, _, _, _, _, _, _, _, _, _, _, _, _, _, _, _, _, _, _, rfl, ?_⟩
        simp only [Nat.reduceBEq, Bool.false_or, Bool.true_or, beq_self_eq_true, forall_const]
        exact ⟨fb, f0, f1, f2, f3, f4, f5, f6, f7, f8, f9, f10, f11, f12, f13, f14, f15, (by first | exact f16 | (intros; trivial) | (intros; rfl)), f17, f18, f19, f20, f21, f22, f23, f24, (by first | exact f25 | (intros; trivial) | (intros; rfl)), (by first | rfl | trivial), f27, f28, f29⟩
      · have he := hed _ rfl
        simp only [Region.binds] at he
        try simp at he
        clear hed hdi
        refine wpOp_step rfl (fun K hK => ?_)
        have g7 := f7 (he.1)
        subst g7
        have g16 := f16 (he.2.1)
        subst g16
        have g26 := f26 (he.2.2)
        subst g26
        go_simp
        (try (refine hK _ _ ?_; clear hK K))
        unfold MoveIn
        refine ⟨_, _, _, _, _, _, _, _, _, _, _, _, _, _, _, _, _, _, _, _, _, _, _, _, _, _, _, _, _, _, rfl, ?_⟩
        simp only [Nat.reduceBEq, Bool.false_or, Bool.true_or, beq_self_eq_true, forall_const]
        exact ⟨by (repeat' (first | exact Below.refl _ _ | assumption | refine below_new ?_ _ | refine below_draw ?_ | refine below_tail (by assumption) ?_ | refine below_set ?_ (by first | omega | (simp <;> omega)) _)), f0, f1, f2, f3, f4, f5, f6, (by first | exact f7 | (intros; trivial) | (intros; rfl)), f8, f9, f10, f11, f12, f13, f14, f15, (by first | exact f16 | (intros; trivial) | (intros; rfl)), f17, f18, f19, f20, f21, f22, f23, f24, f25, (by first | exact f26 | (intros; trivial) | (intros; rfl)), errs3 rfl, f28, f29⟩
      · have he := hed _ rfl
        simp only [Region.binds] at he
        try simp at he
        clear hed hdi
        refine wpOp_step rfl (fun K hK => ?_)
        have g27 := f27 (he.1)
        go_wp2_with (go_at_call 96; (with_reducible refine (first_is g27 HEE.out).use ?_))
        (try (refine hK _ _ ?_; clear hK K))
        unfold MoveIn
        refine ⟨_, _, _, _, _, _, _, _, _, _, _, _, _, _, _, _, _, _, _, _, _, _, _, _, _, _, _, _, _, _, rfl, ?_⟩
        simp only [Nat.reduceBEq, Bool.false_or, Bool.true_or, beq_self_eq_true, forall_const]
        exact ⟨fb, f0, f1, f2, f3, f4, f5, f6, f7, f8, f9, f10, f11, f12, f13, f14, f15, f16, f17, f18, f19, f20, f21, f22, f23, f24, f25, (by first | exact f26 | (intros; trivial) | (intros; rfl)), (by first | exact f27 | (intros; trivial) | (intros; rfl)), (by first | rfl | trivial), f29⟩
      · have he := hed _ rfl
        simp only [Region.binds] at he
        try simp at he
        clear hed hdi
        refine wpOp_step rfl (fun K hK => ?_)
        have g28 := f28 (he.1)
        subst g28
        go_simp
        (try (refine hK _ _ ?_; clear hK K))
        unfold MoveIn
        refine ⟨_, _, _, _, _, _, _, _, _, _, _, _, _, _, _, _, _, _, _, _, _, _, _, _, _, _, _, _, _, _, rfl, ?_⟩
        simp only [Nat.reduceBEq, Bool.false_or, Bool.true_or, beq_self_eq_true, forall_const]
        exact ⟨fb, (by first | exact f0 | (intros; trivial) | (intros; rfl)), (by first | exact f1 | (intros; trivial) | (intros; rfl)), (by first | exact f2 | (intros; trivial) | (intros; rfl)), (by first | exact f3 | (intros; trivial) | (intros; rfl)), (by first | exact f4 | (intros; trivial) | (intros; rfl)), (by first | exact f5 | (intros; trivial) | (intros; rfl)), (by first | exact f6 | (intros; trivial) | (intros; rfl)), (by first | exact f7 | (intros; trivial) | (intros; rfl)), (by first | exact f8 | (intros; trivial) | (intros; rfl)), (by first | exact f9 | (intros; trivial) | (intros; rfl)), (by first | exact f10 | (intros; trivial) | (intros; rfl)), (by first | exact f11 | (intros; trivial) | (intros; rfl)), (by first | exact f12 | (intros; trivial) | (intros; rfl)), (by first | exact f13 | (intros; trivial) | (intros; rfl)), (by first | exact f14 | (intros; trivial) | (intros; rfl)), (by first | exact f15 | (intros; trivial) | (intros; rfl)), (by first | exact f16 | (intros; trivial) | (intros; rfl)), (by first | exact f17 | (intros; trivial) | (intros; rfl)), (by first | exact f18 | (intros; trivial) | (intros; rfl)), (by first | exact f19 | (intros; trivial) | (intros; rfl)), (by first | exact f20 | (intros; trivial) | (intros; rfl)), (by first | exact f21 | (intros; trivial) | (intros; rfl)), (by first | exact f22 | (intros; trivial) | (intros; rfl)), (by first | exact f23 | (intros; trivial) | (intros; rfl)), (by first | exact f24 | (intros; trivial) | (intros; rfl)), (by first | exact f25 | (intros; trivial) | (intros; rfl)), (by first | exact f26 | (intros; trivial) | (intros; rfl)), (by first | exact f27 | (intros; trivial) | (intros; rfl)), (by first | exact f28 | (intros; trivial) | (intros; rfl)), (by first | rfl | trivial)⟩
    case hend =>
      intro d a x hI hall
      unfold MoveIn at hI
      obtain ⟨u22, u321, u322, u323, u324, u325, u326, u327, u328, u329, u330, u331, u332, u333, u334, u335, u336, u337, u338, u339, u340, u341, u342, u343, u344, u345, u346, u347, u348, u349, ha_, hR⟩ := hI
      obtain ⟨fb, f0, f1, f2, f3, f4, f5, f6, f7, f8, f9, f10, f11, f12, f13, f14, f15, f16, f17, f18, f19, f20, f21, f22, f23, f24, f25, f26, f27, f28, f29⟩ := hR
      subst ha_
      have gl := f29 (hall 29 (by decide))
      subst gl
      have HSx : Hid (Done m w x B n s g1 c1 g2 c2 g3 c3) := HD.out.below fb
      have hBlx : B < x.heap.size := Nat.lt_of_lt_of_le hBl0 fb.size
      have bx2 := (fb.cell (p := ⟨B, 2, none⟩) hBl0).trans b2
      have fbx2 : x.frozen? ⟨B, 2, none⟩ = false := frozen_of_block HSx.out.box.box 2
      have bx7 := (fb.cell (p := ⟨B, 7, none⟩) hBl0).trans b7
      have fbx7 : x.frozen? ⟨B, 7, none⟩ = false := frozen_of_block HSx.out.box.box 7
      have yx0 := (fb.cell (p := ⟨lb, lo, none⟩) hlb0).trans y0
      have yx1 := (fb.cell (p := ⟨lb, lo + 1, none⟩) hlb0).trans y1
      have yx2 := (fb.cell (p := ⟨lb, lo + 2, none⟩) hlb0).trans y2
      have zx0 : x.cell? ⟨g3, i0, none⟩ = some (.bool v0) := by rw [← hv0_]; exact HSx.out.box.st.c3 hi0
      have fzx0 : x.frozen? ⟨g3, i0, none⟩ = false := HSx.out.box.st.r3.frozen _
      have hgx0 : g3 < x.heap.size := HSx.out.box.st.r3.lt
      have zx1 : x.cell? ⟨g2, i1, none⟩ = some (.int .i64 v1) := by rw [← hv1_]; exact HSx.out.box.st.c2 hi1
      have fzx1 : x.frozen? ⟨g2, i1, none⟩ = false := HSx.out.box.st.r2.frozen _
      have hgx1 : g2 < x.heap.size := HSx.out.box.st.r2.lt
      have zx2 : x.cell? ⟨g2, i0, none⟩ = some (.int .i64 v2) := by rw [← hv2_]; exact HSx.out.box.st.c2 hi0
      have fzx2 : x.frozen? ⟨g2, i0, none⟩ = false := HSx.out.box.st.r2.frozen _
      have hgx2 : g2 < x.heap.size := HSx.out.box.st.r2.lt
      have HFB := Lib.hid fb
      clear fb f0 f1 f2 f3 f4 f5 f6 f7 f8 f9 f10 f11 f12 f13 f14 f15 f16 f17 f18 f19 f20 f21 f22 f23 f24 f25 f26 f27 f28 f29
      clear hm
      by_cases hz : e = 0
      · exact absurd (HKE.out.trans hz) (by rw [orFrom_3]; simp [whenE])
      · have hne := Lib.hid hz
        rw [errV_ne hz]
        go_wp2
        refine bodyPost_ret (v := .iface 127 (.agg #[.int .i64 e])) (by simp [results, Tryz.f64, go_sem]) rfl ?_
        exact ⟨by rw [HKK.out, errV_ne hne.out], HSx.out.bel.trans (by (repeat' (first | exact Below.refl _ _ | assumption | refine below_new ?_ _ | refine below_draw ?_ | refine below_tail (by assumption) ?_ | refine below_set ?_ (by first | omega | (simp <;> omega)) _))), fun h0 => absurd (HKK.out.symm.trans h0) hne.out⟩
end Go.Proofs.YthooacpfmjpdmaaGreatDoor
