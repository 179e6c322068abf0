/- The order enter, behind the plan. Conditions: as said. -/
import Derived.Test.YthooacpfmjpdmaaGreatDoorODoB
namespace Go.Proofs.YthooacpfmjpdmaaGreatDoor
open Go.RowKit
/-- Is one of the first k claims missed by more than a tenth? -/
def offK (s : St) (k : Nat) : Bool := (List.range k).any fun i => decide (gi (clmF s) 0 i < 10 * max (gi s.laid 0 i - gi (clmF s) 0 i) (-(gi s.laid 0 i - gi (clmF s) 0 i)))
theorem offK_succ (s : St) (k : Nat) : offK s (k + 1) = (offK s k || decide (gi (clmF s) 0 k < 10 * max (gi s.laid 0 k - gi (clmF s) 0 k) (-(gi s.laid 0 k - gi (clmF s) 0 k)))) := by
  unfold offK; rw [List.range_succ, List.any_append]; simp
theorem offB_of {s : St} {k : Nat} (hk : k ≤ (clmF s).length) (h : offK s k = true) : offB s = true := by
  unfold offK at h
  unfold offB
  rw [List.any_eq_true] at h ⊢
  obtain ⟨i, hi, hp⟩ := h
  exact ⟨i, List.mem_range.2 (Nat.lt_of_lt_of_le (List.mem_range.1 hi) hk), hp⟩
set_option maxRecDepth 1000000 in
def EnterIy (W0 : World) (B : Nat) (s : St) (q0 : Bool) (e0 : Int) (e1 : Int) (e : Int) (sv1 sv2 sv3 sv4 sv5 sv6 sv7 sv8 sv9 sv10 sv11 sv12 sv13 sv14 sv15 sv16 sv17 sv18 sv19 sv20 sv21 sv22 sv24 sv25 sv26 sv27 sv28 sv29 sv30 sv31 sv32 sv33 sv34 sv35 sv36 sv37 sv38 sv39 sv40 sv41 sv42 sv43 sv44 sv45 sv46 sv47 sv48 sv49 sv50 sv51 sv52 sv53 sv54 sv55 sv56 sv57 sv58 sv59 sv60 sv61 sv62 sv63 sv64 sv65 sv66 sv67 sv68 sv69 sv70 sv71 sv72 sv73 sv74 sv75 sv76 sv77 sv78 sv79 sv80 sv81 sv82 sv83 sv84 sv85 sv86 sv87 sv88 sv89 sv90 sv91 sv92 sv93 sv94 sv95 sv96 sv97 sv98 sv99 sv100 sv101 sv102 sv103 sv104 sv105 sv106 sv107 sv108 sv109 sv110 sv111 sv112 sv113 sv114 sv115 sv116 sv117 sv118 sv119 sv120 sv121 sv122 sv123 sv124 sv125 sv126 sv127 sv128 sv129 sv130 sv131 sv132 sv133 sv134 sv135 sv136 sv137 sv138 sv139 sv140 sv141 sv142 sv143 sv144 sv145 sv146 sv147 sv148 sv149 sv150 sv151 sv152 sv153 sv154 sv155 sv156 sv157 sv158 sv159 sv160 sv161 sv162 sv163 sv164 sv165 sv166 sv167 sv168 sv169 sv170 sv171 sv172 sv173 sv174 sv175 sv176 sv177 sv178 sv179 sv180 sv181 sv182 sv183 sv184 sv185 sv186 sv187 sv188 sv189 sv190 sv191 sv192 sv193 sv194 sv195 sv196 sv197 sv198 sv199 sv200 sv201 sv202 sv203 sv204 sv205 sv206 sv207 sv208 sv209 sv210 sv211 sv212 sv213 sv214 sv215 sv216 sv217 sv218 sv219 sv220 sv221 sv222 sv223 sv224 sv225 sv226 sv227 sv228 sv229 sv230 sv231 sv232 sv233 sv234 sv235 sv236 sv237 sv238 sv239 sv240 sv241 sv242 sv243 sv244 sv245 sv246 sv247 sv248 sv249 sv250 sv251 sv252 sv253 sv254 sv255 sv256 sv257 sv258 sv259 sv260 sv261 sv262 sv263 sv264 sv265 sv266 sv267 sv268 sv269 sv270 sv271 sv272 sv273 sv274 sv275 sv276 sv277 sv278 sv279 sv280 sv281 sv282 sv283 sv284 sv285 sv286 sv287 sv288 sv289 sv290 sv291 sv292 sv293 sv294 sv295 sv296 sv297 sv298 sv299 sv300 sv301 sv302 sv303 sv304 sv305 sv306 sv307 sv308 sv309 sv310 sv311 sv312 sv313 sv314 sv315 sv316 sv317 sv318 sv319 sv320 sv321 sv322 sv323 sv324 sv325 sv326 sv327 sv328 sv329 sv330 sv331 sv332 sv333 sv334 sv335 sv336 sv337 sv338 sv339 sv340 sv341 sv342 sv343 sv344 sv345 sv346 sv347 sv348 sv349 sv350 sv351 sv352 sv353 sv354 sv355 sv356 sv357 sv358 sv359 sv360 sv361 sv362 sv363 sv364 sv365 sv366 sv367 sv368 sv369 sv370 sv371 sv372 sv373 sv374 sv375 sv376 sv377 sv378 sv379 sv380 sv381 sv382 sv383 sv384 sv385 sv386 sv387 sv388 sv389 sv390 sv391 sv392 sv393 sv394 sv395 sv396 sv397 sv398 sv399 sv400 sv401 sv402 : Value) (d : Nat → Bool) (a : Act) (x : World) : Prop :=
  ∃ u23 u403 u404 u405 u406 u407 u408 u409 u410 u411 u412 u413 u414 u415 u416 u417 u418 u419 u420 u421 u422 u423 u424 u425 u426 u427 u428 : Value, a = ⟨List.toArray ((.pointer (some ⟨B, 0, none⟩)) :: sv1 :: sv2 :: sv3 :: sv4 :: sv5 :: sv6 :: sv7 :: sv8 :: sv9 :: sv10 :: sv11 :: sv12 :: sv13 :: sv14 :: sv15 :: sv16 :: sv17 :: sv18 :: sv19 :: sv20 :: sv21 :: sv22 :: u23 :: sv24 :: sv25 :: sv26 :: sv27 :: sv28 :: sv29 :: sv30 :: sv31 :: sv32 :: sv33 :: sv34 :: sv35 :: sv36 :: sv37 :: sv38 :: sv39 :: sv40 :: sv41 :: sv42 :: sv43 :: sv44 :: sv45 :: sv46 :: sv47 :: sv48 :: sv49 :: sv50 :: sv51 :: sv52 :: sv53 :: sv54 :: sv55 :: sv56 :: sv57 :: sv58 :: sv59 :: sv60 :: sv61 :: sv62 :: sv63 :: sv64 :: sv65 :: sv66 :: sv67 :: sv68 :: sv69 :: sv70 :: sv71 :: sv72 :: sv73 :: sv74 :: sv75 :: sv76 :: sv77 :: sv78 :: sv79 :: sv80 :: sv81 :: sv82 :: sv83 :: sv84 :: sv85 :: sv86 :: sv87 :: sv88 :: sv89 :: sv90 :: sv91 :: sv92 :: sv93 :: sv94 :: sv95 :: sv96 :: sv97 :: sv98 :: sv99 :: sv100 :: sv101 :: sv102 :: sv103 :: sv104 :: sv105 :: sv106 :: sv107 :: sv108 :: sv109 :: sv110 :: sv111 :: sv112 :: sv113 :: sv114 :: sv115 :: sv116 :: sv117 :: sv118 :: sv119 :: sv120 :: sv121 :: sv122 :: sv123 :: sv124 :: sv125 :: sv126 :: sv127 :: sv128 :: sv129 :: sv130 :: sv131 :: sv132 :: sv133 :: sv134 :: sv135 :: sv136 :: sv137 :: sv138 :: sv139 :: sv140 :: sv141 :: sv142 :: sv143 :: sv144 :: sv145 :: sv146 :: sv147 :: sv148 :: sv149 :: sv150 :: sv151 :: sv152 :: sv153 :: sv154 :: sv155 :: sv156 :: sv157 :: sv158 :: sv159 :: sv160 :: sv161 :: sv162 :: sv163 :: sv164 :: sv165 :: sv166 :: sv167 :: sv168 :: sv169 :: sv170 :: sv171 :: sv172 :: sv173 :: sv174 :: sv175 :: sv176 :: sv177 :: sv178 :: sv179 :: sv180 :: sv181 :: sv182 :: sv183 :: sv184 :: sv185 :: sv186 :: sv187 :: sv188 :: sv189 :: sv190 :: sv191 :: sv192 :: sv193 :: sv194 :: sv195 :: sv196 :: sv197 :: sv198 :: sv199 :: sv200 :: sv201 :: sv202 :: sv203 :: sv204 :: sv205 :: sv206 :: sv207 :: sv208 :: sv209 :: sv210 :: sv211 :: sv212 :: sv213 :: sv214 :: sv215 :: sv216 :: sv217 :: sv218 :: sv219 :: sv220 :: sv221 :: sv222 :: sv223 :: sv224 :: sv225 :: sv226 :: sv227 :: sv228 :: sv229 :: sv230 :: sv231 :: sv232 :: sv233 :: sv234 :: sv235 :: sv236 :: sv237 :: sv238 :: sv239 :: sv240 :: sv241 :: sv242 :: sv243 :: sv244 :: sv245 :: sv246 :: sv247 :: sv248 :: sv249 :: sv250 :: sv251 :: sv252 :: sv253 :: sv254 :: sv255 :: sv256 :: sv257 :: sv258 :: sv259 :: sv260 :: sv261 :: sv262 :: sv263 :: sv264 :: sv265 :: sv266 :: sv267 :: sv268 :: sv269 :: sv270 :: sv271 :: sv272 :: sv273 :: sv274 :: sv275 :: sv276 :: sv277 :: sv278 :: sv279 :: sv280 :: sv281 :: sv282 :: sv283 :: sv284 :: sv285 :: sv286 :: sv287 :: sv288 :: sv289 :: sv290 :: sv291 :: sv292 :: sv293 :: sv294 :: sv295 :: sv296 :: sv297 :: sv298 :: sv299 :: sv300 :: sv301 :: sv302 :: sv303 :: sv304 :: sv305 :: sv306 :: sv307 :: sv308 :: sv309 :: sv310 :: sv311 :: sv312 :: sv313 :: sv314 :: sv315 :: sv316 :: sv317 :: sv318 :: sv319 :: sv320 :: sv321 :: sv322 :: sv323 :: sv324 :: sv325 :: sv326 :: sv327 :: sv328 :: sv329 :: sv330 :: sv331 :: sv332 :: sv333 :: sv334 :: sv335 :: sv336 :: sv337 :: sv338 :: sv339 :: sv340 :: sv341 :: sv342 :: sv343 :: sv344 :: sv345 :: sv346 :: sv347 :: sv348 :: sv349 :: sv350 :: sv351 :: sv352 :: sv353 :: sv354 :: sv355 :: sv356 :: sv357 :: sv358 :: sv359 :: sv360 :: sv361 :: sv362 :: sv363 :: sv364 :: sv365 :: sv366 :: sv367 :: sv368 :: sv369 :: sv370 :: sv371 :: sv372 :: sv373 :: sv374 :: sv375 :: sv376 :: sv377 :: sv378 :: sv379 :: sv380 :: sv381 :: sv382 :: sv383 :: sv384 :: sv385 :: sv386 :: sv387 :: sv388 :: sv389 :: sv390 :: sv391 :: sv392 :: sv393 :: sv394 :: sv395 :: sv396 :: sv397 :: sv398 :: sv399 :: sv400 :: sv401 :: sv402 :: u403 :: u404 :: u405 :: u406 :: u407 :: u408 :: u409 :: u410 :: u411 :: u412 :: u413 :: u414 :: u415 :: u416 :: u417 :: u418 :: u419 :: u420 :: u421 :: u422 :: u423 :: u424 :: u425 :: u426 :: u427 :: u428 :: undef :: undef :: undef :: undef :: undef :: undef :: undef :: undef :: undef :: undef :: undef :: undef :: undef :: undef :: undef :: undef :: undef :: undef :: undef :: undef :: undef :: undef :: undef :: undef :: undef :: undef :: undef :: undef :: undef :: undef :: undef :: undef :: undef :: undef :: undef :: []), []⟩ ∧
    Below W0.heap.size W0 x ∧
    (d 0 = true → u403 = .pointer (some ⟨B, 0, none⟩)) ∧
    (d 1 = true → u404 = .pointer (some ⟨B, 0, none⟩)) ∧
    (d 2 = true → u405 = .pointer (some ⟨B, 5, none⟩)) ∧
    (d 3 = true → u406 = .pointer (some ⟨B, 6, none⟩)) ∧
    (d 4 = true → u407 = .bool true) ∧
    (d 5 = true → u408 = .bool false) ∧
    (d 6 = true → u409 = .bool false) ∧
    (d 7 = true → u410 = .pointer (some ⟨B, 0, none⟩)) ∧
    (d 8 = true → u411 = .pointer (some ⟨B, 0, none⟩)) ∧
    (d 9 = true → u412 = .pointer (some ⟨B, 0, none⟩)) ∧
    (d 10 = true → u413 = .int .i64 s.day) ∧
    (d 11 = true → u414 = .pointer (some ⟨B, 0, none⟩)) ∧
    (d 12 = true → u415 = .pointer (some ⟨B, 0, none⟩)) ∧
    (d 13 = true → u416 = .pointer (some ⟨B, 5, none⟩)) ∧
    (d 14 = true → u417 = .pointer (some ⟨B, 5, none⟩)) ∧
    (d 15 = true → u418 = .int .i64 s.stop) ∧
    (d 16 = true → u419 = .bool q0) ∧
    (d 17 = true → u420 = .bool q0) ∧
    (d 18 = true → u421 = errV e0) ∧
    (d 19 = true → u422 = .pointer (some ⟨B, 0, none⟩)) ∧
    (d 20 = true → u423 = .pointer (some ⟨B, 0, none⟩)) ∧
    (d 21 = true → u424 = .pointer (some ⟨B, 8, none⟩)) ∧
    (d 22 = true → u425 = .bool s.ent) ∧
    (d 23 = true → u426 = errV e1) ∧
    (d 24 = true → ErrsAt x u427 [e0, e1]) ∧
    (d 25 = true → u428 = errV e) ∧
    (d 26 = true → u23 = errV e)
theorem EnterIy_law (W0 : World) (B : Nat) (s : St) (q0 : Bool) (e0 : Int) (e1 : Int) (e : Int) {sv1 sv2 sv3 sv4 sv5 sv6 sv7 sv8 sv9 sv10 sv11 sv12 sv13 sv14 sv15 sv16 sv17 sv18 sv19 sv20 sv21 sv22 sv24 sv25 sv26 sv27 sv28 sv29 sv30 sv31 sv32 sv33 sv34 sv35 sv36 sv37 sv38 sv39 sv40 sv41 sv42 sv43 sv44 sv45 sv46 sv47 sv48 sv49 sv50 sv51 sv52 sv53 sv54 sv55 sv56 sv57 sv58 sv59 sv60 sv61 sv62 sv63 sv64 sv65 sv66 sv67 sv68 sv69 sv70 sv71 sv72 sv73 sv74 sv75 sv76 sv77 sv78 sv79 sv80 sv81 sv82 sv83 sv84 sv85 sv86 sv87 sv88 sv89 sv90 sv91 sv92 sv93 sv94 sv95 sv96 sv97 sv98 sv99 sv100 sv101 sv102 sv103 sv104 sv105 sv106 sv107 sv108 sv109 sv110 sv111 sv112 sv113 sv114 sv115 sv116 sv117 sv118 sv119 sv120 sv121 sv122 sv123 sv124 sv125 sv126 sv127 sv128 sv129 sv130 sv131 sv132 sv133 sv134 sv135 sv136 sv137 sv138 sv139 sv140 sv141 sv142 sv143 sv144 sv145 sv146 sv147 sv148 sv149 sv150 sv151 sv152 sv153 sv154 sv155 sv156 sv157 sv158 sv159 sv160 sv161 sv162 sv163 sv164 sv165 sv166 sv167 sv168 sv169 sv170 sv171 sv172 sv173 sv174 sv175 sv176 sv177 sv178 sv179 sv180 sv181 sv182 sv183 sv184 sv185 sv186 sv187 sv188 sv189 sv190 sv191 sv192 sv193 sv194 sv195 sv196 sv197 sv198 sv199 sv200 sv201 sv202 sv203 sv204 sv205 sv206 sv207 sv208 sv209 sv210 sv211 sv212 sv213 sv214 sv215 sv216 sv217 sv218 sv219 sv220 sv221 sv222 sv223 sv224 sv225 sv226 sv227 sv228 sv229 sv230 sv231 sv232 sv233 sv234 sv235 sv236 sv237 sv238 sv239 sv240 sv241 sv242 sv243 sv244 sv245 sv246 sv247 sv248 sv249 sv250 sv251 sv252 sv253 sv254 sv255 sv256 sv257 sv258 sv259 sv260 sv261 sv262 sv263 sv264 sv265 sv266 sv267 sv268 sv269 sv270 sv271 sv272 sv273 sv274 sv275 sv276 sv277 sv278 sv279 sv280 sv281 sv282 sv283 sv284 sv285 sv286 sv287 sv288 sv289 sv290 sv291 sv292 sv293 sv294 sv295 sv296 sv297 sv298 sv299 sv300 sv301 sv302 sv303 sv304 sv305 sv306 sv307 sv308 sv309 sv310 sv311 sv312 sv313 sv314 sv315 sv316 sv317 sv318 sv319 sv320 sv321 sv322 sv323 sv324 sv325 sv326 sv327 sv328 sv329 sv330 sv331 sv332 sv333 sv334 sv335 sv336 sv337 sv338 sv339 sv340 sv341 sv342 sv343 sv344 sv345 sv346 sv347 sv348 sv349 sv350 sv351 sv352 sv353 sv354 sv355 sv356 sv357 sv358 sv359 sv360 sv361 sv362 sv363 sv364 sv365 sv366 sv367 sv368 sv369 sv370 sv371 sv372 sv373 sv374 sv375 sv376 sv377 sv378 sv379 sv380 sv381 sv382 sv383 sv384 sv385 sv386 sv387 sv388 sv389 sv390 sv391 sv392 sv393 sv394 sv395 sv396 sv397 sv398 sv399 sv400 sv401 sv402 : Value} {P : Program} {id : Nat} {ops : Array Oper} {Q : Exit → Act → World → Prop} {a : Act} {w : World} (hm : P.follows .mixedOrders = true) (hd : edgesDown ops = true)
    (h0 : EnterIy W0 B s q0 e0 e1 e sv1 sv2 sv3 sv4 sv5 sv6 sv7 sv8 sv9 sv10 sv11 sv12 sv13 sv14 sv15 sv16 sv17 sv18 sv19 sv20 sv21 sv22 sv24 sv25 sv26 sv27 sv28 sv29 sv30 sv31 sv32 sv33 sv34 sv35 sv36 sv37 sv38 sv39 sv40 sv41 sv42 sv43 sv44 sv45 sv46 sv47 sv48 sv49 sv50 sv51 sv52 sv53 sv54 sv55 sv56 sv57 sv58 sv59 sv60 sv61 sv62 sv63 sv64 sv65 sv66 sv67 sv68 sv69 sv70 sv71 sv72 sv73 sv74 sv75 sv76 sv77 sv78 sv79 sv80 sv81 sv82 sv83 sv84 sv85 sv86 sv87 sv88 sv89 sv90 sv91 sv92 sv93 sv94 sv95 sv96 sv97 sv98 sv99 sv100 sv101 sv102 sv103 sv104 sv105 sv106 sv107 sv108 sv109 sv110 sv111 sv112 sv113 sv114 sv115 sv116 sv117 sv118 sv119 sv120 sv121 sv122 sv123 sv124 sv125 sv126 sv127 sv128 sv129 sv130 sv131 sv132 sv133 sv134 sv135 sv136 sv137 sv138 sv139 sv140 sv141 sv142 sv143 sv144 sv145 sv146 sv147 sv148 sv149 sv150 sv151 sv152 sv153 sv154 sv155 sv156 sv157 sv158 sv159 sv160 sv161 sv162 sv163 sv164 sv165 sv166 sv167 sv168 sv169 sv170 sv171 sv172 sv173 sv174 sv175 sv176 sv177 sv178 sv179 sv180 sv181 sv182 sv183 sv184 sv185 sv186 sv187 sv188 sv189 sv190 sv191 sv192 sv193 sv194 sv195 sv196 sv197 sv198 sv199 sv200 sv201 sv202 sv203 sv204 sv205 sv206 sv207 sv208 sv209 sv210 sv211 sv212 sv213 sv214 sv215 sv216 sv217 sv218 sv219 sv220 sv221 sv222 sv223 sv224 sv225 sv226 sv227 sv228 sv229 sv230 sv231 sv232 sv233 sv234 sv235 sv236 sv237 sv238 sv239 sv240 sv241 sv242 sv243 sv244 sv245 sv246 sv247 sv248 sv249 sv250 sv251 sv252 sv253 sv254 sv255 sv256 sv257 sv258 sv259 sv260 sv261 sv262 sv263 sv264 sv265 sv266 sv267 sv268 sv269 sv270 sv271 sv272 sv273 sv274 sv275 sv276 sv277 sv278 sv279 sv280 sv281 sv282 sv283 sv284 sv285 sv286 sv287 sv288 sv289 sv290 sv291 sv292 sv293 sv294 sv295 sv296 sv297 sv298 sv299 sv300 sv301 sv302 sv303 sv304 sv305 sv306 sv307 sv308 sv309 sv310 sv311 sv312 sv313 sv314 sv315 sv316 sv317 sv318 sv319 sv320 sv321 sv322 sv323 sv324 sv325 sv326 sv327 sv328 sv329 sv330 sv331 sv332 sv333 sv334 sv335 sv336 sv337 sv338 sv339 sv340 sv341 sv342 sv343 sv344 sv345 sv346 sv347 sv348 sv349 sv350 sv351 sv352 sv353 sv354 sv355 sv356 sv357 sv358 sv359 sv360 sv361 sv362 sv363 sv364 sv365 sv366 sv367 sv368 sv369 sv370 sv371 sv372 sv373 sv374 sv375 sv376 sv377 sv378 sv379 sv380 sv381 sv382 sv383 sv384 sv385 sv386 sv387 sv388 sv389 sv390 sv391 sv392 sv393 sv394 sv395 sv396 sv397 sv398 sv399 sv400 sv401 sv402 (fun _ => false) a w.drew)
    (hstep : ∀ (d : Nat → Bool) (a : Act) (w : World), EnterIy W0 B s q0 e0 e1 e sv1 sv2 sv3 sv4 sv5 sv6 sv7 sv8 sv9 sv10 sv11 sv12 sv13 sv14 sv15 sv16 sv17 sv18 sv19 sv20 sv21 sv22 sv24 sv25 sv26 sv27 sv28 sv29 sv30 sv31 sv32 sv33 sv34 sv35 sv36 sv37 sv38 sv39 sv40 sv41 sv42 sv43 sv44 sv45 sv46 sv47 sv48 sv49 sv50 sv51 sv52 sv53 sv54 sv55 sv56 sv57 sv58 sv59 sv60 sv61 sv62 sv63 sv64 sv65 sv66 sv67 sv68 sv69 sv70 sv71 sv72 sv73 sv74 sv75 sv76 sv77 sv78 sv79 sv80 sv81 sv82 sv83 sv84 sv85 sv86 sv87 sv88 sv89 sv90 sv91 sv92 sv93 sv94 sv95 sv96 sv97 sv98 sv99 sv100 sv101 sv102 sv103 sv104 sv105 sv106 sv107 sv108 sv109 sv110 sv111 sv112 sv113 sv114 sv115 sv116 sv117 sv118 sv119 sv120 sv121 sv122 sv123 sv124 sv125 sv126 sv127 sv128 sv129 sv130 sv131 sv132 sv133 sv134 sv135 sv136 sv137 sv138 sv139 sv140 sv141 sv142 sv143 sv144 sv145 sv146 sv147 sv148 sv149 sv150 sv151 sv152 sv153 sv154 sv155 sv156 sv157 sv158 sv159 sv160 sv161 sv162 sv163 sv164 sv165 sv166 sv167 sv168 sv169 sv170 sv171 sv172 sv173 sv174 sv175 sv176 sv177 sv178 sv179 sv180 sv181 sv182 sv183 sv184 sv185 sv186 sv187 sv188 sv189 sv190 sv191 sv192 sv193 sv194 sv195 sv196 sv197 sv198 sv199 sv200 sv201 sv202 sv203 sv204 sv205 sv206 sv207 sv208 sv209 sv210 sv211 sv212 sv213 sv214 sv215 sv216 sv217 sv218 sv219 sv220 sv221 sv222 sv223 sv224 sv225 sv226 sv227 sv228 sv229 sv230 sv231 sv232 sv233 sv234 sv235 sv236 sv237 sv238 sv239 sv240 sv241 sv242 sv243 sv244 sv245 sv246 sv247 sv248 sv249 sv250 sv251 sv252 sv253 sv254 sv255 sv256 sv257 sv258 sv259 sv260 sv261 sv262 sv263 sv264 sv265 sv266 sv267 sv268 sv269 sv270 sv271 sv272 sv273 sv274 sv275 sv276 sv277 sv278 sv279 sv280 sv281 sv282 sv283 sv284 sv285 sv286 sv287 sv288 sv289 sv290 sv291 sv292 sv293 sv294 sv295 sv296 sv297 sv298 sv299 sv300 sv301 sv302 sv303 sv304 sv305 sv306 sv307 sv308 sv309 sv310 sv311 sv312 sv313 sv314 sv315 sv316 sv317 sv318 sv319 sv320 sv321 sv322 sv323 sv324 sv325 sv326 sv327 sv328 sv329 sv330 sv331 sv332 sv333 sv334 sv335 sv336 sv337 sv338 sv339 sv340 sv341 sv342 sv343 sv344 sv345 sv346 sv347 sv348 sv349 sv350 sv351 sv352 sv353 sv354 sv355 sv356 sv357 sv358 sv359 sv360 sv361 sv362 sv363 sv364 sv365 sv366 sv367 sv368 sv369 sv370 sv371 sv372 sv373 sv374 sv375 sv376 sv377 sv378 sv379 sv380 sv381 sv382 sv383 sv384 sv385 sv386 sv387 sv388 sv389 sv390 sv391 sv392 sv393 sv394 sv395 sv396 sv397 sv398 sv399 sv400 sv401 sv402 d a w → ∀ i, i < ops.size → d i = false → (∀ o, ops[i]? = some o → ∀ e ∈ o.after, Region.binds .any e = true → d e.on = true) → wpOp P ops Q i (EnterIy W0 B s q0 e0 e1 e sv1 sv2 sv3 sv4 sv5 sv6 sv7 sv8 sv9 sv10 sv11 sv12 sv13 sv14 sv15 sv16 sv17 sv18 sv19 sv20 sv21 sv22 sv24 sv25 sv26 sv27 sv28 sv29 sv30 sv31 sv32 sv33 sv34 sv35 sv36 sv37 sv38 sv39 sv40 sv41 sv42 sv43 sv44 sv45 sv46 sv47 sv48 sv49 sv50 sv51 sv52 sv53 sv54 sv55 sv56 sv57 sv58 sv59 sv60 sv61 sv62 sv63 sv64 sv65 sv66 sv67 sv68 sv69 sv70 sv71 sv72 sv73 sv74 sv75 sv76 sv77 sv78 sv79 sv80 sv81 sv82 sv83 sv84 sv85 sv86 sv87 sv88 sv89 sv90 sv91 sv92 sv93 sv94 sv95 sv96 sv97 sv98 sv99 sv100 sv101 sv102 sv103 sv104 sv105 sv106 sv107 sv108 sv109 sv110 sv111 sv112 sv113 sv114 sv115 sv116 sv117 sv118 sv119 sv120 sv121 sv122 sv123 sv124 sv125 sv126 sv127 sv128 sv129 sv130 sv131 sv132 sv133 sv134 sv135 sv136 sv137 sv138 sv139 sv140 sv141 sv142 sv143 sv144 sv145 sv146 sv147 sv148 sv149 sv150 sv151 sv152 sv153 sv154 sv155 sv156 sv157 sv158 sv159 sv160 sv161 sv162 sv163 sv164 sv165 sv166 sv167 sv168 sv169 sv170 sv171 sv172 sv173 sv174 sv175 sv176 sv177 sv178 sv179 sv180 sv181 sv182 sv183 sv184 sv185 sv186 sv187 sv188 sv189 sv190 sv191 sv192 sv193 sv194 sv195 sv196 sv197 sv198 sv199 sv200 sv201 sv202 sv203 sv204 sv205 sv206 sv207 sv208 sv209 sv210 sv211 sv212 sv213 sv214 sv215 sv216 sv217 sv218 sv219 sv220 sv221 sv222 sv223 sv224 sv225 sv226 sv227 sv228 sv229 sv230 sv231 sv232 sv233 sv234 sv235 sv236 sv237 sv238 sv239 sv240 sv241 sv242 sv243 sv244 sv245 sv246 sv247 sv248 sv249 sv250 sv251 sv252 sv253 sv254 sv255 sv256 sv257 sv258 sv259 sv260 sv261 sv262 sv263 sv264 sv265 sv266 sv267 sv268 sv269 sv270 sv271 sv272 sv273 sv274 sv275 sv276 sv277 sv278 sv279 sv280 sv281 sv282 sv283 sv284 sv285 sv286 sv287 sv288 sv289 sv290 sv291 sv292 sv293 sv294 sv295 sv296 sv297 sv298 sv299 sv300 sv301 sv302 sv303 sv304 sv305 sv306 sv307 sv308 sv309 sv310 sv311 sv312 sv313 sv314 sv315 sv316 sv317 sv318 sv319 sv320 sv321 sv322 sv323 sv324 sv325 sv326 sv327 sv328 sv329 sv330 sv331 sv332 sv333 sv334 sv335 sv336 sv337 sv338 sv339 sv340 sv341 sv342 sv343 sv344 sv345 sv346 sv347 sv348 sv349 sv350 sv351 sv352 sv353 sv354 sv355 sv356 sv357 sv358 sv359 sv360 sv361 sv362 sv363 sv364 sv365 sv366 sv367 sv368 sv369 sv370 sv371 sv372 sv373 sv374 sv375 sv376 sv377 sv378 sv379 sv380 sv381 sv382 sv383 sv384 sv385 sv386 sv387 sv388 sv389 sv390 sv391 sv392 sv393 sv394 sv395 sv396 sv397 sv398 sv399 sv400 sv401 sv402 (fun j => j == i || d j)) a w)
    (hend : ∀ (d : Nat → Bool) (a : Act) (w : World), EnterIy W0 B s q0 e0 e1 e sv1 sv2 sv3 sv4 sv5 sv6 sv7 sv8 sv9 sv10 sv11 sv12 sv13 sv14 sv15 sv16 sv17 sv18 sv19 sv20 sv21 sv22 sv24 sv25 sv26 sv27 sv28 sv29 sv30 sv31 sv32 sv33 sv34 sv35 sv36 sv37 sv38 sv39 sv40 sv41 sv42 sv43 sv44 sv45 sv46 sv47 sv48 sv49 sv50 sv51 sv52 sv53 sv54 sv55 sv56 sv57 sv58 sv59 sv60 sv61 sv62 sv63 sv64 sv65 sv66 sv67 sv68 sv69 sv70 sv71 sv72 sv73 sv74 sv75 sv76 sv77 sv78 sv79 sv80 sv81 sv82 sv83 sv84 sv85 sv86 sv87 sv88 sv89 sv90 sv91 sv92 sv93 sv94 sv95 sv96 sv97 sv98 sv99 sv100 sv101 sv102 sv103 sv104 sv105 sv106 sv107 sv108 sv109 sv110 sv111 sv112 sv113 sv114 sv115 sv116 sv117 sv118 sv119 sv120 sv121 sv122 sv123 sv124 sv125 sv126 sv127 sv128 sv129 sv130 sv131 sv132 sv133 sv134 sv135 sv136 sv137 sv138 sv139 sv140 sv141 sv142 sv143 sv144 sv145 sv146 sv147 sv148 sv149 sv150 sv151 sv152 sv153 sv154 sv155 sv156 sv157 sv158 sv159 sv160 sv161 sv162 sv163 sv164 sv165 sv166 sv167 sv168 sv169 sv170 sv171 sv172 sv173 sv174 sv175 sv176 sv177 sv178 sv179 sv180 sv181 sv182 sv183 sv184 sv185 sv186 sv187 sv188 sv189 sv190 sv191 sv192 sv193 sv194 sv195 sv196 sv197 sv198 sv199 sv200 sv201 sv202 sv203 sv204 sv205 sv206 sv207 sv208 sv209 sv210 sv211 sv212 sv213 sv214 sv215 sv216 sv217 sv218 sv219 sv220 sv221 sv222 sv223 sv224 sv225 sv226 sv227 sv228 sv229 sv230 sv231 sv232 sv233 sv234 sv235 sv236 sv237 sv238 sv239 sv240 sv241 sv242 sv243 sv244 sv245 sv246 sv247 sv248 sv249 sv250 sv251 sv252 sv253 sv254 sv255 sv256 sv257 sv258 sv259 sv260 sv261 sv262 sv263 sv264 sv265 sv266 sv267 sv268 sv269 sv270 sv271 sv272 sv273 sv274 sv275 sv276 sv277 sv278 sv279 sv280 sv281 sv282 sv283 sv284 sv285 sv286 sv287 sv288 sv289 sv290 sv291 sv292 sv293 sv294 sv295 sv296 sv297 sv298 sv299 sv300 sv301 sv302 sv303 sv304 sv305 sv306 sv307 sv308 sv309 sv310 sv311 sv312 sv313 sv314 sv315 sv316 sv317 sv318 sv319 sv320 sv321 sv322 sv323 sv324 sv325 sv326 sv327 sv328 sv329 sv330 sv331 sv332 sv333 sv334 sv335 sv336 sv337 sv338 sv339 sv340 sv341 sv342 sv343 sv344 sv345 sv346 sv347 sv348 sv349 sv350 sv351 sv352 sv353 sv354 sv355 sv356 sv357 sv358 sv359 sv360 sv361 sv362 sv363 sv364 sv365 sv366 sv367 sv368 sv369 sv370 sv371 sv372 sv373 sv374 sv375 sv376 sv377 sv378 sv379 sv380 sv381 sv382 sv383 sv384 sv385 sv386 sv387 sv388 sv389 sv390 sv391 sv392 sv393 sv394 sv395 sv396 sv397 sv398 sv399 sv400 sv401 sv402 d a w → (∀ i, i < ops.size → d i = true) → Q .normal a w) : (Code.region id ops true).wp P Q a w := wp_region_inv hm hd (EnterIy W0 B s q0 e0 e1 e sv1 sv2 sv3 sv4 sv5 sv6 sv7 sv8 sv9 sv10 sv11 sv12 sv13 sv14 sv15 sv16 sv17 sv18 sv19 sv20 sv21 sv22 sv24 sv25 sv26 sv27 sv28 sv29 sv30 sv31 sv32 sv33 sv34 sv35 sv36 sv37 sv38 sv39 sv40 sv41 sv42 sv43 sv44 sv45 sv46 sv47 sv48 sv49 sv50 sv51 sv52 sv53 sv54 sv55 sv56 sv57 sv58 sv59 sv60 sv61 sv62 sv63 sv64 sv65 sv66 sv67 sv68 sv69 sv70 sv71 sv72 sv73 sv74 sv75 sv76 sv77 sv78 sv79 sv80 sv81 sv82 sv83 sv84 sv85 sv86 sv87 sv88 sv89 sv90 sv91 sv92 sv93 sv94 sv95 sv96 sv97 sv98 sv99 sv100 sv101 sv102 sv103 sv104 sv105 sv106 sv107 sv108 sv109 sv110 sv111 sv112 sv113 sv114 sv115 sv116 sv117 sv118 sv119 sv120 sv121 sv122 sv123 sv124 sv125 sv126 sv127 sv128 sv129 sv130 sv131 sv132 sv133 sv134 sv135 sv136 sv137 sv138 sv139 sv140 sv141 sv142 sv143 sv144 sv145 sv146 sv147 sv148 sv149 sv150 sv151 sv152 sv153 sv154 sv155 sv156 sv157 sv158 sv159 sv160 sv161 sv162 sv163 sv164 sv165 sv166 sv167 sv168 sv169 sv170 sv171 sv172 sv173 sv174 sv175 sv176 sv177 sv178 sv179 sv180 sv181 sv182 sv183 sv184 sv185 sv186 sv187 sv188 sv189 sv190 sv191 sv192 sv193 sv194 sv195 sv196 sv197 sv198 sv199 sv200 sv201 sv202 sv203 sv204 sv205 sv206 sv207 sv208 sv209 sv210 sv211 sv212 sv213 sv214 sv215 sv216 sv217 sv218 sv219 sv220 sv221 sv222 sv223 sv224 sv225 sv226 sv227 sv228 sv229 sv230 sv231 sv232 sv233 sv234 sv235 sv236 sv237 sv238 sv239 sv240 sv241 sv242 sv243 sv244 sv245 sv246 sv247 sv248 sv249 sv250 sv251 sv252 sv253 sv254 sv255 sv256 sv257 sv258 sv259 sv260 sv261 sv262 sv263 sv264 sv265 sv266 sv267 sv268 sv269 sv270 sv271 sv272 sv273 sv274 sv275 sv276 sv277 sv278 sv279 sv280 sv281 sv282 sv283 sv284 sv285 sv286 sv287 sv288 sv289 sv290 sv291 sv292 sv293 sv294 sv295 sv296 sv297 sv298 sv299 sv300 sv301 sv302 sv303 sv304 sv305 sv306 sv307 sv308 sv309 sv310 sv311 sv312 sv313 sv314 sv315 sv316 sv317 sv318 sv319 sv320 sv321 sv322 sv323 sv324 sv325 sv326 sv327 sv328 sv329 sv330 sv331 sv332 sv333 sv334 sv335 sv336 sv337 sv338 sv339 sv340 sv341 sv342 sv343 sv344 sv345 sv346 sv347 sv348 sv349 sv350 sv351 sv352 sv353 sv354 sv355 sv356 sv357 sv358 sv359 sv360 sv361 sv362 sv363 sv364 sv365 sv366 sv367 sv368 sv369 sv370 sv371 sv372 sv373 sv374 sv375 sv376 sv377 sv378 sv379 sv380 sv381 sv382 sv383 sv384 sv385 sv386 sv387 sv388 sv389 sv390 sv391 sv392 sv393 sv394 sv395 sv396 sv397 sv398 sv399 sv400 sv401 sv402) h0 hstep hend
set_option maxRecDepth 1000000 in
set_option maxHeartbeats 16000000 in
theorem do_enter_y (m : Nat) (w : World) (B n : Nat) (s : St) (g1 c1 g2 c2 g3 c3 : Nat) (cv lv : Value) (c : Cal) (h : StBox m w B n s g1 c1 g2 c2 g3 c3) (hg : Good s) (hfx : s.heard = true) (hc : CalAt w cv c) (hv : validF c = 0) (hl : IntsAt w lv []) :
    Calls Tryz.prog 64 #[.pointer (some ⟨B, 0, none⟩), cv, frmV (8, 0, 0), lv] w (DoR m w B n g1 c1 g2 c2 g3 c3 (kindE c s 8 []) (kindS c s 8 [])) := by
  have HB := Lib.hid h
  have HG := Lib.hid hg
  have HC := Lib.hid hc
  have HV := Lib.hid hv
  have HL := Lib.hid hl
  have hn1 := h.st.n1
  have hn8 := h.st.n8
  have hmB := h.mB
  have hBl : B < w.heap.size := (Array.getElem?_eq_some_iff.1 h.box).1
  have hmW : m ≤ w.heap.size := by omega
  obtain ⟨ca, cc, rfl, hlc, hcm, -⟩ := hl
  obtain ⟨fv, sv, rfl, -⟩ := id hc
  obtain ⟨fa, fn, fc, rfl, sa, sn, sc, rfl⟩ : ∃ fa fn fc, fv = .slice fa fn fc ∧ ∃ sa sn sc, sv = .slice sa sn sc := by
    obtain ⟨fv', sv', e, ⟨fa, fc, e1, _⟩, ⟨sa, sc, e2, _⟩⟩ := HC.out
    simp only [Value.agg.injEq, Array.mk.injEq, List.cons.injEq, and_true, true_and] at e
    exact ⟨fa, _, fc, by rw [e.1, e1], sa, _, sc, by rw [e.2, e2]⟩
  simp only [List.length_nil] at hlc HL ⊢
  clear h hg hc hv
  unfold frmV
  dsimp only
  go_enter Tryz.func64, Tryz.ntmps64
  go_wp2
  obtain ⟨W0, hW0⟩ : ∃ W0, (w.alloc (.cells #[.int .i64 c.first, .slice fa fn fc, .slice sa sn sc] 25)).alloc (.cells #[.int .i64 8, .int .i64 0, .int .i64 0] 104) = W0 := ⟨_, rfl⟩
  have hbW : Below w.heap.size w W0 := by rw [← hW0]; (repeat' (first | exact Below.refl _ _ | assumption | refine below_new ?_ _ | refine below_draw ?_ | refine below_tail (by assumption) ?_ | refine below_set ?_ (by first | omega | (simp <;> omega)) _))
  have hBC : W0.heap[w.heap.size]? = some (.cells #[.int .i64 c.first, .slice fa fn fc, .slice sa sn sc] 25 (0, 0)) := by
    rw [← hW0, Below.heap_alloc _ _ _ (by simp)]; exact alloc_new _ _ rfl
  have hBF : W0.heap[w.heap.size + 1]? = some (.cells #[.int .i64 8, .int .i64 0, .int .i64 0] 104 (0, 0)) := by
    rw [← hW0]; exact alloc_new _ _ (by simp)
  rw [hW0]
  have HST : Hid (StBox m W0 B n s g1 c1 g2 c2 g3 c3) := HB.out.keep hbW
  have hBW := HST.out.box
  unfold stC at hBW
  have kf := (cell_of_block hBF 0).trans (show _ = some (.int .i64 8) from rfl)
  have b0 := (cell_of_block hBW 0).trans (show _ = some (.int .i64 s.day) from rfl)
  have b1 := (cell_of_block hBW 1).trans (show _ = some (.slice (some ⟨g1, 0, none⟩) n c1) from rfl)
  have b2 := (cell_of_block hBW 2).trans (show _ = some (.slice (some ⟨g2, 0, none⟩) n c2) from rfl)
  have b3 := (cell_of_block hBW 3).trans (show _ = some (.int .i64 s.part) from rfl)
  have b4 := (cell_of_block hBW 4).trans (show _ = some (.bool s.fixed) from rfl)
  have b5 := (cell_of_block hBW 5).trans (show _ = some (.int .i64 s.stop) from rfl)
  have b6 := (cell_of_block hBW 6).trans (show _ = some (.bool s.heard) from rfl)
  have b7 := (cell_of_block hBW 7).trans (show _ = some (.slice (some ⟨g3, 0, none⟩) n c3) from rfl)
  have b8 := (cell_of_block hBW 8).trans (show _ = some (.bool s.ent) from rfl)
  have hBl0 : B < W0.heap.size := Nat.lt_of_lt_of_le hBl hbW.size
  clear hW0  hBF
  go_loop [32] (fun i => i = .int .i64 0) (fun _ => 0)
  case atStart => rfl
  case round =>
    subst hrel
    have HFX := Lib.hid hfx
    rw [hfx] at b6
    have HD : Hid (Done m w W0 B n s g1 c1 g2 c2 g3 c3) := ⟨hbW.mono hmW, HST.out⟩
    obtain ⟨q0, hq0_⟩ : ∃ q, (decide (s.day ≤ s.stop)) = q := ⟨_, rfl⟩
    obtain ⟨e0, he0⟩ : ∃ e, whenE q0 10 = e := ⟨_, rfl⟩
    have H0 := Lib.hid he0
    obtain ⟨e1, he1⟩ : ∃ e, whenE s.ent 6 = e := ⟨_, rfl⟩
    have H1 := Lib.hid he1
    obtain ⟨e, he⟩ : ∃ e, orFrom [e0, e1] 0 = e := ⟨_, rfl⟩
    have HEE := Lib.hid he
    have HKE : Hid (orFrom [whenE (decide (s.day ≤ s.stop)) 10, whenE (s.ent) 6] 0 = e) := by show _ = _; rw [← he, ← he0, ← he1, hq0_]
    clear he he0 he1 hfx
    have HKK : Hid (kindE c s 8 [] = if e = 0 then whenE (offB s) 8 else e) := by
      show (if orFrom [whenE (!s.heard || decide (s.day ≤ s.stop)) 10, whenE s.ent 6] 0 = 0 then whenE (offB s) 8 else orFrom [whenE (!s.heard || decide (s.day ≤ s.stop)) 10, whenE s.ent 6] 0) = _
      rw [HFX.out]
      have hh := HKE.out
      simp only [Bool.not_true, Bool.false_or]
      rw [hh]
    have hm := cells_errV
    unfold Value.cells at hm
    go_wp2
    apply EnterIy_law W0 B s q0 e0 e1 e mixed (by kernel_rfl)
    case h0 =>
      unfold EnterIy
      refine ⟨_, _, _, _, _, _, _, _, _, _, _, _, _, _, _, _, _, _, _, _, _, _, _, _, _, _, _, rfl, by (repeat' (first | exact Below.refl _ _ | assumption | refine below_new ?_ _ | refine below_draw ?_ | refine below_tail (by assumption) ?_ | refine below_set ?_ (by first | omega | (simp <;> omega)) _)), ?_⟩
      simp only [Bool.false_eq_true, false_implies, and_self]
    case hstep =>
      intro d a x hI i hi hdi hed
      unfold EnterIy at hI
      obtain ⟨u23, u403, u404, u405, u406, u407, u408, u409, u410, u411, u412, u413, u414, u415, u416, u417, u418, u419, u420, u421, u422, u423, u424, u425, u426, u427, u428, ha_, hR⟩ := hI
      obtain ⟨fb, f0, f1, f2, f3, f4, f5, f6, f7, f8, f9, f10, f11, f12, f13, f14, f15, f16, f17, f18, f19, f20, f21, f22, f23, f24, f25, f26⟩ := hR
      subst ha_
      have hi' : i < 27 := hi
      clear hi
      rcases (show i = 0 ∨ i = 1 ∨ i = 2 ∨ i = 3 ∨ i = 4 ∨ i = 5 ∨ i = 6 ∨ i = 7 ∨ i = 8 ∨ i = 9 ∨ i = 10 ∨ i = 11 ∨ i = 12 ∨ i = 13 ∨ i = 14 ∨ i = 15 ∨ i = 16 ∨ i = 17 ∨ i = 18 ∨ i = 19 ∨ i = 20 ∨ i = 21 ∨ i = 22 ∨ i = 23 ∨ i = 24 ∨ i = 25 ∨ i = 26 by omega) with rfl | rfl | rfl | rfl | rfl | rfl | rfl | rfl | rfl | rfl | rfl | rfl | rfl | rfl | rfl | rfl | rfl | rfl | rfl | rfl | rfl | rfl | rfl | rfl | rfl | rfl | rfl
      · have he := hed _ rfl
        simp only [Region.binds] at he
        try simp at he
        clear hed hdi
        refine wpOp_step rfl (fun K hK => ?_)
        go_simp
        (try (refine hK _ _ ?_; clear hK K))
        unfold EnterIy
        refine ⟨_, _, _, _, _, _, _, _, _, _, _, _, _, _, _, _, _, _, _, _, _, _, _, _, _, _, _, rfl, ?_⟩
        simp only [Nat.reduceBEq, Bool.false_or, Bool.true_or, beq_self_eq_true, forall_const]
        exact ⟨fb, (by first | rfl | trivial), f1, f2, f3, f4, f5, f6, f7, f8, f9, f10, f11, f12, f13, f14, f15, f16, f17, f18, f19, f20, f21, f22, f23, f24, f25, f26⟩
      · have he := hed _ rfl
        simp only [Region.binds] at he
        try simp at he
        clear hed hdi
        refine wpOp_step rfl (fun K hK => ?_)
        have g0 := f0 (he)
        subst g0
        go_simp
        (try (refine hK _ _ ?_; clear hK K))
        unfold EnterIy
        refine ⟨_, _, _, _, _, _, _, _, _, _, _, _, _, _, _, _, _, _, _, _, _, _, _, _, _, _, _, rfl, ?_⟩
        simp only [Nat.reduceBEq, Bool.false_or, Bool.true_or, beq_self_eq_true, forall_const]
        exact ⟨fb, (by first | exact f0 | (intros; trivial) | (intros; rfl)), (by first | rfl | trivial), f2, f3, f4, f5, f6, f7, f8, f9, f10, f11, f12, f13, f14, f15, f16, f17, f18, f19, f20, f21, f22, f23, f24, f25, f26⟩
      · have he := hed _ rfl
        simp only [Region.binds] at he
        try simp at he
        clear hed hdi
        refine wpOp_step rfl (fun K hK => ?_)
        have g1 := f1 (he)
        subst g1
        go_simp
        (try (refine hK _ _ ?_; clear hK K))
        unfold EnterIy
        refine ⟨_, _, _, _, _, _, _, _, _, _, _, _, _, _, _, _, _, _, _, _, _, _, _, _, _, _, _, rfl, ?_⟩
        simp only [Nat.reduceBEq, Bool.false_or, Bool.true_or, beq_self_eq_true, forall_const]
        exact ⟨fb, f0, (by first | exact f1 | (intros; trivial) | (intros; rfl)), (by first | rfl | trivial), f3, f4, f5, f6, f7, f8, f9, f10, f11, f12, f13, f14, f15, f16, f17, f18, f19, f20, f21, f22, f23, f24, f25, f26⟩
      · have he := hed _ rfl
        simp only [Region.binds] at he
        try simp at he
        clear hed hdi
        refine wpOp_step rfl (fun K hK => ?_)
        have g2 := f2 (he)
        subst g2
        go_simp
        (try (refine hK _ _ ?_; clear hK K))
        unfold EnterIy
        refine ⟨_, _, _, _, _, _, _, _, _, _, _, _, _, _, _, _, _, _, _, _, _, _, _, _, _, _, _, rfl, ?_⟩
        simp only [Nat.reduceBEq, Bool.false_or, Bool.true_or, beq_self_eq_true, forall_const]
        exact ⟨fb, f0, f1, (by first | exact f2 | (intros; trivial) | (intros; rfl)), (by first | rfl | trivial), f4, f5, f6, f7, f8, f9, f10, f11, f12, f13, f14, f15, f16, f17, f18, f19, f20, f21, f22, f23, f24, f25, f26⟩
      · have he := hed _ rfl
        simp only [Region.binds] at he
        try simp at he
        clear hed hdi
        refine wpOp_step rfl (fun K hK => ?_)
        have g3 := f3 (he)
        subst g3
        have qc := (fb.cell (p := ⟨B, 6, none⟩) hBl0).trans b6
        go_simp
        (try (refine hK _ _ ?_; clear hK K))
        unfold EnterIy
        refine ⟨_, _, _, _, _, _, _, _, _, _, _, _, _, _, _, _, _, _, _, _, _, _, _, _, _, _, _, rfl, ?_⟩
        simp only [Nat.reduceBEq, Bool.false_or, Bool.true_or, beq_self_eq_true, forall_const]
        exact ⟨fb, f0, f1, f2, (by first | exact f3 | (intros; trivial) | (intros; rfl)), (by first | rfl | trivial), f5, f6, f7, f8, f9, f10, f11, f12, f13, f14, f15, f16, f17, f18, f19, f20, f21, f22, f23, f24, f25, f26⟩
      · have he := hed _ rfl
        simp only [Region.binds] at he
        try simp at he
        clear hed hdi
        refine wpOp_step rfl (fun K hK => ?_)
        have g4 := f4 (he)
        subst g4
        go_simp
        (try (refine hK _ _ ?_; clear hK K))
        unfold EnterIy
        refine ⟨_, _, _, _, _, _, _, _, _, _, _, _, _, _, _, _, _, _, _, _, _, _, _, _, _, _, _, rfl, ?_⟩
        simp only [Nat.reduceBEq, Bool.false_or, Bool.true_or, beq_self_eq_true, forall_const]
        exact ⟨fb, f0, f1, f2, f3, (by first | exact f4 | (intros; trivial) | (intros; rfl)), (by first | rfl | trivial), f6, f7, f8, f9, f10, f11, f12, f13, f14, f15, f16, f17, f18, f19, f20, f21, f22, f23, f24, f25, f26⟩
      · have he := hed _ rfl
        simp only [Region.binds] at he
        try simp at he
        clear hed hdi
        refine wpOp_step rfl (fun K hK => ?_)
        have g5 := f5 (he)
        subst g5
        go_simp
        (try (refine hK _ _ ?_; clear hK K))
        unfold EnterIy
        refine ⟨_, _, _, _, _, _, _, _, _, _, _, _, _, _, _, _, _, _, _, _, _, _, _, _, _, _, _, rfl, ?_⟩
        simp only [Nat.reduceBEq, Bool.false_or, Bool.true_or, beq_self_eq_true, forall_const]
        exact ⟨fb, f0, f1, f2, f3, f4, (by first | exact f5 | (intros; trivial) | (intros; rfl)), (by first | rfl | trivial), f7, f8, f9, f10, f11, f12, f13, f14, f15, f16, f17, f18, f19, f20, f21, f22, f23, f24, f25, f26⟩
      · have he := hed _ rfl
        simp only [Region.binds] at he
        try simp at he
        clear hed hdi
        refine wpOp_step rfl (fun K hK => ?_)
        have g6 := f6 (he)
        subst g6
        go_simp
        (try (refine hK _ _ ?_; clear hK K))
        unfold EnterIy
        refine ⟨_, _, _, _, _, _, _, _, _, _, _, _, _, _, _, _, _, _, _, _, _, _, _, _, _, _, _, rfl, ?_⟩
        simp only [Nat.reduceBEq, Bool.false_or, Bool.true_or, beq_self_eq_true, forall_const]
        exact ⟨fb, f0, f1, f2, f3, f4, f5, (by first | exact f6 | (intros; trivial) | (intros; rfl)), (by first | rfl | trivial), f8, f9, f10, f11, f12, f13, f14, f15, f16, f17, f18, f19, f20, f21, f22, f23, f24, f25, f26⟩
      · have he := hed _ rfl
        simp only [Region.binds] at he
        try simp at he
        clear hed hdi
        refine wpOp_step rfl (fun K hK => ?_)
        have g7 := f7 (he.1)
        subst g7
        have g6 := f6 (he.2)
        subst g6
        go_simp
        (try (refine hK _ _ ?_; clear hK K))
        unfold EnterIy
        refine ⟨_, _, _, _, _, _, _, _, _, _, _, _, _, _, _, _, _, _, _, _, _, _, _, _, _, _, _, rfl, ?_⟩
        simp only [Nat.reduceBEq, Bool.false_or, Bool.true_or, beq_self_eq_true, forall_const]
        exact ⟨fb, f0, f1, f2, f3, f4, f5, (by first | exact f6 | (intros; trivial) | (intros; rfl)), (by first | exact f7 | (intros; trivial) | (intros; rfl)), (by first | rfl | trivial), f9, f10, f11, f12, f13, f14, f15, f16, f17, f18, f19, f20, f21, f22, f23, f24, f25, f26⟩
      · have he := hed _ rfl
        simp only [Region.binds] at he
        try simp at he
        clear hed hdi
        refine wpOp_step rfl (fun K hK => ?_)
        have g8 := f8 (he.1)
        subst g8
        have g6 := f6 (he.2)
        subst g6
        go_simp
        (try (refine hK _ _ ?_; clear hK K))
        unfold EnterIy
        refine ⟨_, _, _, _, _, _, _, _, _, _, _, _, _, _, _, _, _, _, _, _, _, _, _, _, _, _, _, rfl, ?_⟩
        simp only [Nat.reduceBEq, Bool.false_or, Bool.true_or, beq_self_eq_true, forall_const]
        exact ⟨fb, f0, f1, f2, f3, f4, f5, (by first | exact f6 | (intros; trivial) | (intros; rfl)), f7, (by first | exact f8 | (intros; trivial) | (intros; rfl)), (by first | rfl | trivial), f10, f11, f12, f13, f14, f15, f16, f17, f18, f19, f20, f21, f22, f23, f24, f25, f26⟩
      · have he := hed _ rfl
        simp only [Region.binds] at he
        try simp at he
        clear hed hdi
        refine wpOp_step rfl (fun K hK => ?_)
        have g9 := f9 (he.1)
        subst g9
        have g6 := f6 (he.2)
        subst g6
        have qc := (fb.cell (p := ⟨B, 0, none⟩) hBl0).trans b0
        go_simp
        (try (refine hK _ _ ?_; clear hK K))
        unfold EnterIy
        refine ⟨_, _, _, _, _, _, _, _, _, _, _, _, _, _, _, _, _, _, _, _, _, _, _, _, _, _, _, rfl, ?_⟩
        simp only [Nat.reduceBEq, Bool.false_or, Bool.true_or, beq_self_eq_true, forall_const]
        exact ⟨fb, f0, f1, f2, f3, f4, f5, (by first | exact f6 | (intros; trivial) | (intros; rfl)), f7, f8, (by first | exact f9 | (intros; trivial) | (intros; rfl)), (by first | rfl | trivial), f11, f12, f13, f14, f15, f16, f17, f18, f19, f20, f21, f22, f23, f24, f25, f26⟩
      · have he := hed _ rfl
        simp only [Region.binds] at he
        try simp at he
        clear hed hdi
        refine wpOp_step rfl (fun K hK => ?_)
        have g6 := f6 (he)
        subst g6
        go_simp
        (try (refine hK _ _ ?_; clear hK K))
        unfold EnterIy
        refine ⟨_, _, _, _, _, _, _, _, _, _, _, _, _, _, _, _, _, _, _, _, _, _, _, _, _, _, _, rfl, ?_⟩
        simp only [Nat.reduceBEq, Bool.false_or, Bool.true_or, beq_self_eq_true, forall_const]
        exact ⟨fb, f0, f1, f2, f3, f4, f5, (by first | exact f6 | (intros; trivial) | (intros; rfl)), f7, f8, f9, f10, (by first | rfl | trivial), f12, f13, f14, f15, f16, f17, f18, f19, f20, f21, f22, f23, f24, f25, f26⟩
      · have he := hed _ rfl
        simp only [Region.binds] at he
        try simp at he
        clear hed hdi
        refine wpOp_step rfl (fun K hK => ?_)
        have g11 := f11 (he.1)
        subst g11
        have g6 := f6 (he.2)
        subst g6
        go_simp
        (try (refine hK _ _ ?_; clear hK K))
        unfold EnterIy
        refine ⟨_, _, _, _, _, _, _, _, _, _, _, _, _, _, _, _, _, _, _, _, _, _, _, _, _, _, _, rfl, ?_⟩
        simp only [Nat.reduceBEq, Bool.false_or, Bool.true_or, beq_self_eq_true, forall_const]
        exact ⟨fb, f0, f1, f2, f3, f4, f5, (by first | exact f6 | (intros; trivial) | (intros; rfl)), f7, f8, f9, f10, (by first | exact f11 | (intros; trivial) | (intros; rfl)), (by first | rfl | trivial), f13, f14, f15, f16, f17, f18, f19, f20, f21, f22, f23, f24, f25, f26⟩
      · have he := hed _ rfl
        simp only [Region.binds] at he
        try simp at he
        clear hed hdi
        refine wpOp_step rfl (fun K hK => ?_)
        have g12 := f12 (he.1)
        subst g12
        have g6 := f6 (he.2)
        subst g6
        go_simp
        (try (refine hK _ _ ?_; clear hK K))
        unfold EnterIy
        refine ⟨_, _, _, _, _, _, _, _, _, _, _, _, _, _, _, _, _, _, _, _, _, _, _, _, _, _, _, rfl, ?_⟩
        simp only [Nat.reduceBEq, Bool.false_or, Bool.true_or, beq_self_eq_true, forall_const]
        exact ⟨fb, f0, f1, f2, f3, f4, f5, (by first | exact f6 | (intros; trivial) | (intros; rfl)), f7, f8, f9, f10, f11, (by first | exact f12 | (intros; trivial) | (intros; rfl)), (by first | rfl | trivial), f14, f15, f16, f17, f18, f19, f20, f21, f22, f23, f24, f25, f26⟩
      · have he := hed _ rfl
        simp only [Region.binds] at he
        try simp at he
        clear hed hdi
        refine wpOp_step rfl (fun K hK => ?_)
        have g13 := f13 (he.1)
        subst g13
        have g6 := f6 (he.2)
        subst g6
        go_simp
        (try (refine hK _ _ ?_; clear hK K))
        unfold EnterIy
        refine ⟨_, _, _, _, _, _, _, _, _, _, _, _, _, _, _, _, _, _, _, _, _, _, _, _, _, _, _, rfl, ?_⟩
        simp only [Nat.reduceBEq, Bool.false_or, Bool.true_or, beq_self_eq_true, forall_const]
        exact ⟨fb, f0, f1, f2, f3, f4, f5, (by first | exact f6 | (intros; trivial) | (intros; rfl)), f7, f8, f9, f10, f11, f12, (by first | exact f13 | (intros; trivial) | (intros; rfl)), (by first | rfl | trivial), f15, f16, f17, f18, f19, f20, f21, f22, f23, f24, f25, f26⟩
      · have he := hed _ rfl
        simp only [Region.binds] at he
        try simp at he
        clear hed hdi
        refine wpOp_step rfl (fun K hK => ?_)
        have g14 := f14 (he.1)
        subst g14
        have g6 := f6 (he.2)
        subst g6
        have qc := (fb.cell (p := ⟨B, 5, none⟩) hBl0).trans b5
        go_simp
        (try (refine hK _ _ ?_; clear hK K))
        unfold EnterIy
        refine ⟨_, _, _, _, _, _, _, _, _, _, _, _, _, _, _, _, _, _, _, _, _, _, _, _, _, _, _, rfl, ?_⟩
        simp only [Nat.reduceBEq, Bool.false_or, Bool.true_or, beq_self_eq_true, forall_const]
        exact ⟨fb, f0, f1, f2, f3, f4, f5, (by first | exact f6 | (intros; trivial) | (intros; rfl)), f7, f8, f9, f10, f11, f12, f13, (by first | exact f14 | (intros; trivial) | (intros; rfl)), (by first | rfl | trivial), f16, f17, f18, f19, f20, f21, f22, f23, f24, f25, f26⟩
      · have he := hed _ rfl
        simp only [Region.binds] at he
        try simp at he
        clear hed hdi
        refine wpOp_step rfl (fun K hK => ?_)
        have g10 := f10 (he.1)
        subst g10
        have g15 := f15 (he.2.1)
        subst g15
        have g6 := f6 (he.2.2)
        subst g6
        go_simp
        (try (refine hK _ _ ?_; clear hK K))
        unfold EnterIy
        refine ⟨_, _, _, _, _, _, _, _, _, _, _, _, _, _, _, _, _, _, _, _, _, _, _, _, _, _, _, rfl, ?_⟩
        simp only [Nat.reduceBEq, Bool.false_or, Bool.true_or, beq_self_eq_true, forall_const]
        exact ⟨fb, f0, f1, f2, f3, f4, f5, (by first | exact f6 | (intros; trivial) | (intros; rfl)), f7, f8, f9, (by first | exact f10 | (intros; trivial) | (intros; rfl)), f11, f12, f13, f14, (by first | exact f15 | (intros; trivial) | (intros; rfl)), (by first | rfl | trivial), f17, f18, f19, f20, f21, f22, f23, f24, f25, f26⟩
      · have he := hed _ rfl
        simp only [Region.binds] at he
        try simp at he
        clear hed hdi
        refine wpOp_step rfl (fun K hK => ?_)
        have g6 := f6 (he.1)
        subst g6
        have g16 := f16 (he.2)
        subst g16
        go_simp
        (try (refine hK _ _ ?_; clear hK K))
        unfold EnterIy
        refine ⟨_, _, _, _, _, _, _, _, _, _, _, _, _, _, _, _, _, _, _, _, _, _, _, _, _, _, _, rfl, ?_⟩
        simp only [Nat.reduceBEq, Bool.false_or, Bool.true_or, beq_self_eq_true, forall_const]
        exact ⟨fb, f0, f1, f2, f3, f4, f5, (by first | exact f6 | (intros; trivial) | (intros; rfl)), f7, f8, f9, f10, f11, f12, f13, f14, f15, (by first | exact f16 | (intros; trivial) | (intros; rfl)), (by first | rfl | trivial), f18, f19, f20, f21, f22, f23, f24, f25, f26⟩
      · have he := hed _ rfl
        simp only [Region.binds] at he
        try simp at he
        clear hed hdi
        refine wpOp_step rfl (fun K hK => ?_)
        have g17 := f17 (he.1)
        subst g17
        go_wp2_with (go_at_call 97; (with_reducible refine (when_is (by decide) H0.out).use ?_))
        (try (refine hK _ _ ?_; clear hK K))
        unfold EnterIy
        refine ⟨_, _, _, _, _, _, _, _, _, _, _, _, _, _, _, _, _, _, _, _, _, _, _, _, _, _, _, rfl, ?_⟩
        simp only [Nat.reduceBEq, Bool.false_or, Bool.true_or, beq_self_eq_true, forall_const]
        exact ⟨fb, f0, f1, f2, f3, f4, f5, (by first | exact f6 | (intros; trivial) | (intros; rfl)), f7, f8, f9, f10, f11, f12, f13, f14, f15, f16, (by first | exact f17 | (intros; trivial) | (intros; rfl)), (by first | rfl | trivial), f19, f20, f21, f22, f23, f24, f25, f26⟩
      · have he := hed _ rfl
        simp only [Region.binds] at he
        try simp at he
        clear hed hdi
        refine wpOp_step rfl (fun K hK => ?_)
        go_simp
        (try (refine hK _ _ ?_; clear hK K))
        unfold EnterIy
        refine ⟨_, _, _, _, _, _, _, _, _, _, _, _, _, _, _, _, _, _, _, _, _, _, _, _, _, _, _, rfl, ?_⟩
        simp only [Nat.reduceBEq, Bool.false_or, Bool.true_or, beq_self_eq_true, forall_const]
        exact ⟨fb, f0, f1, f2, f3, f4, f5, f6, f7, f8, f9, f10, f11, f12, f13, f14, f15, f16, f17, f18, (by first | rfl | trivial), f20, f21, f22, f23, f24, f25, f26⟩
      · have he := hed _ rfl
        simp only [Region.binds] at he
        try simp at he
        clear hed hdi
        refine wpOp_step rfl (fun K hK => ?_)
        have g19 := f19 (he)
        subst g19
        go_simp
        (try (refine hK _ _ ?_; clear hK K))
        unfold EnterIy
        refine ⟨_, _, _, _, _, _, _, _, _, _, _, _, _, _, _, _, _, _, _, _, _, _, _, _, _, _, _, rfl, ?_⟩
        simp only [Nat.reduceBEq, Bool.false_or, Bool.true_or, beq_self_eq_true, forall_const]
        exact ⟨fb, f0, f1, f2, f3, f4, f5, f6, f7, f8, f9, f10, f11, f12, f13, f14, f15, f16, f17, f18, (by first | exact f19 | (intros; trivial) | (intros; rfl)), (by first | rfl | trivial), f21, f22, f23, f24, f25, f26⟩
      · have he := hed _ rfl
        simp only [Region.binds] at he
        try simp at he
        clear hed hdi
        refine wpOp_step rfl (fun K hK => ?_)
        have g20 := f20 (he)
        subst g20
        go_simp
        (try (refine hK _ _ ?_; clear hK K))
        unfold EnterIy
        refine ⟨_, _, _, _, _, _, _, _, _, _, _, _, _, _, _, _, _, _, _, _, _, _, _, _, _, _, _, rfl, ?_⟩
        simp only [Nat.reduceBEq, Bool.false_or, Bool.true_or, beq_self_eq_true, forall_const]
        exact ⟨fb, f0, f1, f2, f3, f4, f5, f6, f7, f8, f9, f10, f11, f12, f13, f14, f15, f16, f17, f18, f19, (by first | exact f20 | (intros; trivial) | (intros; rfl)), (by first | rfl | trivial), f22, f23, f24, f25, f26⟩
      · have he := hed _ rfl
        simp only [Region.binds] at he
        try simp at he
        clear hed hdi
        refine wpOp_step rfl (fun K hK => ?_)
        have g21 := f21 (he)
        subst g21
        have qc := (fb.cell (p := ⟨B, 8, none⟩) hBl0).trans b8
        go_simp
        (try (refine hK _ _ ?_; clear hK K))
        unfold EnterIy
        refine ⟨_, _, _, _, _, _, _, _, _, _, _, _, _, _, _, _, _, _, _, _, _, _, _, _, _, _, _, rfl, ?_⟩
        simp only [Nat.reduceBEq, Bool.false_or, Bool.true_or, beq_self_eq_true, forall_const]
        exact ⟨fb, f0, f1, f2, f3, f4, f5, f6, f7, f8, f9, f10, f11, f12, f13, f14, f15, f16, f17, f18, f19, f20, (by first | exact f21 | (intros; trivial) | (intros; rfl)), (by first | rfl | trivial), f23, f24, f25, f26⟩
      · have he := hed _ rfl
        simp only [Region.binds] at he
        try simp at he
        clear hed hdi
        refine wpOp_step rfl (fun K hK => ?_)
        have g22 := f22 (he.1)
        subst g22
        go_wp2_with (go_at_call 97; (with_reducible refine (when_is (by decide) H1.out).use ?_))
        (try (refine hK _ _ ?_; clear hK K))
        unfold EnterIy
        refine ⟨_, _, _, _, _, _, _, _, _, _, _, _, _, _, _, _, _, _, _, _, _, _, _, _, _, _, _, rfl, ?_⟩
        simp only [Nat.reduceBEq, Bool.false_or, Bool.true_or, beq_self_eq_true, forall_const]
        exact ⟨fb, f0, f1, f2, f3, f4, f5, f6, f7, f8, f9, f10, f11, f12, f13, f14, f15, f16, f17, (by first | exact f18 | (intros; trivial) | (intros; rfl)), f19, f20, f21, (by first | exact f22 | (intros; trivial) | (intros; rfl)), (by first | rfl | trivial), f24, f25, f26⟩
      · have he := hed _ rfl
        simp only [Region.binds] at he
        try simp at he
        clear hed hdi
        refine wpOp_step rfl (fun K hK => ?_)
        have g18 := f18 (he.1)
        subst g18
        have g23 := f23 (he.2)
        subst g23
        go_simp
        (try (refine hK _ _ ?_; clear hK K))
        unfold EnterIy
        refine ⟨_, _, _, _, _, _, _, _, _, _, _, _, _, _, _, _, _, _, _, _, _, _, _, _, _, _, _, rfl, ?_⟩
        simp only [Nat.reduceBEq, Bool.false_or, Bool.true_or, beq_self_eq_true, forall_const]
        exact ⟨by (repeat' (first | exact Below.refl _ _ | assumption | refine below_new ?_ _ | refine below_draw ?_ | refine below_tail (by assumption) ?_ | refine below_set ?_ (by first | omega | (simp <;> omega)) _)), f0, f1, f2, f3, f4, f5, f6, f7, f8, f9, f10, f11, f12, f13, f14, f15, f16, f17, (by first | exact f18 | (intros; trivial) | (intros; rfl)), f19, f20, f21, f22, (by first | exact f23 | (intros; trivial) | (intros; rfl)), errs2 rfl, f25, f26⟩
      · have he := hed _ rfl
        simp only [Region.binds] at he
        try simp at he
        clear hed hdi
        refine wpOp_step rfl (fun K hK => ?_)
        have g24 := f24 (he.1)
        go_wp2_with (go_at_call 96; (with_reducible refine (first_is g24 HEE.out).use ?_))
        (try (refine hK _ _ ?_; clear hK K))
        unfold EnterIy
        refine ⟨_, _, _, _, _, _, _, _, _, _, _, _, _, _, _, _, _, _, _, _, _, _, _, _, _, _, _, rfl, ?_⟩
        simp only [Nat.reduceBEq, Bool.false_or, Bool.true_or, beq_self_eq_true, forall_const]
        exact ⟨fb, f0, f1, f2, f3, f4, f5, f6, f7, f8, f9, f10, f11, f12, f13, f14, f15, f16, f17, f18, f19, f20, f21, f22, (by first | exact f23 | (intros; trivial) | (intros; rfl)), (by first | exact f24 | (intros; trivial) | (intros; rfl)), (by first | rfl | trivial), f26⟩
      · have he := hed _ rfl
        simp only [Region.binds] at he
        try simp at he
        clear hed hdi
        refine wpOp_step rfl (fun K hK => ?_)
        have g25 := f25 (he.1)
        subst g25
        go_simp
        (try (refine hK _ _ ?_; clear hK K))
        unfold EnterIy
        refine ⟨_, _, _, _, _, _, _, _, _, _, _, _, _, _, _, _, _, _, _, _, _, _, _, _, _, _, _, rfl, ?_⟩
        simp only [Nat.reduceBEq, Bool.false_or, Bool.true_or, beq_self_eq_true, forall_const]
        exact ⟨fb, (by first | exact f0 | (intros; trivial) | (intros; rfl)), (by first | exact f1 | (intros; trivial) | (intros; rfl)), (by first | exact f2 | (intros; trivial) | (intros; rfl)), (by first | exact f3 | (intros; trivial) | (intros; rfl)), (by first | exact f4 | (intros; trivial) | (intros; rfl)), (by first | exact f5 | (intros; trivial) | (intros; rfl)), (by first | exact f6 | (intros; trivial) | (intros; rfl)), (by first | exact f7 | (intros; trivial) | (intros; rfl)), (by first | exact f8 | (intros; trivial) | (intros; rfl)), (by first | exact f9 | (intros; trivial) | (intros; rfl)), (by first | exact f10 | (intros; trivial) | (intros; rfl)), (by first | exact f11 | (intros; trivial) | (intros; rfl)), (by first | exact f12 | (intros; trivial) | (intros; rfl)), (by first | exact f13 | (intros; trivial) | (intros; rfl)), (by first | exact f14 | (intros; trivial) | (intros; rfl)), (by first | exact f15 | (intros; trivial) | (intros; rfl)), (by first | exact f16 | (intros; trivial) | (intros; rfl)), (by first | exact f17 | (intros; trivial) | (intros; rfl)), (by first | exact f18 | (intros; trivial) | (intros; rfl)), (by first | exact f19 | (intros; trivial) | (intros; rfl)), (by first | exact f20 | (intros; trivial) | (intros; rfl)), (by first | exact f21 | (intros; trivial) | (intros; rfl)), (by first | exact f22 | (intros; trivial) | (intros; rfl)), (by first | exact f23 | (intros; trivial) | (intros; rfl)), (by first | exact f24 | (intros; trivial) | (intros; rfl)), (by first | exact f25 | (intros; trivial) | (intros; rfl)), (by first | rfl | trivial)⟩
    case hend =>
      intro d a x hI hall
      unfold EnterIy at hI
      obtain ⟨u23, u403, u404, u405, u406, u407, u408, u409, u410, u411, u412, u413, u414, u415, u416, u417, u418, u419, u420, u421, u422, u423, u424, u425, u426, u427, u428, ha_, hR⟩ := hI
      obtain ⟨fb, f0, f1, f2, f3, f4, f5, f6, f7, f8, f9, f10, f11, f12, f13, f14, f15, f16, f17, f18, f19, f20, f21, f22, f23, f24, f25, f26⟩ := hR
      subst ha_
      have gl := f26 (hall 26 (by decide))
      subst gl
      have HSx : Hid (Done m w x B n s g1 c1 g2 c2 g3 c3) := HD.out.below fb
      have hBlx : B < x.heap.size := Nat.lt_of_lt_of_le hBl0 fb.size
      have bx0 := (fb.cell (p := ⟨B, 0, none⟩) hBl0).trans b0
      have fbx0 : x.frozen? ⟨B, 0, none⟩ = false := frozen_of_block HSx.out.box.box 0
      have bx1 := (fb.cell (p := ⟨B, 1, none⟩) hBl0).trans b1
      have fbx1 : x.frozen? ⟨B, 1, none⟩ = false := frozen_of_block HSx.out.box.box 1
      have bx2 := (fb.cell (p := ⟨B, 2, none⟩) hBl0).trans b2
      have fbx2 : x.frozen? ⟨B, 2, none⟩ = false := frozen_of_block HSx.out.box.box 2
      have bx3 := (fb.cell (p := ⟨B, 3, none⟩) hBl0).trans b3
      have fbx3 : x.frozen? ⟨B, 3, none⟩ = false := frozen_of_block HSx.out.box.box 3
      have bx4 := (fb.cell (p := ⟨B, 4, none⟩) hBl0).trans b4
      have fbx4 : x.frozen? ⟨B, 4, none⟩ = false := frozen_of_block HSx.out.box.box 4
      have bx5 := (fb.cell (p := ⟨B, 5, none⟩) hBl0).trans b5
      have fbx5 : x.frozen? ⟨B, 5, none⟩ = false := frozen_of_block HSx.out.box.box 5
      have bx6 := (fb.cell (p := ⟨B, 6, none⟩) hBl0).trans b6
      have fbx6 : x.frozen? ⟨B, 6, none⟩ = false := frozen_of_block HSx.out.box.box 6
      have bx7 := (fb.cell (p := ⟨B, 7, none⟩) hBl0).trans b7
      have fbx7 : x.frozen? ⟨B, 7, none⟩ = false := frozen_of_block HSx.out.box.box 7
      have bx8 := (fb.cell (p := ⟨B, 8, none⟩) hBl0).trans b8
      have fbx8 : x.frozen? ⟨B, 8, none⟩ = false := frozen_of_block HSx.out.box.box 8
      have HFB := Lib.hid fb
      clear fb f0 f1 f2 f3 f4 f5 f6 f7 f8 f9 f10 f11 f12 f13 f14 f15 f16 f17 f18 f19 f20 f21 f22 f23 f24 f25 f26
      clear hm
      by_cases hz : e = 0
      · have HE0 := Lib.hid hz
        rw [hz, errV_0]
        clear hz
        have HCLM : Hid (∀ y, Below x.heap.size x y → Calls Tryz.prog 66 #[.agg #[.int .i64 s.day, .slice (some ⟨g1, 0, none⟩) n c1, .slice (some ⟨g2, 0, none⟩) n c2, .int .i64 s.part, .bool s.fixed, .int .i64 s.stop, .bool true, .slice (some ⟨g3, 0, none⟩) n c3, .bool s.ent]] y fun e w' => ∃ v, e = .returned v ∧ IntsT y.heap.size w' v (clmF s) ∧ Below y.heap.size y w') := by
          intro y fy
          have h := claims_calls m y n s g1 c1 g2 c2 g3 c3 (HSx.out.box.st.below fy) HG.out
          unfold stW at h
          rw [HFX.out] at h
          exact h
        go_wp2_with (go_at_call 66; (refine (HCLM.out _ (Below.refl _ _)).mono ?_); rintro e6 x6 ⟨v6, rfl, HI6, hb6⟩; have HI := Lib.hid HI6; obtain ⟨⟨va, vc, rfl, -⟩, -⟩ := HI6)
        have HS6 : Hid (Done m w x6 B n s g1 c1 g2 c2 g3 c3) := HSx.out.below hb6
        have hl8 : (clmF s).length ≤ n := by unfold clmF; split <;> simp [dedF_len, HSx.out.box.st.l1]
        have HLC := HG.out.clm_sum HSx.out.box.st
        have HCL := Lib.hid HLC.2
        have HLF := Lib.hid (HG.out.laid_few HSx.out.box.st).2
        have HL0 := Lib.hid HG.out.laid0
        clear HLC
        have by2 := (hb6.cell (p := ⟨B, 2, none⟩) hBlx).trans bx2
        have by8 := (hb6.cell (p := ⟨B, 8, none⟩) hBlx).trans bx8
        have fby8 : x6.frozen? ⟨B, 8, none⟩ = false := frozen_of_block HS6.out.box.box 8
        have hBl6 : B < x6.heap.size := Nat.lt_of_lt_of_le hBlx hb6.size
        obtain ⟨L, hL⟩ : ∃ L, (clmF s).length = L := ⟨_, rfl⟩
        have HLL := Lib.hid hL
        rw [hL] at HI ⊢
        have hLn : L ≤ n := by omega
        clear hL hl8 bx0 bx1 bx2 bx3 bx4 bx5 bx6 bx7 bx8 fbx0 fbx1 fbx2 fbx3 fbx4 fbx5 fbx6 fbx7 fbx8 b0 b1 b2 b3 b4 b5 b6 b7 b8 hBW kf hBC
        go_loop [24, 25, 26, 437] (fun _ _ _ i => ∃ q : Nat, q ≤ L ∧ i = .int .i64 q ∧ Hid (offK s q = false)) (fun _ _ _ i => L - (intOf i).toNat)
        case atStart => exact ⟨0, Nat.zero_le _, rfl, rfl⟩
        case round =>
          obtain ⟨q, hq, rfl, HO⟩ := hrel
          by_cases hlt : q < L
          · obtain ⟨b1, o1, rfl, hB1, hcell1⟩ := HI.out.1.cellAt (m := q) (by rw [HLL.out]; exact hlt)
            obtain ⟨cq, hcq⟩ : ∃ v, gi (clmF s) 0 q = v := ⟨_, rfl⟩
            obtain ⟨lq, hlq⟩ : ∃ v, gi s.laid 0 q = v := ⟨_, rfl⟩
            have z1 : x6.cell? ⟨g2, q, none⟩ = some (.int .i64 lq) := by rw [← hlq]; exact HS6.out.box.st.c2 (by omega)
            have rc := HCL.out cq (by rw [← hcq]; exact gi_mem (by rw [HLL.out]; exact hlt))
            have rl : 0 ≤ lq ∧ lq ≤ 10000 := by rw [← hlq]; have hh := gi_mem (d := 0) (by rw [HS6.out.box.st.l2]; omega : q < s.laid.length); exact ⟨HL0.out _ hh, HLF.out _ hh⟩
            have HOS : Hid (offK s (q + 1) = decide (cq < 10 * max (lq - cq) (-(lq - cq)))) := by show _ = _; rw [offK_succ, HO.out, hcq, hlq]; rfl
            rw [hcq] at hcell1
            have hw1 : IntKind.i64.wrap (lq - cq) = lq - cq := IntWalk.i64_in _ (by omega)
            have hw2 : IntKind.i64.wrap (-(lq - cq)) = -(lq - cq) := IntWalk.i64_in _ (by omega)
            have hw6 : IntKind.i64.wrap ((q : Int) + 1) = (q : Int) + 1 := IntWalk.i64_in _ (by omega)
            have hqn : (q : Int) < (n : Int) := by omega
            obtain ⟨dd, hdd⟩ : ∃ dd, lq - cq = dd := ⟨_, rfl⟩
            rw [hdd] at HOS hw1 hw2
            have hw3 : IntKind.i64.wrap (10 * dd) = 10 * dd := IntWalk.i64_in _ (by omega)
            have hw4 : IntKind.i64.wrap (10 * -dd) = 10 * -dd := IntWalk.i64_in _ (by omega)
            have rd : -1000 ≤ dd ∧ dd ≤ 10000 := by omega
            clear hcq hlq
            obtain ⟨mx, hmx⟩ : ∃ mx, max dd (-dd) = mx := ⟨_, rfl⟩
            have rm : mx = dd ∧ -dd ≤ dd ∨ mx = -dd ∧ dd < -dd := by omega
            rw [hmx] at HOS
            have HMX := Lib.hid hmx
            clear hmx
            rcases (show dd < 0 ∨ 0 ≤ dd by omega) with hd | hd
            · obtain rfl : mx = -dd := by omega
              have k1 : ¬ -dd < dd := by omega
              have k2 : dd < -dd := by omega
              by_cases hb : cq < 10 * -dd
              · have kb : decide (cq < 10 * -dd) = true := decide_eq_true hb
                have HOB : Hid (offB s = true) := by show _ = _; exact offB_of (k := q + 1) (by rw [HLL.out]; omega) (by rw [HOS.out]; exact kb)
                go_wp2
                refine bodyPost_ret (v := .iface 127 (.agg #[.int .i64 8])) (by simp [results, Tryz.f64, go_sem]) rfl ?_
                exact ⟨by rw [HKK.out, if_pos HE0.out, HOB.out]; rfl, HS6.out.bel.trans (by (repeat' (first | exact Below.refl _ _ | assumption | refine below_new ?_ _ | refine below_draw ?_ | refine below_tail (by assumption) ?_ | refine below_set ?_ (by first | omega | (simp <;> omega)) _))), fun h0 => absurd ((HKK.out.trans ((if_pos HE0.out).trans (by rw [HOB.out]))).symm.trans h0) (by decide)⟩
              · have kb : decide (cq < 10 * -dd) = false := decide_eq_false hb
                have HKF : Hid (offK s (q + 1) = false) := by show _ = _; rw [HOS.out]; exact kb
                go_wp2
                go_round
                case rel => exact ⟨q + 1, by omega, by go_num, HKF.out⟩
                case measure => simp [intOf]; omega
            · obtain rfl : dd = mx := by omega
              have k1 : -dd ≤ dd := by omega
              have k2 : ¬ dd < -dd := by omega
              by_cases hb : cq < 10 * dd
              · have kb : decide (cq < 10 * dd) = true := decide_eq_true hb
                have HOB : Hid (offB s = true) := by show _ = _; exact offB_of (k := q + 1) (by rw [HLL.out]; omega) (by rw [HOS.out]; exact kb)
                go_wp2
                refine bodyPost_ret (v := .iface 127 (.agg #[.int .i64 8])) (by simp [results, Tryz.f64, go_sem]) rfl ?_
                exact ⟨by rw [HKK.out, if_pos HE0.out, HOB.out]; rfl, HS6.out.bel.trans (by (repeat' (first | exact Below.refl _ _ | assumption | refine below_new ?_ _ | refine below_draw ?_ | refine below_tail (by assumption) ?_ | refine below_set ?_ (by first | omega | (simp <;> omega)) _))), fun h0 => absurd ((HKK.out.trans ((if_pos HE0.out).trans (by rw [HOB.out]))).symm.trans h0) (by decide)⟩
              · have kb : decide (cq < 10 * dd) = false := decide_eq_false hb
                have HKF : Hid (offK s (q + 1) = false) := by show _ = _; rw [HOS.out]; exact kb
                go_wp2
                go_round
                case rel => exact ⟨q + 1, by omega, by go_num, HKF.out⟩
                case measure => simp [intOf]; omega
          · obtain rfl : q = L := by omega
            have HOB : Hid (offB s = false) := by show _ = _; unfold offB; rw [HLL.out]; exact HO.out
            go_wp2
            refine bodyPost_ret (v := .nilIface) (by simp [results, Tryz.f64, go_sem]) rfl ?_
            refine Done.fin (HKK.out.trans ((if_pos HE0.out).trans (by rw [HOB.out]; rfl))) ?_
            exact Done.below (Done.cell (s' := kindS c s 8 []) (i := 8) (v := .bool true) HS6.out rfl rfl rfl rfl) (by (repeat' (first | exact Below.refl _ _ | assumption | refine below_new ?_ _ | refine below_draw ?_ | refine below_tail (by assumption) ?_ | refine below_set ?_ (by first | omega | (simp <;> omega)) _)))
      · have hne := Lib.hid hz
        rw [errV_ne hz]
        go_wp2
        refine bodyPost_ret (v := .iface 127 (.agg #[.int .i64 e])) (by simp [results, Tryz.f64, go_sem]) rfl ?_
        exact ⟨by rw [HKK.out, if_neg hne.out, errV_ne hne.out], HSx.out.bel.trans (by (repeat' (first | exact Below.refl _ _ | assumption | refine below_new ?_ _ | refine below_draw ?_ | refine below_tail (by assumption) ?_ | refine below_set ?_ (by first | omega | (simp <;> omega)) _))), fun h0 => absurd ((HKK.out.trans (if_neg hne.out)).symm.trans h0) hne.out⟩
end Go.Proofs.YthooacpfmjpdmaaGreatDoor
