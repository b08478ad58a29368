/- The shelf's contracts for strings.Builder.String, strconv.Itoa, strings.Split at this dump (laid by the kit's shelf tools, in plain words). -/
import Derived.Shelf.Strings.Builder1
import Derived.Shelf.Strconv.Itoa0
import Derived.Shelf.Strconv.Itoa1
import Derived.Shelf.LaysM
import Derived.Shelf.Strconv.Itoa2
import Derived.Shelf.Strconv.Itoa3
import Derived.Shelf.Strings.Search1
import Derived.Shelf.Strings.Search2
import Derived.Shelf.Strings.Search3
import Derived.Shelf.Strings.Count
import Derived.Shelf.Strings.Split
import Derived.Test.YtgfhcmidnbahjaaGreatDoorProg
set_option linter.unusedVariables false
set_option linter.unusedSimpArgs false
namespace Go.Proofs
open Go.Shelf
def Tryz.lays169_ren : Go.Shelf.Ren := ⟨fun | 169 => 95 | n => n, fun | 70 => 138 | 9 => 9 | 0 => 0 | 72 => 140 | 37 => 58 | 127 => 207 | 3 => 3 | 5 => 5 | n => n, fun | n => n⟩
theorem Tryz.lays169 : Go.Proofs.Lays.n169 Tryz.prog Tryz.lays169_ren := {
  mixed := by kernel_rfl
  f169 := Tryz.func95.trans (congrArg some (by kernel_rfl))
  t0 := Tryz.underlying0
  a0 := Tryz.isAgg0
  z0 := Tryz.sizeOf0
  v0 := Tryz.zeroValue0
  t3 := Tryz.underlying3
  a3 := Tryz.isAgg3
  z3 := Tryz.sizeOf3
  v3 := Tryz.zeroValue3
  t9 := Tryz.underlying9
  a9 := Tryz.isAgg9
  z9 := Tryz.sizeOf9
  v9 := Tryz.zeroValue9
  t37 := Tryz.underlying58
  a37 := Tryz.isAgg58
  z37 := Tryz.sizeOf58
  v37 := Tryz.zeroValue58
  t70 := Tryz.underlying138
  a70 := Tryz.isAgg138
  z70 := Tryz.sizeOf138
  v70 := Tryz.zeroValue138
  t72 := Tryz.underlying140
  a72 := Tryz.isAgg140
  z72 := Tryz.sizeOf140
  v72 := Tryz.zeroValue140
  t127 := Tryz.underlying207
  a127 := Tryz.isAgg207
  z127 := Tryz.sizeOf207
  v127 := Tryz.zeroValue207 }
theorem Tryz.Builder_Extra_169 : Builder.Extra Tryz.prog Tryz.lays169_ren := {
  sizeBuilder := by kernel_rfl
  liesBuilder := by kernel_rfl
  t5 := Tryz.underlying5
  a5 := Tryz.isAgg5
  z5 := Tryz.sizeOf5
  v5 := Tryz.zeroValue5
  infoByte := by kernel_rfl
  cellsByte := by kernel_rfl
  sizeByte := by kernel_rfl
  neB5 := by decide }
open Go.RowKit in
theorem Tryz.Builder_String_any (B b : Nat) (l : List UInt8) (w : World) (h : Lib.IsBuilder 140 5 B b (Lib.byteCells l) w) (hBw : B ≤ w.heap.size) :
    Calls Tryz.prog 95 #[.pointer (some ⟨b, 0, none⟩)] w fun e w' => e = .returned (.string ⟨l.toArray⟩) ∧ Below B w w' := Any.Builder_String_any Tryz.lays169 Tryz.Builder_Extra_169 B b l w h hBw
def Tryz.lays129_ren : Go.Shelf.Ren := ⟨fun | 129 => 264 | n => n, fun | 53 => 293 | 3 => 3 | 4 => 4 | 46 => 248 | 5 => 5 | 9 => 9 | n => n, fun | n => n⟩
def Tryz.lays317_ren : Go.Shelf.Ren := ⟨fun | 317 => 318 | n => n, fun | 3 => 3 | 46 => 248 | n => n, fun | n => n⟩
def Tryz.lays318_ren : Go.Shelf.Ren := ⟨fun | 318 => 319 | n => n, fun | 3 => 3 | 4 => 4 | n => n, fun | n => n⟩
def Tryz.lays283_ren : Go.Shelf.Ren := ⟨fun | 283 => 269 | n => n, fun | 3 => 3 | 9 => 9 | 4 => 4 | n => n, fun | n => n⟩
def Tryz.laysM284_ren : Go.Shelf.Ren := ⟨fun | 284 => 270 | 129 => 264 | 317 => 318 | 318 => 319 | n => n, fun | 53 => 293 | 3 => 3 | 212 => 318 | 0 => 0 | 4 => 4 | 46 => 248 | 5 => 5 | 9 => 9 | n => n, fun | 17 => 1 | n => n⟩
def Tryz.lays285_ren : Go.Shelf.Ren := ⟨fun | 285 => 271 | n => n, fun | 37 => 58 | 53 => 293 | 3 => 3 | 4 => 4 | 51 => 291 | 9 => 9 | 5 => 5 | 0 => 0 | n => n, fun | n => n⟩
def Tryz.laysM246_ren : Go.Shelf.Ren := ⟨fun | 246 => 206 | 283 => 269 | 284 => 270 | 285 => 271 | 286 => 272 | 129 => 264 | 317 => 318 | 318 => 319 | 319 => 320 | 320 => 321 | 337 => 330 | 338 => 331 | n => n, fun | 2 => 2 | 3 => 3 | 9 => 9 | 4 => 4 | 171 => 298 | 0 => 0 | 53 => 293 | 37 => 58 | 5 => 5 | 173 => 300 | 212 => 318 | 51 => 291 | 20 => 20 | 213 => 319 | 46 => 248 | 232 => 333 | 233 => 334 | n => n, fun | 17 => 1 | 18 => 5 | 19 => 6 | n => n⟩
def Tryz.lays246_ren : Go.Shelf.Ren := ⟨fun | 246 => 206 | 283 => 269 | 284 => 270 | 285 => 271 | 286 => 272 | 129 => 264 | 317 => 318 | 318 => 319 | 319 => 320 | 320 => 321 | 337 => 330 | 338 => 331 | n => n, fun | 2 => 2 | 3 => 3 | 9 => 9 | 4 => 4 | 171 => 298 | 0 => 0 | 53 => 293 | 37 => 58 | 5 => 5 | 173 => 300 | 212 => 318 | 51 => 291 | 20 => 20 | 213 => 319 | 46 => 248 | 232 => 333 | 233 => 334 | n => n, fun | 17 => 1 | 18 => 5 | 19 => 6 | n => n⟩
def Tryz.laysM243_ren : Go.Shelf.Ren := ⟨fun | 243 => 148 | 246 => 206 | 283 => 269 | 284 => 270 | 285 => 271 | 286 => 272 | 129 => 264 | 317 => 318 | 318 => 319 | 319 => 320 | 320 => 321 | 337 => 330 | 338 => 331 | n => n, fun | 3 => 3 | 9 => 9 | 2 => 2 | 4 => 4 | 171 => 298 | 0 => 0 | 53 => 293 | 37 => 58 | 5 => 5 | 173 => 300 | 212 => 318 | 51 => 291 | 20 => 20 | 213 => 319 | 46 => 248 | 232 => 333 | 233 => 334 | n => n, fun | 17 => 1 | 18 => 5 | 19 => 6 | n => n⟩
def Tryz.lays243_ren : Go.Shelf.Ren := ⟨fun | 243 => 148 | 246 => 206 | 283 => 269 | 284 => 270 | 285 => 271 | 286 => 272 | 129 => 264 | 317 => 318 | 318 => 319 | 319 => 320 | 320 => 321 | 337 => 330 | 338 => 331 | n => n, fun | 3 => 3 | 9 => 9 | 2 => 2 | 4 => 4 | 171 => 298 | 0 => 0 | 53 => 293 | 37 => 58 | 5 => 5 | 173 => 300 | 212 => 318 | 51 => 291 | 20 => 20 | 213 => 319 | 46 => 248 | 232 => 333 | 233 => 334 | n => n, fun | 17 => 1 | 18 => 5 | 19 => 6 | n => n⟩
def Tryz.laysM171_ren : Go.Shelf.Ren := ⟨fun | 171 => 93 | 243 => 148 | 246 => 206 | 283 => 269 | 284 => 270 | 285 => 271 | 286 => 272 | 129 => 264 | 317 => 318 | 318 => 319 | 319 => 320 | 320 => 321 | 337 => 330 | 338 => 331 | n => n, fun | 3 => 3 | 9 => 9 | 2 => 2 | 4 => 4 | 171 => 298 | 0 => 0 | 53 => 293 | 37 => 58 | 5 => 5 | 173 => 300 | 212 => 318 | 51 => 291 | 20 => 20 | 213 => 319 | 46 => 248 | 232 => 333 | 233 => 334 | n => n, fun | 17 => 1 | 18 => 5 | 19 => 6 | n => n⟩
theorem Tryz.laysM171 : Go.Proofs.LaysM.n171 Tryz.prog Tryz.laysM171_ren := {
  mixed := by kernel_rfl
  f129 := Tryz.func264.trans (congrArg some (by kernel_rfl))
  f171 := Tryz.func93.trans (congrArg some (by kernel_rfl))
  f243 := Tryz.func148.trans (congrArg some (by kernel_rfl))
  f246 := Tryz.func206.trans (congrArg some (by kernel_rfl))
  f283 := Tryz.func269.trans (congrArg some (by kernel_rfl))
  f284 := Tryz.func270.trans (congrArg some (by kernel_rfl))
  f285 := Tryz.func271.trans (congrArg some (by kernel_rfl))
  f286 := Tryz.func272.trans (congrArg some (by kernel_rfl))
  f317 := Tryz.func318.trans (congrArg some (by kernel_rfl))
  f318 := Tryz.func319.trans (congrArg some (by kernel_rfl))
  f319 := Tryz.func320.trans (congrArg some (by kernel_rfl))
  f320 := Tryz.func321.trans (congrArg some (by kernel_rfl))
  f337 := Tryz.func330.trans (congrArg some (by kernel_rfl))
  f338 := Tryz.func331.trans (congrArg some (by kernel_rfl))
  t0 := Tryz.underlying0
  a0 := Tryz.isAgg0
  z0 := Tryz.sizeOf0
  v0 := Tryz.zeroValue0
  t2 := Tryz.underlying2
  a2 := Tryz.isAgg2
  z2 := Tryz.sizeOf2
  v2 := Tryz.zeroValue2
  t3 := Tryz.underlying3
  a3 := Tryz.isAgg3
  z3 := Tryz.sizeOf3
  v3 := Tryz.zeroValue3
  t4 := Tryz.underlying4
  a4 := Tryz.isAgg4
  z4 := Tryz.sizeOf4
  v4 := Tryz.zeroValue4
  t5 := Tryz.underlying5
  a5 := Tryz.isAgg5
  z5 := Tryz.sizeOf5
  v5 := Tryz.zeroValue5
  t9 := Tryz.underlying9
  a9 := Tryz.isAgg9
  z9 := Tryz.sizeOf9
  v9 := Tryz.zeroValue9
  t20 := Tryz.underlying20
  a20 := Tryz.isAgg20
  z20 := Tryz.sizeOf20
  v20 := Tryz.zeroValue20
  t37 := Tryz.underlying58
  a37 := Tryz.isAgg58
  z37 := Tryz.sizeOf58
  v37 := Tryz.zeroValue58
  t46 := Tryz.underlying248
  a46 := Tryz.isAgg248
  z46 := Tryz.sizeOf248
  v46 := Tryz.zeroValue248
  t51 := Tryz.underlying291
  a51 := Tryz.isAgg291
  z51 := Tryz.sizeOf291
  v51 := Tryz.zeroValue291
  t53 := Tryz.underlying293
  a53 := Tryz.isAgg293
  z53 := Tryz.sizeOf293
  v53 := Tryz.zeroValue293
  t171 := Tryz.underlying298
  a171 := Tryz.isAgg298
  z171 := Tryz.sizeOf298
  v171 := Tryz.zeroValue298
  t173 := Tryz.underlying300
  a173 := Tryz.isAgg300
  z173 := Tryz.sizeOf300
  v173 := Tryz.zeroValue300
  t212 := Tryz.underlying318
  a212 := Tryz.isAgg318
  z212 := Tryz.sizeOf318
  v212 := Tryz.zeroValue318
  t213 := Tryz.underlying319
  a213 := Tryz.isAgg319
  z213 := Tryz.sizeOf319
  t232 := Tryz.underlying333
  a232 := Tryz.isAgg333
  z232 := Tryz.sizeOf333
  v232 := Tryz.zeroValue333
  t233 := Tryz.underlying334
  a233 := Tryz.isAgg334
  z233 := Tryz.sizeOf334
  v233 := Tryz.zeroValue334
  g17 := by kernel_rfl
  g18 := by kernel_rfl
  g19 := by kernel_rfl
  i0 := by kernel_rfl
  i2 := by kernel_rfl
  i3 := by kernel_rfl
  i4 := by kernel_rfl
  i5 := by kernel_rfl
  i9 := by kernel_rfl
  i20 := by kernel_rfl
  i37 := by kernel_rfl
  i46 := by kernel_rfl
  i51 := by kernel_rfl
  i53 := by kernel_rfl
  i171 := by kernel_rfl
  i173 := by kernel_rfl
  i212 := by kernel_rfl
  i232 := by kernel_rfl
  i233 := by kernel_rfl
  m17 := by kernel_rfl
  m18 := by kernel_rfl
  m19 := by kernel_rfl }
open Go.RowKit Go.Sort Go.Lib in
theorem Tryz.strconv_Itoa (n : Int) (h0 : -9223372036854775808 ≤ n) (h1 : n ≤ 9223372036854775807) (w : World) (htab : Lib.TabIs Tryz.prog w "internal/strconv.uint64pow10" .u64 Lib.pow10Tab) :
    Calls Tryz.prog 93 #[.int .i64 n] w fun e w' => e = .returned (.string ⟨(Lib.itoa n).toArray⟩) ∧ ∃ k os, w' = grow (w.drewN k) os := Any.strconv_Itoa Tryz.laysM171 n h0 h1 w htab
def Tryz.lays171_ren : Go.Shelf.Ren := ⟨fun | 171 => 93 | 243 => 148 | 246 => 206 | 283 => 269 | 284 => 270 | 285 => 271 | 286 => 272 | 129 => 264 | 317 => 318 | 318 => 319 | 319 => 320 | 320 => 321 | 337 => 330 | 338 => 331 | n => n, fun | 3 => 3 | 9 => 9 | 2 => 2 | 4 => 4 | 171 => 298 | 0 => 0 | 53 => 293 | 37 => 58 | 5 => 5 | 173 => 300 | 212 => 318 | 51 => 291 | 20 => 20 | 213 => 319 | 46 => 248 | 232 => 333 | 233 => 334 | n => n, fun | 17 => 1 | 18 => 5 | 19 => 6 | n => n⟩
def Tryz.lays217_ren : Go.Shelf.Ren := ⟨fun | 217 => 314 | 266 => 328 | n => n, fun | 9 => 9 | 5 => 5 | 3 => 3 | n => n, fun | n => n⟩
def Tryz.lays224_ren : Go.Shelf.Ren := ⟨fun | 224 => 316 | n => n, fun | 3 => 3 | n => n, fun | n => n⟩
def Tryz.lays314_ren : Go.Shelf.Ren := ⟨fun | 314 => 329 | n => n, fun | 9 => 9 | 51 => 291 | 3 => 3 | 4 => 4 | 5 => 5 | 46 => 248 | n => n, fun | n => n⟩
def Tryz.lays267_ren : Go.Shelf.Ren := ⟨fun | 267 => 317 | 314 => 329 | n => n, fun | 9 => 9 | 3 => 3 | 146 => 329 | 51 => 291 | 4 => 4 | 5 => 5 | 46 => 248 | n => n, fun | n => n⟩
def Tryz.lays219_ren : Go.Shelf.Ren := ⟨fun | 219 => 268 | 217 => 314 | 225 => 315 | 224 => 316 | 267 => 317 | 266 => 328 | 314 => 329 | n => n, fun | 9 => 9 | 3 => 3 | 4 => 4 | 5 => 5 | 46 => 248 | 146 => 329 | 51 => 291 | n => n, fun | 1 => 0 | n => n⟩
def Tryz.lays143_ren : Go.Shelf.Ren := ⟨fun | 143 => 204 | 219 => 268 | 217 => 314 | 225 => 315 | 224 => 316 | 267 => 317 | 266 => 328 | 314 => 329 | n => n, fun | 9 => 9 | 3 => 3 | 4 => 4 | 5 => 5 | 46 => 248 | 146 => 329 | 51 => 291 | n => n, fun | 1 => 0 | n => n⟩
def Tryz.lays138_ren : Go.Shelf.Ren := ⟨fun | 138 => 203 | 195 => 265 | 218 => 267 | 143 => 204 | 219 => 268 | 217 => 314 | 225 => 315 | 224 => 316 | 267 => 317 | 266 => 328 | 314 => 329 | n => n, fun | 9 => 9 | 3 => 3 | 4 => 4 | 5 => 5 | 0 => 0 | 46 => 248 | 146 => 329 | 51 => 291 | n => n, fun | 1 => 0 | n => n⟩
def Tryz.lays221_ren : Go.Shelf.Ren := ⟨fun | 221 => 146 | 268 => 202 | 138 => 203 | 143 => 204 | 195 => 265 | 197 => 266 | 218 => 267 | 219 => 268 | 260 => 313 | 217 => 314 | 225 => 315 | 224 => 316 | 267 => 317 | 266 => 328 | 314 => 329 | n => n, fun | 9 => 9 | 3 => 3 | 31 => 23 | 4 => 4 | 0 => 0 | 105 => 295 | 21 => 21 | 5 => 5 | 46 => 248 | 119 => 325 | 139 => 328 | 138 => 327 | 146 => 329 | 51 => 291 | n => n, fun | 1 => 0 | 3 => 3 | 4 => 4 | n => n⟩
def Tryz.lays146_ren : Go.Shelf.Ren := ⟨fun | 146 => 90 | 221 => 146 | 268 => 202 | 138 => 203 | 143 => 204 | 195 => 265 | 197 => 266 | 218 => 267 | 219 => 268 | 260 => 313 | 217 => 314 | 225 => 315 | 224 => 316 | 267 => 317 | 266 => 328 | 314 => 329 | n => n, fun | 9 => 9 | 31 => 23 | 3 => 3 | 4 => 4 | 0 => 0 | 105 => 295 | 21 => 21 | 5 => 5 | 46 => 248 | 119 => 325 | 139 => 328 | 138 => 327 | 146 => 329 | 51 => 291 | n => n, fun | 1 => 0 | 3 => 3 | 4 => 4 | n => n⟩
theorem Tryz.lays146 : Go.Proofs.Lays.n146 Tryz.prog Tryz.lays146_ren := {
  mixed := by kernel_rfl
  f138 := Tryz.func203.trans (congrArg some (by kernel_rfl))
  f143 := Tryz.func204.trans (congrArg some (by kernel_rfl))
  f146 := Tryz.func90.trans (congrArg some (by kernel_rfl))
  f195 := Tryz.func265.trans (congrArg some (by kernel_rfl))
  f197 := Tryz.func266.trans (congrArg some (by kernel_rfl))
  f217 := Tryz.func314.trans (congrArg some (by kernel_rfl))
  f218 := Tryz.func267.trans (congrArg some (by kernel_rfl))
  f219 := Tryz.func268.trans (congrArg some (by kernel_rfl))
  f221 := Tryz.func146.trans (congrArg some (by kernel_rfl))
  f224 := Tryz.func316.trans (congrArg some (by kernel_rfl))
  f225 := Tryz.func315.trans (congrArg some (by kernel_rfl))
  f260 := Tryz.func313.trans (congrArg some (by kernel_rfl))
  f266 := Tryz.func328.trans (congrArg some (by kernel_rfl))
  f267 := Tryz.func317.trans (congrArg some (by kernel_rfl))
  f268 := Tryz.func202.trans (congrArg some (by kernel_rfl))
  f314 := Tryz.func329.trans (congrArg some (by kernel_rfl))
  t0 := Tryz.underlying0
  a0 := Tryz.isAgg0
  z0 := Tryz.sizeOf0
  v0 := Tryz.zeroValue0
  t3 := Tryz.underlying3
  a3 := Tryz.isAgg3
  z3 := Tryz.sizeOf3
  v3 := Tryz.zeroValue3
  t4 := Tryz.underlying4
  a4 := Tryz.isAgg4
  z4 := Tryz.sizeOf4
  v4 := Tryz.zeroValue4
  t5 := Tryz.underlying5
  a5 := Tryz.isAgg5
  z5 := Tryz.sizeOf5
  v5 := Tryz.zeroValue5
  t9 := Tryz.underlying9
  a9 := Tryz.isAgg9
  z9 := Tryz.sizeOf9
  v9 := Tryz.zeroValue9
  t21 := Tryz.underlying21
  a21 := Tryz.isAgg21
  z21 := Tryz.sizeOf21
  v21 := Tryz.zeroValue21
  t31 := Tryz.underlying23
  a31 := Tryz.isAgg23
  z31 := Tryz.sizeOf23
  v31 := Tryz.zeroValue23
  t46 := Tryz.underlying248
  a46 := Tryz.isAgg248
  z46 := Tryz.sizeOf248
  v46 := Tryz.zeroValue248
  t51 := Tryz.underlying291
  a51 := Tryz.isAgg291
  z51 := Tryz.sizeOf291
  v51 := Tryz.zeroValue291
  t105 := Tryz.underlying295
  a105 := Tryz.isAgg295
  z105 := Tryz.sizeOf295
  v105 := Tryz.zeroValue295
  t119 := Tryz.underlying325
  a119 := Tryz.isAgg325
  z119 := Tryz.sizeOf325
  t138 := Tryz.underlying327
  a138 := Tryz.isAgg327
  z138 := Tryz.sizeOf327
  v138 := Tryz.zeroValue327
  t139 := Tryz.underlying328
  a139 := Tryz.isAgg328
  z139 := Tryz.sizeOf328
  v139 := Tryz.zeroValue328
  t146 := Tryz.underlying329
  a146 := Tryz.isAgg329
  z146 := Tryz.sizeOf329
  v146 := Tryz.zeroValue329
  g1 := by kernel_rfl
  g3 := by kernel_rfl
  g4 := by kernel_rfl }
open Go.RowKit Go.Lib in
theorem Tryz.strings_Split (s sep : ByteArray) (m : Int) (w : World) (hs : s.size < 4294967281) (hm : w.cell? ⟨0, 0, none⟩ = some (.int .i64 m)) (h1 : 1 ≤ sep.size) :
    Calls Tryz.prog 90 #[.string s, .string sep] w fun e w' =>
      e = .returned (.slice (some ⟨w.heap.size, 0, none⟩) (Lib.countB s sep + 1) (Lib.countB s sep + 1)) ∧ w' = w.alloc (.cells ((Lib.splitB sep 0 (Lib.countB s sep) s).map Value.string).toArray 9) := Any.strings_Split Tryz.lays146 (by kernel_rfl) s sep m w hs hm h1
end Go.Proofs
