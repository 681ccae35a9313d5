import Derived.Shelf.Small.Bits
import Derived.Shelf.Utf8.RuneCount
import Derived.Shelf.Strconv.Atoi
import Derived.Shelf.Strconv.Itoa0
import Derived.Shelf.Strconv.Itoa1
import Derived.Shelf.LaysM
import Derived.Shelf.Strconv.Itoa2
import Derived.Shelf.Strconv.Itoa3
import Derived.Shelf.Strconv.AtoiErrFast
import Derived.Shelf.Strconv.ParseIntEmpty
import Derived.Shelf.Strconv.AtoiFail
import Derived.Shelf.Strconv.Clone
import Derived.Shelf.Strconv.SyntaxError
import Derived.Shelf.LaysC
import Derived.Shelf.Strconv.ToError
import Derived.Shelf.Strconv.Lower
import Derived.Shelf.Strconv.ParseUint10
import Derived.Shelf.Strconv.ParseUint10Empty
import Derived.Shelf.Strconv.ParseUint10Any
import Derived.Shelf.Strconv.ParseInt10
import Derived.Shelf.Strconv.AtoiLong
import Derived.Shelf.Strconv.AtoiInnerAll
import Derived.Shelf.Strconv.RangeError
import Derived.Shelf.Strconv.ToErrorRange
import Derived.Shelf.Strconv.AtoiAll
import Derived.Shelf.Strings.Search1
import Derived.Shelf.Strings.Search2
import Derived.Shelf.Strings.Search3
import Derived.Shelf.Strings.Cut
import Derived.Shelf.Strings.Count
import Derived.Shelf.Strings.Shaped
import Derived.Shelf.Strings.Prefix
import Derived.Shelf.Strings.Split
import Derived.Shelf.Strings.SplitShaped
import Derived.Shelf.Unicode.Decode
import Derived.Shelf.Strings.RuneCount
import Derived.Shelf.Strings.Explode
import Derived.Shelf.Unicode.DecodeSlow
import Derived.Shelf.Unicode.DecodeAny
import Derived.Shelf.Strings.FieldsFuncAny
import Derived.Shelf.Strings.FieldsFuncGrows
import Derived.Ground.Names2Prog
import Derived.Shelf.Slices.SearchI
import Derived.Test.YtmjljoaakdocaaaGreatDoorProg
/-
  DERIVED: THE SHELF's CONTRACTS AT THIS DUMP, IN PLAIN WORDS (tools/lay-plain.mjs out of 'TryzShelf.lean', which tools/lay-shelf.mjs wrote): THE SAME DECLARATIONS UNDER THE SAME NAMES: 'import', 'namespace', 'open', 'def', 'theorem' AND NOTHING ELSE: no command of the shelf's: FOR A HAND-IN. Each laying: the table of numbers ('.._ren') and one theorem, a field a fact of the dump's own or the kernel's comparison; each contract: ONE APPLICATION.
-/
namespace Go.Proofs
open Go.Shelf
def Tryz.lays128_ren : Go.Shelf.Ren := ⟨fun | 128 => 230 | n => n, fun | 51 => 348 | 3 => 3 | 4 => 4 | 46 => 310 | 5 => 5 | 9 => 9 | n => n, fun | n => n⟩
def Tryz.lays125_ren : Go.Shelf.Ren := ⟨fun | 125 => 186 | 128 => 230 | 129 => 231 | n => n, fun | 46 => 310 | 3 => 3 | 51 => 348 | 53 => 350 | 4 => 4 | 5 => 5 | 9 => 9 | n => n, fun | n => n⟩
def Tryz.lays195_ren : Go.Shelf.Ren := ⟨fun | 195 => 190 | n => n, fun | 9 => 9 | 3 => 3 | 0 => 0 | 4 => 4 | n => n, fun | n => n⟩
def Tryz.lays244_ren : Go.Shelf.Ren := ⟨fun | 244 => 241 | 247 => 280 | 287 => 301 | 321 => 310 | 322 => 311 | n => n, fun | 9 => 9 | 3 => 3 | 75 => 317 | 4 => 4 | 5 => 5 | 167 => 399 | 37 => 400 | 0 => 0 | 85 => 401 | 2 => 2 | 53 => 350 | 175 => 422 | 46 => 310 | 21 => 21 | 80 => 451 | n => n, fun | n => n⟩
def Tryz.lays172_ren : Go.Shelf.Ren := ⟨fun | 172 => 194 | 244 => 241 | 245 => 242 | 247 => 280 | 279 => 281 | 280 => 282 | 281 => 283 | 282 => 284 | 287 => 301 | 316 => 302 | 171 => 304 | 205 => 303 | 321 => 310 | 322 => 311 | 243 => 312 | 246 => 314 | 283 => 315 | 284 => 316 | 285 => 317 | 286 => 318 | 129 => 231 | 317 => 319 | 318 => 320 | 319 => 321 | 320 => 322 | 337 => 323 | 338 => 324 | n => n, fun | 9 => 9 | 3 => 3 | 75 => 317 | 76 => 318 | 4 => 4 | 5 => 5 | 167 => 399 | 37 => 400 | 0 => 0 | 85 => 401 | 2 => 2 | 168 => 403 | 53 => 350 | 175 => 422 | 46 => 310 | 210 => 426 | 127 => 435 | 145 => 438 | 143 => 436 | 21 => 21 | 171 => 442 | 173 => 444 | 212 => 447 | 51 => 348 | 20 => 20 | 213 => 448 | 232 => 449 | 233 => 450 | 80 => 451 | n => n, fun | 15 => 5 | 16 => 6 | 17 => 7 | 18 => 8 | 19 => 9 | n => n⟩
def Tryz.lays129_ren : Go.Shelf.Ren := ⟨fun | 129 => 231 | n => n, fun | 53 => 350 | 3 => 3 | 4 => 4 | 46 => 310 | 5 => 5 | 9 => 9 | n => n, fun | n => n⟩
def Tryz.lays317_ren : Go.Shelf.Ren := ⟨fun | 317 => 319 | n => n, fun | 3 => 3 | 46 => 310 | n => n, fun | n => n⟩
def Tryz.lays318_ren : Go.Shelf.Ren := ⟨fun | 318 => 320 | n => n, fun | 3 => 3 | 4 => 4 | n => n, fun | n => n⟩
def Tryz.lays283_ren : Go.Shelf.Ren := ⟨fun | 283 => 315 | n => n, fun | 3 => 3 | 9 => 9 | 4 => 4 | n => n, fun | n => n⟩
def Tryz.laysM284_ren : Go.Shelf.Ren := ⟨fun | 284 => 316 | 129 => 231 | 317 => 319 | 318 => 320 | n => n, fun | 53 => 350 | 3 => 3 | 212 => 447 | 0 => 0 | 4 => 4 | 46 => 310 | 5 => 5 | 9 => 9 | n => n, fun | 17 => 7 | n => n⟩
def Tryz.lays285_ren : Go.Shelf.Ren := ⟨fun | 285 => 317 | n => n, fun | 37 => 400 | 53 => 350 | 3 => 3 | 4 => 4 | 51 => 348 | 9 => 9 | 5 => 5 | 0 => 0 | n => n, fun | n => n⟩
def Tryz.laysM246_ren : Go.Shelf.Ren := ⟨fun | 246 => 314 | 283 => 315 | 284 => 316 | 285 => 317 | 286 => 318 | 129 => 231 | 317 => 319 | 318 => 320 | 319 => 321 | 320 => 322 | 337 => 323 | 338 => 324 | n => n, fun | 2 => 2 | 3 => 3 | 9 => 9 | 4 => 4 | 171 => 442 | 0 => 0 | 53 => 350 | 37 => 400 | 5 => 5 | 173 => 444 | 212 => 447 | 51 => 348 | 20 => 20 | 213 => 448 | 46 => 310 | 232 => 449 | 233 => 450 | n => n, fun | 17 => 7 | 18 => 8 | 19 => 9 | n => n⟩
def Tryz.lays246_ren : Go.Shelf.Ren := ⟨fun | 246 => 314 | 283 => 315 | 284 => 316 | 285 => 317 | 286 => 318 | 129 => 231 | 317 => 319 | 318 => 320 | 319 => 321 | 320 => 322 | 337 => 323 | 338 => 324 | n => n, fun | 2 => 2 | 3 => 3 | 9 => 9 | 4 => 4 | 171 => 442 | 0 => 0 | 53 => 350 | 37 => 400 | 5 => 5 | 173 => 444 | 212 => 447 | 51 => 348 | 20 => 20 | 213 => 448 | 46 => 310 | 232 => 449 | 233 => 450 | n => n, fun | 17 => 7 | 18 => 8 | 19 => 9 | n => n⟩
def Tryz.laysM243_ren : Go.Shelf.Ren := ⟨fun | 243 => 312 | 246 => 314 | 283 => 315 | 284 => 316 | 285 => 317 | 286 => 318 | 129 => 231 | 317 => 319 | 318 => 320 | 319 => 321 | 320 => 322 | 337 => 323 | 338 => 324 | n => n, fun | 3 => 3 | 9 => 9 | 2 => 2 | 4 => 4 | 171 => 442 | 0 => 0 | 53 => 350 | 37 => 400 | 5 => 5 | 173 => 444 | 212 => 447 | 51 => 348 | 20 => 20 | 213 => 448 | 46 => 310 | 232 => 449 | 233 => 450 | n => n, fun | 17 => 7 | 18 => 8 | 19 => 9 | n => n⟩
def Tryz.lays243_ren : Go.Shelf.Ren := ⟨fun | 243 => 312 | 246 => 314 | 283 => 315 | 284 => 316 | 285 => 317 | 286 => 318 | 129 => 231 | 317 => 319 | 318 => 320 | 319 => 321 | 320 => 322 | 337 => 323 | 338 => 324 | n => n, fun | 3 => 3 | 9 => 9 | 2 => 2 | 4 => 4 | 171 => 442 | 0 => 0 | 53 => 350 | 37 => 400 | 5 => 5 | 173 => 444 | 212 => 447 | 51 => 348 | 20 => 20 | 213 => 448 | 46 => 310 | 232 => 449 | 233 => 450 | n => n, fun | 17 => 7 | 18 => 8 | 19 => 9 | n => n⟩
def Tryz.laysM171_ren : Go.Shelf.Ren := ⟨fun | 171 => 304 | 243 => 312 | 246 => 314 | 283 => 315 | 284 => 316 | 285 => 317 | 286 => 318 | 129 => 231 | 317 => 319 | 318 => 320 | 319 => 321 | 320 => 322 | 337 => 323 | 338 => 324 | n => n, fun | 3 => 3 | 9 => 9 | 2 => 2 | 4 => 4 | 171 => 442 | 0 => 0 | 53 => 350 | 37 => 400 | 5 => 5 | 173 => 444 | 212 => 447 | 51 => 348 | 20 => 20 | 213 => 448 | 46 => 310 | 232 => 449 | 233 => 450 | n => n, fun | 17 => 7 | 18 => 8 | 19 => 9 | n => n⟩
def Tryz.lays171_ren : Go.Shelf.Ren := ⟨fun | 171 => 304 | 243 => 312 | 246 => 314 | 283 => 315 | 284 => 316 | 285 => 317 | 286 => 318 | 129 => 231 | 317 => 319 | 318 => 320 | 319 => 321 | 320 => 322 | 337 => 323 | 338 => 324 | n => n, fun | 3 => 3 | 9 => 9 | 2 => 2 | 4 => 4 | 171 => 442 | 0 => 0 | 53 => 350 | 37 => 400 | 5 => 5 | 173 => 444 | 212 => 447 | 51 => 348 | 20 => 20 | 213 => 448 | 46 => 310 | 232 => 449 | 233 => 450 | n => n, fun | 17 => 7 | 18 => 8 | 19 => 9 | n => n⟩
def Tryz.lays247_ren : Go.Shelf.Ren := ⟨fun | 247 => 280 | 287 => 301 | 321 => 310 | 322 => 311 | n => n, fun | 9 => 9 | 3 => 3 | 2 => 2 | 75 => 317 | 4 => 4 | 167 => 399 | 5 => 5 | 53 => 350 | 175 => 422 | 46 => 310 | 37 => 400 | 0 => 0 | 21 => 21 | 80 => 451 | n => n, fun | n => n⟩
def Tryz.laysM316_ren : Go.Shelf.Ren := ⟨fun | 316 => 302 | n => n, fun | 9 => 9 | 3 => 3 | 4 => 4 | 37 => 400 | 0 => 0 | 127 => 435 | 5 => 5 | n => n, fun | n => n⟩
def Tryz.laysM279_ren : Go.Shelf.Ren := ⟨fun | 279 => 281 | 316 => 302 | n => n, fun | 9 => 9 | 168 => 403 | 75 => 317 | 210 => 426 | 3 => 3 | 4 => 4 | 37 => 400 | 0 => 0 | 127 => 435 | 80 => 451 | 5 => 5 | n => n, fun | 15 => 5 | n => n⟩
def Tryz.laysC245_ren : Go.Shelf.Ren := ⟨fun | 245 => 242 | 279 => 281 | 280 => 282 | 281 => 283 | 282 => 284 | 316 => 302 | 171 => 304 | 205 => 303 | 243 => 312 | 246 => 314 | 283 => 315 | 284 => 316 | 285 => 317 | 286 => 318 | 129 => 231 | 317 => 319 | 318 => 320 | 319 => 321 | 320 => 322 | 337 => 323 | 338 => 324 | n => n, fun | 9 => 9 | 3 => 3 | 75 => 317 | 167 => 399 | 4 => 4 | 168 => 403 | 210 => 426 | 37 => 400 | 0 => 0 | 127 => 435 | 145 => 438 | 143 => 436 | 2 => 2 | 171 => 442 | 53 => 350 | 5 => 5 | 173 => 444 | 212 => 447 | 51 => 348 | 20 => 20 | 213 => 448 | 46 => 310 | 232 => 449 | 233 => 450 | 80 => 451 | n => n, fun | 15 => 5 | 16 => 6 | 17 => 7 | 18 => 8 | 19 => 9 | n => n⟩
def Tryz.lays321_ren : Go.Shelf.Ren := ⟨fun | 321 => 310 | n => n, fun | 5 => 5 | n => n, fun | n => n⟩
def Tryz.lays287_ren : Go.Shelf.Ren := ⟨fun | 287 => 301 | 321 => 310 | 322 => 311 | n => n, fun | 9 => 9 | 3 => 3 | 53 => 350 | 75 => 317 | 4 => 4 | 167 => 399 | 5 => 5 | 46 => 310 | 37 => 400 | 0 => 0 | 21 => 21 | 80 => 451 | n => n, fun | n => n⟩
def Tryz.laysC247_ren : Go.Shelf.Ren := ⟨fun | 247 => 280 | 287 => 301 | 321 => 310 | 322 => 311 | n => n, fun | 9 => 9 | 3 => 3 | 2 => 2 | 75 => 317 | 4 => 4 | 167 => 399 | 5 => 5 | 53 => 350 | 175 => 422 | 46 => 310 | 37 => 400 | 0 => 0 | 21 => 21 | 80 => 451 | n => n, fun | n => n⟩
def Tryz.laysC244_ren : Go.Shelf.Ren := ⟨fun | 244 => 241 | 247 => 280 | 287 => 301 | 321 => 310 | 322 => 311 | n => n, fun | 9 => 9 | 3 => 3 | 75 => 317 | 4 => 4 | 5 => 5 | 167 => 399 | 37 => 400 | 0 => 0 | 85 => 401 | 2 => 2 | 53 => 350 | 175 => 422 | 46 => 310 | 21 => 21 | 80 => 451 | n => n, fun | n => n⟩
theorem Tryz.laysC244 : Go.Proofs.LaysC.n244 Tryz.prog Tryz.laysC244_ren := {
  mixed := by kernel_rfl
  f244 := Tryz.func241.trans (congrArg some (by kernel_rfl))
  f247 := Tryz.func280.trans (congrArg some (by kernel_rfl))
  f287 := Tryz.func301.trans (congrArg some (by kernel_rfl))
  f321 := Tryz.func310.trans (congrArg some (by kernel_rfl))
  f322 := Tryz.func311.trans (congrArg some (by kernel_rfl))
  t0 := Tryz.underlying0
  a0 := Tryz.isAgg0
  z0 := Tryz.sizeOf0
  v0 := Tryz.zeroValue0
  t2 := Tryz.underlying2
  a2 := Tryz.isAgg2
  z2 := Tryz.sizeOf2
  v2 := Tryz.zeroValue2
  t3 := Tryz.underlying3
  a3 := Tryz.isAgg3
  z3 := Tryz.sizeOf3
  v3 := Tryz.zeroValue3
  t4 := Tryz.underlying4
  a4 := Tryz.isAgg4
  z4 := Tryz.sizeOf4
  v4 := Tryz.zeroValue4
  t5 := Tryz.underlying5
  a5 := Tryz.isAgg5
  z5 := Tryz.sizeOf5
  v5 := Tryz.zeroValue5
  t9 := Tryz.underlying9
  a9 := Tryz.isAgg9
  z9 := Tryz.sizeOf9
  v9 := Tryz.zeroValue9
  t21 := Tryz.underlying21
  a21 := Tryz.isAgg21
  z21 := Tryz.sizeOf21
  v21 := Tryz.zeroValue21
  t37 := Tryz.underlying400
  a37 := Tryz.isAgg400
  z37 := Tryz.sizeOf400
  v37 := Tryz.zeroValue400
  t46 := Tryz.underlying310
  a46 := Tryz.isAgg310
  z46 := Tryz.sizeOf310
  v46 := Tryz.zeroValue310
  t53 := Tryz.underlying350
  a53 := Tryz.isAgg350
  z53 := Tryz.sizeOf350
  v53 := Tryz.zeroValue350
  t75 := Tryz.underlying317
  a75 := Tryz.isAgg317
  z75 := Tryz.sizeOf317
  v75 := Tryz.zeroValue317
  t85 := Tryz.underlying401
  a85 := Tryz.isAgg401
  z85 := Tryz.sizeOf401
  v85 := Tryz.zeroValue401
  t167 := Tryz.underlying399
  a167 := Tryz.isAgg399
  z167 := Tryz.sizeOf399
  v167 := Tryz.zeroValue399
  t175 := Tryz.underlying422
  a175 := Tryz.isAgg422
  z175 := Tryz.sizeOf422
  v175 := Tryz.zeroValue422
  t80 := Tryz.underlying451
  a80 := Tryz.isAgg451
  z80 := Tryz.sizeOf451
  v80 := Tryz.zeroValue451
  i0 := by kernel_rfl
  i2 := by kernel_rfl
  i3 := by kernel_rfl
  i4 := by kernel_rfl
  i5 := by kernel_rfl
  i9 := by kernel_rfl
  i21 := by kernel_rfl
  i37 := by kernel_rfl
  i46 := by kernel_rfl
  i53 := by kernel_rfl
  i75 := by kernel_rfl
  i80 := by kernel_rfl
  i85 := by kernel_rfl
  i167 := by kernel_rfl
  i175 := by kernel_rfl
  c0 := by kernel_rfl
  c2 := by kernel_rfl
  c3 := by kernel_rfl
  c4 := by kernel_rfl
  c5 := by kernel_rfl
  c9 := by kernel_rfl
  c21 := by kernel_rfl
  c37 := by kernel_rfl
  c46 := by kernel_rfl
  c53 := by kernel_rfl
  c75 := by kernel_rfl
  c80 := by kernel_rfl
  c85 := by kernel_rfl
  c167 := by kernel_rfl
  c175 := by kernel_rfl }
open Go.RowKit in
theorem Tryz.internal_strconv_Atoi_all (s : ByteArray) (hmax : s.size ≤ 9223372036854775806) (w : World) :
    Calls Tryz.prog 241 #[.string s] w fun e w' => e = .returned (Lib.intTuple 399 (Lib.atoiSat s.data.toList) (Lib.atoiAll s.data.toList)) ∧ (w' = w ∨ ∃ t, w' = Lib.bytesWorld w 5 t) := Any.internal_strconv_Atoi_all Tryz.laysC244 s hmax w
def Tryz.laysM280_ren : Go.Shelf.Ren := ⟨fun | 280 => 282 | 316 => 302 | n => n, fun | 9 => 9 | 168 => 403 | 75 => 317 | 210 => 426 | 3 => 3 | 4 => 4 | 37 => 400 | 0 => 0 | 127 => 435 | 80 => 451 | 5 => 5 | n => n, fun | 16 => 6 | n => n⟩
def Tryz.laysC172_ren : Go.Shelf.Ren := ⟨fun | 172 => 194 | 244 => 241 | 245 => 242 | 247 => 280 | 279 => 281 | 280 => 282 | 281 => 283 | 282 => 284 | 287 => 301 | 316 => 302 | 171 => 304 | 205 => 303 | 321 => 310 | 322 => 311 | 243 => 312 | 246 => 314 | 283 => 315 | 284 => 316 | 285 => 317 | 286 => 318 | 129 => 231 | 317 => 319 | 318 => 320 | 319 => 321 | 320 => 322 | 337 => 323 | 338 => 324 | n => n, fun | 9 => 9 | 3 => 3 | 75 => 317 | 76 => 318 | 4 => 4 | 5 => 5 | 167 => 399 | 37 => 400 | 0 => 0 | 85 => 401 | 2 => 2 | 168 => 403 | 53 => 350 | 175 => 422 | 46 => 310 | 210 => 426 | 127 => 435 | 145 => 438 | 143 => 436 | 21 => 21 | 171 => 442 | 173 => 444 | 212 => 447 | 51 => 348 | 20 => 20 | 213 => 448 | 232 => 449 | 233 => 450 | 80 => 451 | n => n, fun | 15 => 5 | 16 => 6 | 17 => 7 | 18 => 8 | 19 => 9 | n => n⟩
theorem Tryz.laysC172 : Go.Proofs.LaysC.n172 Tryz.prog Tryz.laysC172_ren := {
  mixed := by kernel_rfl
  f129 := Tryz.func231.trans (congrArg some (by kernel_rfl))
  f171 := Tryz.func304.trans (congrArg some (by kernel_rfl))
  f172 := Tryz.func194.trans (congrArg some (by kernel_rfl))
  f205 := Tryz.func303.trans (congrArg some (by kernel_rfl))
  f243 := Tryz.func312.trans (congrArg some (by kernel_rfl))
  f244 := Tryz.func241.trans (congrArg some (by kernel_rfl))
  f245 := Tryz.func242.trans (congrArg some (by kernel_rfl))
  f246 := Tryz.func314.trans (congrArg some (by kernel_rfl))
  f247 := Tryz.func280.trans (congrArg some (by kernel_rfl))
  f279 := Tryz.func281.trans (congrArg some (by kernel_rfl))
  f280 := Tryz.func282.trans (congrArg some (by kernel_rfl))
  f281 := Tryz.func283.trans (congrArg some (by kernel_rfl))
  f282 := Tryz.func284.trans (congrArg some (by kernel_rfl))
  f283 := Tryz.func315.trans (congrArg some (by kernel_rfl))
  f284 := Tryz.func316.trans (congrArg some (by kernel_rfl))
  f285 := Tryz.func317.trans (congrArg some (by kernel_rfl))
  f286 := Tryz.func318.trans (congrArg some (by kernel_rfl))
  f287 := Tryz.func301.trans (congrArg some (by kernel_rfl))
  f316 := Tryz.func302.trans (congrArg some (by kernel_rfl))
  f317 := Tryz.func319.trans (congrArg some (by kernel_rfl))
  f318 := Tryz.func320.trans (congrArg some (by kernel_rfl))
  f319 := Tryz.func321.trans (congrArg some (by kernel_rfl))
  f320 := Tryz.func322.trans (congrArg some (by kernel_rfl))
  f321 := Tryz.func310.trans (congrArg some (by kernel_rfl))
  f322 := Tryz.func311.trans (congrArg some (by kernel_rfl))
  f337 := Tryz.func323.trans (congrArg some (by kernel_rfl))
  f338 := Tryz.func324.trans (congrArg some (by kernel_rfl))
  t0 := Tryz.underlying0
  a0 := Tryz.isAgg0
  z0 := Tryz.sizeOf0
  v0 := Tryz.zeroValue0
  t2 := Tryz.underlying2
  a2 := Tryz.isAgg2
  z2 := Tryz.sizeOf2
  v2 := Tryz.zeroValue2
  t3 := Tryz.underlying3
  a3 := Tryz.isAgg3
  z3 := Tryz.sizeOf3
  v3 := Tryz.zeroValue3
  t4 := Tryz.underlying4
  a4 := Tryz.isAgg4
  z4 := Tryz.sizeOf4
  v4 := Tryz.zeroValue4
  t5 := Tryz.underlying5
  a5 := Tryz.isAgg5
  z5 := Tryz.sizeOf5
  v5 := Tryz.zeroValue5
  t9 := Tryz.underlying9
  a9 := Tryz.isAgg9
  z9 := Tryz.sizeOf9
  v9 := Tryz.zeroValue9
  t20 := Tryz.underlying20
  a20 := Tryz.isAgg20
  z20 := Tryz.sizeOf20
  v20 := Tryz.zeroValue20
  t21 := Tryz.underlying21
  a21 := Tryz.isAgg21
  z21 := Tryz.sizeOf21
  v21 := Tryz.zeroValue21
  t37 := Tryz.underlying400
  a37 := Tryz.isAgg400
  z37 := Tryz.sizeOf400
  v37 := Tryz.zeroValue400
  t46 := Tryz.underlying310
  a46 := Tryz.isAgg310
  z46 := Tryz.sizeOf310
  v46 := Tryz.zeroValue310
  t51 := Tryz.underlying348
  a51 := Tryz.isAgg348
  z51 := Tryz.sizeOf348
  v51 := Tryz.zeroValue348
  t53 := Tryz.underlying350
  a53 := Tryz.isAgg350
  z53 := Tryz.sizeOf350
  v53 := Tryz.zeroValue350
  t75 := Tryz.underlying317
  a75 := Tryz.isAgg317
  z75 := Tryz.sizeOf317
  v75 := Tryz.zeroValue317
  t76 := Tryz.underlying318
  a76 := Tryz.isAgg318
  z76 := Tryz.sizeOf318
  v76 := Tryz.zeroValue318
  t85 := Tryz.underlying401
  a85 := Tryz.isAgg401
  z85 := Tryz.sizeOf401
  v85 := Tryz.zeroValue401
  t127 := Tryz.underlying435
  a127 := Tryz.isAgg435
  z127 := Tryz.sizeOf435
  v127 := Tryz.zeroValue435
  t143 := Tryz.underlying436
  a143 := Tryz.isAgg436
  z143 := Tryz.sizeOf436
  v143 := Tryz.zeroValue436
  t145 := Tryz.underlying438
  a145 := Tryz.isAgg438
  z145 := Tryz.sizeOf438
  v145 := Tryz.zeroValue438
  t167 := Tryz.underlying399
  a167 := Tryz.isAgg399
  z167 := Tryz.sizeOf399
  v167 := Tryz.zeroValue399
  t168 := Tryz.underlying403
  a168 := Tryz.isAgg403
  z168 := Tryz.sizeOf403
  v168 := Tryz.zeroValue403
  t171 := Tryz.underlying442
  a171 := Tryz.isAgg442
  z171 := Tryz.sizeOf442
  v171 := Tryz.zeroValue442
  t173 := Tryz.underlying444
  a173 := Tryz.isAgg444
  z173 := Tryz.sizeOf444
  v173 := Tryz.zeroValue444
  t175 := Tryz.underlying422
  a175 := Tryz.isAgg422
  z175 := Tryz.sizeOf422
  v175 := Tryz.zeroValue422
  t210 := Tryz.underlying426
  a210 := Tryz.isAgg426
  z210 := Tryz.sizeOf426
  v210 := Tryz.zeroValue426
  t212 := Tryz.underlying447
  a212 := Tryz.isAgg447
  z212 := Tryz.sizeOf447
  v212 := Tryz.zeroValue447
  t213 := Tryz.underlying448
  a213 := Tryz.isAgg448
  z213 := Tryz.sizeOf448
  t232 := Tryz.underlying449
  a232 := Tryz.isAgg449
  z232 := Tryz.sizeOf449
  v232 := Tryz.zeroValue449
  t233 := Tryz.underlying450
  a233 := Tryz.isAgg450
  z233 := Tryz.sizeOf450
  v233 := Tryz.zeroValue450
  g15 := by kernel_rfl
  g16 := by kernel_rfl
  g17 := by kernel_rfl
  g18 := by kernel_rfl
  g19 := by kernel_rfl
  t80 := Tryz.underlying451
  a80 := Tryz.isAgg451
  z80 := Tryz.sizeOf451
  v80 := Tryz.zeroValue451
  i0 := by kernel_rfl
  i2 := by kernel_rfl
  i3 := by kernel_rfl
  i4 := by kernel_rfl
  i5 := by kernel_rfl
  i9 := by kernel_rfl
  i20 := by kernel_rfl
  i21 := by kernel_rfl
  i37 := by kernel_rfl
  i46 := by kernel_rfl
  i51 := by kernel_rfl
  i53 := by kernel_rfl
  i75 := by kernel_rfl
  i76 := by kernel_rfl
  i80 := by kernel_rfl
  i85 := by kernel_rfl
  i127 := by kernel_rfl
  i143 := by kernel_rfl
  i145 := by kernel_rfl
  i167 := by kernel_rfl
  i168 := by kernel_rfl
  i171 := by kernel_rfl
  i173 := by kernel_rfl
  i175 := by kernel_rfl
  i210 := by kernel_rfl
  i212 := by kernel_rfl
  i232 := by kernel_rfl
  i233 := by kernel_rfl
  m15 := by kernel_rfl
  m16 := by kernel_rfl
  m17 := by kernel_rfl
  m18 := by kernel_rfl
  m19 := by kernel_rfl
  c0 := by kernel_rfl
  c2 := by kernel_rfl
  c3 := by kernel_rfl
  c4 := by kernel_rfl
  c5 := by kernel_rfl
  c9 := by kernel_rfl
  c20 := by kernel_rfl
  c21 := by kernel_rfl
  c37 := by kernel_rfl
  c46 := by kernel_rfl
  c51 := by kernel_rfl
  c53 := by kernel_rfl
  c75 := by kernel_rfl
  c76 := by kernel_rfl
  c80 := by kernel_rfl
  c85 := by kernel_rfl
  c127 := by kernel_rfl
  c143 := by kernel_rfl
  c145 := by kernel_rfl
  c167 := by kernel_rfl
  c168 := by kernel_rfl
  c171 := by kernel_rfl
  c173 := by kernel_rfl
  c175 := by kernel_rfl
  c210 := by kernel_rfl
  c212 := by kernel_rfl
  c213 := by kernel_rfl
  c232 := by kernel_rfl
  c233 := by kernel_rfl }
open Go.RowKit in
theorem Tryz.strconv_Atoi_ok (s : ByteArray) (hmax : s.size ≤ 9223372036854775806) (v : Int) (h : Lib.atoiAll s.data.toList = .ok v) (w : World) :
    Calls Tryz.prog 194 #[.string s] w fun e w' => e = .returned (.tuple #[.int .i64 v, .nilIface]) ∧ (w' = w ∨ ∃ t, w' = Lib.bytesWorld w 5 t) := Any.strconv_Atoi_ok Tryz.laysC172 s hmax v h w
def Tryz.lays217_ren : Go.Shelf.Ren := ⟨fun | 217 => 237 | 266 => 278 | n => n, fun | 9 => 9 | 5 => 5 | 3 => 3 | n => n, fun | n => n⟩
def Tryz.lays224_ren : Go.Shelf.Ren := ⟨fun | 224 => 239 | n => n, fun | 3 => 3 | n => n, fun | n => n⟩
def Tryz.lays314_ren : Go.Shelf.Ren := ⟨fun | 314 => 279 | n => n, fun | 9 => 9 | 51 => 348 | 3 => 3 | 4 => 4 | 5 => 5 | 46 => 310 | n => n, fun | n => n⟩
def Tryz.lays267_ren : Go.Shelf.Ren := ⟨fun | 267 => 240 | 314 => 279 | n => n, fun | 9 => 9 | 3 => 3 | 146 => 397 | 51 => 348 | 4 => 4 | 5 => 5 | 46 => 310 | n => n, fun | n => n⟩
def Tryz.lays219_ren : Go.Shelf.Ren := ⟨fun | 219 => 193 | 217 => 237 | 225 => 238 | 224 => 239 | 267 => 240 | 266 => 278 | 314 => 279 | n => n, fun | 9 => 9 | 3 => 3 | 4 => 4 | 5 => 5 | 46 => 310 | 146 => 397 | 51 => 348 | n => n, fun | 1 => 2 | n => n⟩
def Tryz.lays143_ren : Go.Shelf.Ren := ⟨fun | 143 => 157 | 219 => 193 | 217 => 237 | 225 => 238 | 224 => 239 | 267 => 240 | 266 => 278 | 314 => 279 | n => n, fun | 9 => 9 | 3 => 3 | 4 => 4 | 5 => 5 | 46 => 310 | 146 => 397 | 51 => 348 | n => n, fun | 1 => 2 | n => n⟩
def Tryz.lays220_ren : Go.Shelf.Ren := ⟨fun | 220 => 158 | 219 => 193 | 217 => 237 | 225 => 238 | 224 => 239 | 267 => 240 | 266 => 278 | 314 => 279 | n => n, fun | 9 => 9 | 4 => 4 | 3 => 3 | 5 => 5 | 46 => 310 | 146 => 397 | 51 => 348 | n => n, fun | 1 => 2 | n => n⟩
def Tryz.lays145_ren : Go.Shelf.Ren := ⟨fun | 145 => 116 | 220 => 158 | 219 => 193 | 217 => 237 | 225 => 238 | 224 => 239 | 267 => 240 | 266 => 278 | 314 => 279 | n => n, fun | 9 => 9 | 4 => 4 | 59 => 227 | 3 => 3 | 5 => 5 | 46 => 310 | 146 => 397 | 51 => 348 | n => n, fun | 1 => 2 | n => n⟩
theorem Tryz.lays145 : Go.Proofs.Lays.n145 Tryz.prog Tryz.lays145_ren := {
  mixed := by kernel_rfl
  f145 := Tryz.func116.trans (congrArg some (by kernel_rfl))
  f217 := Tryz.func237.trans (congrArg some (by kernel_rfl))
  f219 := Tryz.func193.trans (congrArg some (by kernel_rfl))
  f220 := Tryz.func158.trans (congrArg some (by kernel_rfl))
  f224 := Tryz.func239.trans (congrArg some (by kernel_rfl))
  f225 := Tryz.func238.trans (congrArg some (by kernel_rfl))
  f266 := Tryz.func278.trans (congrArg some (by kernel_rfl))
  f267 := Tryz.func240.trans (congrArg some (by kernel_rfl))
  f314 := Tryz.func279.trans (congrArg some (by kernel_rfl))
  t3 := Tryz.underlying3
  a3 := Tryz.isAgg3
  z3 := Tryz.sizeOf3
  v3 := Tryz.zeroValue3
  t4 := Tryz.underlying4
  a4 := Tryz.isAgg4
  z4 := Tryz.sizeOf4
  v4 := Tryz.zeroValue4
  t5 := Tryz.underlying5
  a5 := Tryz.isAgg5
  z5 := Tryz.sizeOf5
  v5 := Tryz.zeroValue5
  t9 := Tryz.underlying9
  a9 := Tryz.isAgg9
  z9 := Tryz.sizeOf9
  v9 := Tryz.zeroValue9
  t46 := Tryz.underlying310
  a46 := Tryz.isAgg310
  z46 := Tryz.sizeOf310
  v46 := Tryz.zeroValue310
  t51 := Tryz.underlying348
  a51 := Tryz.isAgg348
  z51 := Tryz.sizeOf348
  v51 := Tryz.zeroValue348
  t59 := Tryz.underlying227
  a59 := Tryz.isAgg227
  z59 := Tryz.sizeOf227
  v59 := Tryz.zeroValue227
  t146 := Tryz.underlying397
  a146 := Tryz.isAgg397
  z146 := Tryz.sizeOf397
  v146 := Tryz.zeroValue397
  g1 := by kernel_rfl }
open Go.RowKit Go.Lib in
theorem Tryz.strings_Cut (s sep : ByteArray) (m : Int) (w : World) (hs : s.size < 4294967281) (hm : w.cell? ⟨2, 0, none⟩ = some (.int .i64 m)) :
    Calls Tryz.prog 116 #[.string s, .string sep] w fun e w' => e = .returned (.tuple #[.string ⟨(Lib.cut s.data.toList sep.data.toList).1.toArray⟩, .string ⟨(Lib.cut s.data.toList sep.data.toList).2.1.toArray⟩, .bool (Lib.cut s.data.toList sep.data.toList).2.2]) ∧ ∃ n, w' = w.drewN n := Any.strings_Cut Tryz.lays145 s sep m w hs hm
def Tryz.lays138_ren : Go.Shelf.Ren := ⟨fun | 138 => 156 | 195 => 190 | 218 => 192 | 143 => 157 | 219 => 193 | 217 => 237 | 225 => 238 | 224 => 239 | 267 => 240 | 266 => 278 | 314 => 279 | n => n, fun | 9 => 9 | 3 => 3 | 4 => 4 | 5 => 5 | 0 => 0 | 46 => 310 | 146 => 397 | 51 => 348 | n => n, fun | 1 => 2 | n => n⟩
def Tryz.laysM219_ren : Go.Shelf.Ren := ⟨fun | 219 => 193 | 217 => 237 | 225 => 238 | 224 => 239 | 267 => 240 | 266 => 278 | 314 => 279 | n => n, fun | 9 => 9 | 3 => 3 | 4 => 4 | 5 => 5 | 46 => 310 | 146 => 397 | 51 => 348 | n => n, fun | 1 => 2 | n => n⟩
def Tryz.laysM143_ren : Go.Shelf.Ren := ⟨fun | 143 => 157 | 219 => 193 | 217 => 237 | 225 => 238 | 224 => 239 | 267 => 240 | 266 => 278 | 314 => 279 | n => n, fun | 9 => 9 | 3 => 3 | 4 => 4 | 5 => 5 | 46 => 310 | 146 => 397 | 51 => 348 | n => n, fun | 1 => 2 | n => n⟩
def Tryz.laysM220_ren : Go.Shelf.Ren := ⟨fun | 220 => 158 | 219 => 193 | 217 => 237 | 225 => 238 | 224 => 239 | 267 => 240 | 266 => 278 | 314 => 279 | n => n, fun | 9 => 9 | 4 => 4 | 3 => 3 | 5 => 5 | 46 => 310 | 146 => 397 | 51 => 348 | n => n, fun | 1 => 2 | n => n⟩
def Tryz.laysM145_ren : Go.Shelf.Ren := ⟨fun | 145 => 116 | 220 => 158 | 219 => 193 | 217 => 237 | 225 => 238 | 224 => 239 | 267 => 240 | 266 => 278 | 314 => 279 | n => n, fun | 9 => 9 | 4 => 4 | 59 => 227 | 3 => 3 | 5 => 5 | 46 => 310 | 146 => 397 | 51 => 348 | n => n, fun | 1 => 2 | n => n⟩
def Tryz.laysM138_ren : Go.Shelf.Ren := ⟨fun | 138 => 156 | 195 => 190 | 218 => 192 | 143 => 157 | 219 => 193 | 217 => 237 | 225 => 238 | 224 => 239 | 267 => 240 | 266 => 278 | 314 => 279 | n => n, fun | 9 => 9 | 3 => 3 | 4 => 4 | 5 => 5 | 0 => 0 | 46 => 310 | 146 => 397 | 51 => 348 | n => n, fun | 1 => 2 | n => n⟩
def Tryz.lays206_ren : Go.Shelf.Ren := ⟨fun | 206 => 159 | n => n, fun | 9 => 9 | 4 => 4 | 3 => 3 | n => n, fun | n => n⟩
def Tryz.lays99_ren : Go.Shelf.Ren := ⟨fun | 99 => 119 | 206 => 159 | n => n, fun | 9 => 9 | 4 => 4 | 3 => 3 | n => n, fun | n => n⟩
theorem Tryz.lays99 : Go.Proofs.Lays.n99 Tryz.prog Tryz.lays99_ren := {
  mixed := by kernel_rfl
  f99 := Tryz.func119.trans (congrArg some (by kernel_rfl))
  f206 := Tryz.func159.trans (congrArg some (by kernel_rfl))
  t3 := Tryz.underlying3
  a3 := Tryz.isAgg3
  z3 := Tryz.sizeOf3
  v3 := Tryz.zeroValue3
  t4 := Tryz.underlying4
  a4 := Tryz.isAgg4
  z4 := Tryz.sizeOf4
  v4 := Tryz.zeroValue4
  t9 := Tryz.underlying9
  a9 := Tryz.isAgg9
  z9 := Tryz.sizeOf9
  v9 := Tryz.zeroValue9 }
open Go.RowKit Go.Lib in
theorem Tryz.strings_HasPrefix (s p : ByteArray) (w : World) :
    Calls Tryz.prog 119 #[.string s, .string p] w fun e w' => e = .returned (.bool (Lib.hasPrefix s.data.toList p.data.toList)) ∧ w' = w := Any.strings_HasPrefix Tryz.lays99 s p w
def Tryz.lays221_ren : Go.Shelf.Ren := ⟨fun | 221 => 115 | 268 => 155 | 138 => 156 | 143 => 157 | 195 => 190 | 197 => 191 | 218 => 192 | 219 => 193 | 260 => 236 | 217 => 237 | 225 => 238 | 224 => 239 | 267 => 240 | 266 => 278 | 314 => 279 | n => n, fun | 9 => 9 | 3 => 3 | 31 => 174 | 4 => 4 | 0 => 0 | 105 => 313 | 21 => 21 | 5 => 5 | 46 => 310 | 119 => 393 | 139 => 396 | 138 => 395 | 146 => 397 | 51 => 348 | n => n, fun | 1 => 2 | 3 => 3 | 4 => 4 | n => n⟩
def Tryz.lays146_ren : Go.Shelf.Ren := ⟨fun | 146 => 74 | 221 => 115 | 268 => 155 | 138 => 156 | 143 => 157 | 195 => 190 | 197 => 191 | 218 => 192 | 219 => 193 | 260 => 236 | 217 => 237 | 225 => 238 | 224 => 239 | 267 => 240 | 266 => 278 | 314 => 279 | n => n, fun | 9 => 9 | 31 => 174 | 3 => 3 | 4 => 4 | 0 => 0 | 105 => 313 | 21 => 21 | 5 => 5 | 46 => 310 | 119 => 393 | 139 => 396 | 138 => 395 | 146 => 397 | 51 => 348 | n => n, fun | 1 => 2 | 3 => 3 | 4 => 4 | n => n⟩
theorem Tryz.lays146 : Go.Proofs.Lays.n146 Tryz.prog Tryz.lays146_ren := {
  mixed := by kernel_rfl
  f138 := Tryz.func156.trans (congrArg some (by kernel_rfl))
  f143 := Tryz.func157.trans (congrArg some (by kernel_rfl))
  f146 := Tryz.func74.trans (congrArg some (by kernel_rfl))
  f195 := Tryz.func190.trans (congrArg some (by kernel_rfl))
  f197 := Tryz.func191.trans (congrArg some (by kernel_rfl))
  f217 := Tryz.func237.trans (congrArg some (by kernel_rfl))
  f218 := Tryz.func192.trans (congrArg some (by kernel_rfl))
  f219 := Tryz.func193.trans (congrArg some (by kernel_rfl))
  f221 := Tryz.func115.trans (congrArg some (by kernel_rfl))
  f224 := Tryz.func239.trans (congrArg some (by kernel_rfl))
  f225 := Tryz.func238.trans (congrArg some (by kernel_rfl))
  f260 := Tryz.func236.trans (congrArg some (by kernel_rfl))
  f266 := Tryz.func278.trans (congrArg some (by kernel_rfl))
  f267 := Tryz.func240.trans (congrArg some (by kernel_rfl))
  f268 := Tryz.func155.trans (congrArg some (by kernel_rfl))
  f314 := Tryz.func279.trans (congrArg some (by kernel_rfl))
  t0 := Tryz.underlying0
  a0 := Tryz.isAgg0
  z0 := Tryz.sizeOf0
  v0 := Tryz.zeroValue0
  t3 := Tryz.underlying3
  a3 := Tryz.isAgg3
  z3 := Tryz.sizeOf3
  v3 := Tryz.zeroValue3
  t4 := Tryz.underlying4
  a4 := Tryz.isAgg4
  z4 := Tryz.sizeOf4
  v4 := Tryz.zeroValue4
  t5 := Tryz.underlying5
  a5 := Tryz.isAgg5
  z5 := Tryz.sizeOf5
  v5 := Tryz.zeroValue5
  t9 := Tryz.underlying9
  a9 := Tryz.isAgg9
  z9 := Tryz.sizeOf9
  v9 := Tryz.zeroValue9
  t21 := Tryz.underlying21
  a21 := Tryz.isAgg21
  z21 := Tryz.sizeOf21
  v21 := Tryz.zeroValue21
  t31 := Tryz.underlying174
  a31 := Tryz.isAgg174
  z31 := Tryz.sizeOf174
  v31 := Tryz.zeroValue174
  t46 := Tryz.underlying310
  a46 := Tryz.isAgg310
  z46 := Tryz.sizeOf310
  v46 := Tryz.zeroValue310
  t51 := Tryz.underlying348
  a51 := Tryz.isAgg348
  z51 := Tryz.sizeOf348
  v51 := Tryz.zeroValue348
  t105 := Tryz.underlying313
  a105 := Tryz.isAgg313
  z105 := Tryz.sizeOf313
  v105 := Tryz.zeroValue313
  t119 := Tryz.underlying393
  a119 := Tryz.isAgg393
  z119 := Tryz.sizeOf393
  t138 := Tryz.underlying395
  a138 := Tryz.isAgg395
  z138 := Tryz.sizeOf395
  v138 := Tryz.zeroValue395
  t139 := Tryz.underlying396
  a139 := Tryz.isAgg396
  z139 := Tryz.sizeOf396
  v139 := Tryz.zeroValue396
  t146 := Tryz.underlying397
  a146 := Tryz.isAgg397
  z146 := Tryz.sizeOf397
  v146 := Tryz.zeroValue397
  g1 := by kernel_rfl
  g3 := by kernel_rfl
  g4 := by kernel_rfl }
open Go.RowKit Go.Lib in
theorem Tryz.strings_Split (s sep : ByteArray) (m : Int) (w : World) (hs : s.size < 4294967281) (hm : w.cell? ⟨2, 0, none⟩ = some (.int .i64 m)) (h1 : 1 ≤ sep.size) :
    Calls Tryz.prog 74 #[.string s, .string sep] w fun e w' =>
      e = .returned (.slice (some ⟨w.heap.size, 0, none⟩) (Lib.countB s sep + 1) (Lib.countB s sep + 1)) ∧ w' = w.alloc (.cells ((Lib.splitB sep 0 (Lib.countB s sep) s).map Value.string).toArray 9) := Any.strings_Split Tryz.lays146 (by kernel_rfl) s sep m w hs hm h1
def Tryz.laysM146_ren : Go.Shelf.Ren := ⟨fun | 146 => 74 | 221 => 115 | 268 => 155 | 138 => 156 | 143 => 157 | 195 => 190 | 197 => 191 | 218 => 192 | 219 => 193 | 260 => 236 | 217 => 237 | 225 => 238 | 224 => 239 | 267 => 240 | 266 => 278 | 314 => 279 | n => n, fun | 9 => 9 | 31 => 174 | 3 => 3 | 4 => 4 | 0 => 0 | 105 => 313 | 21 => 21 | 5 => 5 | 46 => 310 | 119 => 393 | 139 => 396 | 138 => 395 | 146 => 397 | 51 => 348 | n => n, fun | 1 => 2 | 3 => 3 | 4 => 4 | n => n⟩
def Tryz.lays197_ren : Go.Shelf.Ren := ⟨fun | 197 => 191 | 260 => 236 | n => n, fun | 9 => 9 | 21 => 21 | 3 => 3 | 4 => 4 | 5 => 5 | 105 => 313 | 119 => 393 | 0 => 0 | 46 => 310 | 139 => 396 | 138 => 395 | n => n, fun | 3 => 3 | 4 => 4 | n => n⟩
def Tryz.lays268_ren : Go.Shelf.Ren := ⟨fun | 268 => 155 | 195 => 190 | 197 => 191 | 260 => 236 | n => n, fun | 9 => 9 | 3 => 3 | 31 => 174 | 4 => 4 | 105 => 313 | 21 => 21 | 0 => 0 | 5 => 5 | 119 => 393 | 46 => 310 | 139 => 396 | 138 => 395 | n => n, fun | 3 => 3 | 4 => 4 | n => n⟩
def Tryz.lays260_ren : Go.Shelf.Ren := ⟨fun | 260 => 236 | n => n, fun | 9 => 9 | 21 => 21 | 3 => 3 | 4 => 4 | 5 => 5 | 119 => 393 | 0 => 0 | 46 => 310 | 139 => 396 | 138 => 395 | n => n, fun | 3 => 3 | 4 => 4 | n => n⟩
def Tryz.lays229_ren : Go.Shelf.Ren := ⟨fun | 229 => 117 | n => n, fun | 9 => 9 | 40 => 230 | 31 => 174 | 152 => 286 | 3 => 3 | 0 => 0 | 4 => 4 | 21 => 21 | 154 => 288 | n => n, fun | n => n⟩
def Tryz.laysNm237_ren : Go.Shelf.Ren := ⟨fun | 37 => 267 | n => n, fun | 3 => 3 | 4 => 4 | n => n, fun | n => n⟩
def Tryz.laysNm231_ren : Go.Shelf.Ren := ⟨fun | 31 => 227 | 37 => 267 | n => n, fun | 3 => 3 | 4 => 4 | n => n, fun | n => n⟩
end Go.Proofs
