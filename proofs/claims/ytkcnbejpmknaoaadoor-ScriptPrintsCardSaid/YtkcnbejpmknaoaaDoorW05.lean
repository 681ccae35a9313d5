import Derived.Shelf.Strings.Builder1
import Derived.Shelf.Strings.BuilderF
import Derived.Shelf.Strings.BuilderK
import Derived.Shelf.Strconv.Atoi
import Derived.Shelf.Strconv.Itoa0
import Derived.Shelf.Strconv.Itoa1
import Derived.Shelf.LaysM
import Derived.Shelf.Strconv.Itoa2
import Derived.Shelf.Strconv.Itoa3
import Derived.Shelf.Strconv.AtoiErrFast
import Derived.Shelf.Strconv.ParseIntEmpty
import Derived.Shelf.Strconv.AtoiFail
import Derived.Shelf.Strconv.Clone
import Derived.Shelf.Strconv.SyntaxError
import Derived.Shelf.LaysC
import Derived.Shelf.Strconv.ToError
import Derived.Shelf.Strconv.Lower
import Derived.Shelf.Strconv.ParseUint10
import Derived.Shelf.Strconv.ParseUint10Empty
import Derived.Shelf.Strconv.ParseUint10Any
import Derived.Shelf.Strconv.ParseInt10
import Derived.Shelf.Strconv.AtoiLong
import Derived.Shelf.Strconv.AtoiInnerAll
import Derived.Shelf.Strconv.RangeError
import Derived.Shelf.Strconv.ToErrorRange
import Derived.Shelf.Strconv.AtoiAll
import Derived.Shelf.Strings.Search1
import Derived.Shelf.Strings.Search2
import Derived.Shelf.Strings.Search3
import Derived.Shelf.Strings.Cut
import Derived.Shelf.Strings.Count
import Derived.Shelf.Strings.Shaped
import Derived.Shelf.Strings.Prefix
import Derived.Shelf.Strings.Split
import Derived.Shelf.Unicode.DecodeSlow
import Derived.Shelf.Unicode.DecodeAny
import Derived.Shelf.Strings.FieldsFuncAny
import Derived.Shelf.Strings.FieldsFuncGrows
import Derived.Test.YtkcnbejpmknaoaaDoorProg
/-
  DERIVED: THE SHELF's CONTRACTS AT THIS DUMP, IN PLAIN WORDS (tools/lay-plain.mjs out of 'TrydShelf.lean', which tools/lay-shelf.mjs wrote): THE SAME DECLARATIONS UNDER THE SAME NAMES: 'import', 'namespace', 'open', 'def', 'theorem' AND NOTHING ELSE: no command of the shelf's: FOR A HAND-IN. Each laying: the table of numbers ('.._ren') and one theorem, a field a fact of the dump's own or the kernel's comparison; each contract: ONE APPLICATION.
-/
namespace Go.Proofs
open Go.Shelf
def Tryd.lays169_ren : Go.Shelf.Ren := ⟨fun | 169 => 22 | n => n, fun | 70 => 49 | 9 => 9 | 0 => 0 | 72 => 52 | 37 => 50 | 127 => 76 | 3 => 3 | 5 => 5 | n => n, fun | n => n⟩
def Tryd.lays244_ren : Go.Shelf.Ren := ⟨fun | 244 => 59 | 247 => 68 | 287 => 75 | 321 => 78 | 322 => 79 | n => n, fun | 9 => 9 | 3 => 3 | 75 => 55 | 4 => 4 | 5 => 5 | 167 => 110 | 37 => 50 | 0 => 0 | 85 => 111 | 2 => 2 | 53 => 91 | 175 => 117 | 46 => 96 | 21 => 21 | 80 => 60 | n => n, fun | n => n⟩
def Tryd.lays172_ren : Go.Shelf.Ren := ⟨fun | 172 => 49 | 244 => 59 | 245 => 60 | 247 => 68 | 279 => 69 | 280 => 70 | 281 => 71 | 282 => 72 | 287 => 75 | 316 => 76 | 171 => 21 | 205 => 77 | 321 => 78 | 322 => 79 | 243 => 36 | 246 => 44 | 283 => 50 | 284 => 51 | 285 => 52 | 286 => 53 | 129 => 62 | 317 => 61 | 318 => 63 | 319 => 64 | 320 => 65 | 337 => 73 | 338 => 74 | n => n, fun | 9 => 9 | 3 => 3 | 75 => 55 | 76 => 56 | 4 => 4 | 5 => 5 | 167 => 110 | 37 => 50 | 0 => 0 | 85 => 111 | 2 => 2 | 168 => 113 | 53 => 91 | 175 => 117 | 46 => 96 | 210 => 121 | 127 => 76 | 145 => 128 | 143 => 126 | 21 => 21 | 171 => 90 | 173 => 94 | 212 => 99 | 51 => 100 | 20 => 20 | 213 => 101 | 232 => 123 | 233 => 124 | 80 => 60 | n => n, fun | 15 => 5 | 16 => 6 | 17 => 2 | 18 => 7 | 19 => 8 | n => n⟩
def Tryd.lays129_ren : Go.Shelf.Ren := ⟨fun | 129 => 62 | n => n, fun | 53 => 91 | 3 => 3 | 4 => 4 | 46 => 96 | 5 => 5 | 9 => 9 | n => n, fun | n => n⟩
def Tryd.lays317_ren : Go.Shelf.Ren := ⟨fun | 317 => 61 | n => n, fun | 3 => 3 | 46 => 96 | n => n, fun | n => n⟩
def Tryd.lays318_ren : Go.Shelf.Ren := ⟨fun | 318 => 63 | n => n, fun | 3 => 3 | 4 => 4 | n => n, fun | n => n⟩
def Tryd.lays283_ren : Go.Shelf.Ren := ⟨fun | 283 => 50 | n => n, fun | 3 => 3 | 9 => 9 | 4 => 4 | n => n, fun | n => n⟩
def Tryd.laysM284_ren : Go.Shelf.Ren := ⟨fun | 284 => 51 | 129 => 62 | 317 => 61 | 318 => 63 | n => n, fun | 53 => 91 | 3 => 3 | 212 => 99 | 0 => 0 | 4 => 4 | 46 => 96 | 5 => 5 | 9 => 9 | n => n, fun | 17 => 2 | n => n⟩
def Tryd.lays285_ren : Go.Shelf.Ren := ⟨fun | 285 => 52 | n => n, fun | 37 => 50 | 53 => 91 | 3 => 3 | 4 => 4 | 51 => 100 | 9 => 9 | 5 => 5 | 0 => 0 | n => n, fun | n => n⟩
def Tryd.laysM246_ren : Go.Shelf.Ren := ⟨fun | 246 => 44 | 283 => 50 | 284 => 51 | 285 => 52 | 286 => 53 | 129 => 62 | 317 => 61 | 318 => 63 | 319 => 64 | 320 => 65 | 337 => 73 | 338 => 74 | n => n, fun | 2 => 2 | 3 => 3 | 9 => 9 | 4 => 4 | 171 => 90 | 0 => 0 | 53 => 91 | 37 => 50 | 5 => 5 | 173 => 94 | 212 => 99 | 51 => 100 | 20 => 20 | 213 => 101 | 46 => 96 | 232 => 123 | 233 => 124 | n => n, fun | 17 => 2 | 18 => 7 | 19 => 8 | n => n⟩
def Tryd.lays246_ren : Go.Shelf.Ren := ⟨fun | 246 => 44 | 283 => 50 | 284 => 51 | 285 => 52 | 286 => 53 | 129 => 62 | 317 => 61 | 318 => 63 | 319 => 64 | 320 => 65 | 337 => 73 | 338 => 74 | n => n, fun | 2 => 2 | 3 => 3 | 9 => 9 | 4 => 4 | 171 => 90 | 0 => 0 | 53 => 91 | 37 => 50 | 5 => 5 | 173 => 94 | 212 => 99 | 51 => 100 | 20 => 20 | 213 => 101 | 46 => 96 | 232 => 123 | 233 => 124 | n => n, fun | 17 => 2 | 18 => 7 | 19 => 8 | n => n⟩
def Tryd.laysM243_ren : Go.Shelf.Ren := ⟨fun | 243 => 36 | 246 => 44 | 283 => 50 | 284 => 51 | 285 => 52 | 286 => 53 | 129 => 62 | 317 => 61 | 318 => 63 | 319 => 64 | 320 => 65 | 337 => 73 | 338 => 74 | n => n, fun | 3 => 3 | 9 => 9 | 2 => 2 | 4 => 4 | 171 => 90 | 0 => 0 | 53 => 91 | 37 => 50 | 5 => 5 | 173 => 94 | 212 => 99 | 51 => 100 | 20 => 20 | 213 => 101 | 46 => 96 | 232 => 123 | 233 => 124 | n => n, fun | 17 => 2 | 18 => 7 | 19 => 8 | n => n⟩
def Tryd.lays243_ren : Go.Shelf.Ren := ⟨fun | 243 => 36 | 246 => 44 | 283 => 50 | 284 => 51 | 285 => 52 | 286 => 53 | 129 => 62 | 317 => 61 | 318 => 63 | 319 => 64 | 320 => 65 | 337 => 73 | 338 => 74 | n => n, fun | 3 => 3 | 9 => 9 | 2 => 2 | 4 => 4 | 171 => 90 | 0 => 0 | 53 => 91 | 37 => 50 | 5 => 5 | 173 => 94 | 212 => 99 | 51 => 100 | 20 => 20 | 213 => 101 | 46 => 96 | 232 => 123 | 233 => 124 | n => n, fun | 17 => 2 | 18 => 7 | 19 => 8 | n => n⟩
def Tryd.laysM171_ren : Go.Shelf.Ren := ⟨fun | 171 => 21 | 243 => 36 | 246 => 44 | 283 => 50 | 284 => 51 | 285 => 52 | 286 => 53 | 129 => 62 | 317 => 61 | 318 => 63 | 319 => 64 | 320 => 65 | 337 => 73 | 338 => 74 | n => n, fun | 3 => 3 | 9 => 9 | 2 => 2 | 4 => 4 | 171 => 90 | 0 => 0 | 53 => 91 | 37 => 50 | 5 => 5 | 173 => 94 | 212 => 99 | 51 => 100 | 20 => 20 | 213 => 101 | 46 => 96 | 232 => 123 | 233 => 124 | n => n, fun | 17 => 2 | 18 => 7 | 19 => 8 | n => n⟩
theorem Tryd.laysM171 : Go.Proofs.LaysM.n171 Tryd.prog Tryd.laysM171_ren := {
  mixed := by kernel_rfl
  f129 := Tryd.func62.trans (congrArg some (by kernel_rfl))
  f171 := Tryd.func21.trans (congrArg some (by kernel_rfl))
  f243 := Tryd.func36.trans (congrArg some (by kernel_rfl))
  f246 := Tryd.func44.trans (congrArg some (by kernel_rfl))
  f283 := Tryd.func50.trans (congrArg some (by kernel_rfl))
  f284 := Tryd.func51.trans (congrArg some (by kernel_rfl))
  f285 := Tryd.func52.trans (congrArg some (by kernel_rfl))
  f286 := Tryd.func53.trans (congrArg some (by kernel_rfl))
  f317 := Tryd.func61.trans (congrArg some (by kernel_rfl))
  f318 := Tryd.func63.trans (congrArg some (by kernel_rfl))
  f319 := Tryd.func64.trans (congrArg some (by kernel_rfl))
  f320 := Tryd.func65.trans (congrArg some (by kernel_rfl))
  f337 := Tryd.func73.trans (congrArg some (by kernel_rfl))
  f338 := Tryd.func74.trans (congrArg some (by kernel_rfl))
  t0 := Tryd.underlying0
  a0 := Tryd.isAgg0
  z0 := Tryd.sizeOf0
  v0 := Tryd.zeroValue0
  t2 := Tryd.underlying2
  a2 := Tryd.isAgg2
  z2 := Tryd.sizeOf2
  v2 := Tryd.zeroValue2
  t3 := Tryd.underlying3
  a3 := Tryd.isAgg3
  z3 := Tryd.sizeOf3
  v3 := Tryd.zeroValue3
  t4 := Tryd.underlying4
  a4 := Tryd.isAgg4
  z4 := Tryd.sizeOf4
  v4 := Tryd.zeroValue4
  t5 := Tryd.underlying5
  a5 := Tryd.isAgg5
  z5 := Tryd.sizeOf5
  v5 := Tryd.zeroValue5
  t9 := Tryd.underlying9
  a9 := Tryd.isAgg9
  z9 := Tryd.sizeOf9
  v9 := Tryd.zeroValue9
  t20 := Tryd.underlying20
  a20 := Tryd.isAgg20
  z20 := Tryd.sizeOf20
  v20 := Tryd.zeroValue20
  t37 := Tryd.underlying50
  a37 := Tryd.isAgg50
  z37 := Tryd.sizeOf50
  v37 := Tryd.zeroValue50
  t46 := Tryd.underlying96
  a46 := Tryd.isAgg96
  z46 := Tryd.sizeOf96
  v46 := Tryd.zeroValue96
  t51 := Tryd.underlying100
  a51 := Tryd.isAgg100
  z51 := Tryd.sizeOf100
  v51 := Tryd.zeroValue100
  t53 := Tryd.underlying91
  a53 := Tryd.isAgg91
  z53 := Tryd.sizeOf91
  v53 := Tryd.zeroValue91
  t171 := Tryd.underlying90
  a171 := Tryd.isAgg90
  z171 := Tryd.sizeOf90
  v171 := Tryd.zeroValue90
  t173 := Tryd.underlying94
  a173 := Tryd.isAgg94
  z173 := Tryd.sizeOf94
  v173 := Tryd.zeroValue94
  t212 := Tryd.underlying99
  a212 := Tryd.isAgg99
  z212 := Tryd.sizeOf99
  v212 := Tryd.zeroValue99
  t213 := Tryd.underlying101
  a213 := Tryd.isAgg101
  z213 := Tryd.sizeOf101
  t232 := Tryd.underlying123
  a232 := Tryd.isAgg123
  z232 := Tryd.sizeOf123
  v232 := Tryd.zeroValue123
  t233 := Tryd.underlying124
  a233 := Tryd.isAgg124
  z233 := Tryd.sizeOf124
  v233 := Tryd.zeroValue124
  g17 := by kernel_rfl
  g18 := by kernel_rfl
  g19 := by kernel_rfl
  i0 := by kernel_rfl
  i2 := by kernel_rfl
  i3 := by kernel_rfl
  i4 := by kernel_rfl
  i5 := by kernel_rfl
  i9 := by kernel_rfl
  i20 := by kernel_rfl
  i37 := by kernel_rfl
  i46 := by kernel_rfl
  i51 := by kernel_rfl
  i53 := by kernel_rfl
  i171 := by kernel_rfl
  i173 := by kernel_rfl
  i212 := by kernel_rfl
  i232 := by kernel_rfl
  i233 := by kernel_rfl
  m17 := by kernel_rfl
  m18 := by kernel_rfl
  m19 := by kernel_rfl }
open Go.RowKit Go.Sort Go.Lib in
theorem Tryd.strconv_Itoa (n : Int) (h0 : -9223372036854775808 ≤ n) (h1 : n ≤ 9223372036854775807) (w : World) (htab : Lib.TabIs Tryd.prog w "internal/strconv.uint64pow10" .u64 Lib.pow10Tab) :
    Calls Tryd.prog 21 #[.int .i64 n] w fun e w' => e = .returned (.string ⟨(Lib.itoa n).toArray⟩) ∧ ∃ k os, w' = grow (w.drewN k) os := Any.strconv_Itoa Tryd.laysM171 n h0 h1 w htab
def Tryd.lays171_ren : Go.Shelf.Ren := ⟨fun | 171 => 21 | 243 => 36 | 246 => 44 | 283 => 50 | 284 => 51 | 285 => 52 | 286 => 53 | 129 => 62 | 317 => 61 | 318 => 63 | 319 => 64 | 320 => 65 | 337 => 73 | 338 => 74 | n => n, fun | 3 => 3 | 9 => 9 | 2 => 2 | 4 => 4 | 171 => 90 | 0 => 0 | 53 => 91 | 37 => 50 | 5 => 5 | 173 => 94 | 212 => 99 | 51 => 100 | 20 => 20 | 213 => 101 | 46 => 96 | 232 => 123 | 233 => 124 | n => n, fun | 17 => 2 | 18 => 7 | 19 => 8 | n => n⟩
def Tryd.lays247_ren : Go.Shelf.Ren := ⟨fun | 247 => 68 | 287 => 75 | 321 => 78 | 322 => 79 | n => n, fun | 9 => 9 | 3 => 3 | 2 => 2 | 75 => 55 | 4 => 4 | 167 => 110 | 5 => 5 | 53 => 91 | 175 => 117 | 46 => 96 | 37 => 50 | 0 => 0 | 21 => 21 | 80 => 60 | n => n, fun | n => n⟩
def Tryd.laysM316_ren : Go.Shelf.Ren := ⟨fun | 316 => 76 | n => n, fun | 9 => 9 | 3 => 3 | 4 => 4 | 37 => 50 | 0 => 0 | 127 => 76 | 5 => 5 | n => n, fun | n => n⟩
def Tryd.laysM279_ren : Go.Shelf.Ren := ⟨fun | 279 => 69 | 316 => 76 | n => n, fun | 9 => 9 | 168 => 113 | 75 => 55 | 210 => 121 | 3 => 3 | 4 => 4 | 37 => 50 | 0 => 0 | 127 => 76 | 80 => 60 | 5 => 5 | n => n, fun | 15 => 5 | n => n⟩
def Tryd.laysC245_ren : Go.Shelf.Ren := ⟨fun | 245 => 60 | 279 => 69 | 280 => 70 | 281 => 71 | 282 => 72 | 316 => 76 | 171 => 21 | 205 => 77 | 243 => 36 | 246 => 44 | 283 => 50 | 284 => 51 | 285 => 52 | 286 => 53 | 129 => 62 | 317 => 61 | 318 => 63 | 319 => 64 | 320 => 65 | 337 => 73 | 338 => 74 | n => n, fun | 9 => 9 | 3 => 3 | 75 => 55 | 167 => 110 | 4 => 4 | 168 => 113 | 210 => 121 | 37 => 50 | 0 => 0 | 127 => 76 | 145 => 128 | 143 => 126 | 2 => 2 | 171 => 90 | 53 => 91 | 5 => 5 | 173 => 94 | 212 => 99 | 51 => 100 | 20 => 20 | 213 => 101 | 46 => 96 | 232 => 123 | 233 => 124 | 80 => 60 | n => n, fun | 15 => 5 | 16 => 6 | 17 => 2 | 18 => 7 | 19 => 8 | n => n⟩
def Tryd.lays321_ren : Go.Shelf.Ren := ⟨fun | 321 => 78 | n => n, fun | 5 => 5 | n => n, fun | n => n⟩
def Tryd.lays287_ren : Go.Shelf.Ren := ⟨fun | 287 => 75 | 321 => 78 | 322 => 79 | n => n, fun | 9 => 9 | 3 => 3 | 53 => 91 | 75 => 55 | 4 => 4 | 167 => 110 | 5 => 5 | 46 => 96 | 37 => 50 | 0 => 0 | 21 => 21 | 80 => 60 | n => n, fun | n => n⟩
def Tryd.laysC247_ren : Go.Shelf.Ren := ⟨fun | 247 => 68 | 287 => 75 | 321 => 78 | 322 => 79 | n => n, fun | 9 => 9 | 3 => 3 | 2 => 2 | 75 => 55 | 4 => 4 | 167 => 110 | 5 => 5 | 53 => 91 | 175 => 117 | 46 => 96 | 37 => 50 | 0 => 0 | 21 => 21 | 80 => 60 | n => n, fun | n => n⟩
def Tryd.laysC244_ren : Go.Shelf.Ren := ⟨fun | 244 => 59 | 247 => 68 | 287 => 75 | 321 => 78 | 322 => 79 | n => n, fun | 9 => 9 | 3 => 3 | 75 => 55 | 4 => 4 | 5 => 5 | 167 => 110 | 37 => 50 | 0 => 0 | 85 => 111 | 2 => 2 | 53 => 91 | 175 => 117 | 46 => 96 | 21 => 21 | 80 => 60 | n => n, fun | n => n⟩
theorem Tryd.laysC244 : Go.Proofs.LaysC.n244 Tryd.prog Tryd.laysC244_ren := {
  mixed := by kernel_rfl
  f244 := Tryd.func59.trans (congrArg some (by kernel_rfl))
  f247 := Tryd.func68.trans (congrArg some (by kernel_rfl))
  f287 := Tryd.func75.trans (congrArg some (by kernel_rfl))
  f321 := Tryd.func78.trans (congrArg some (by kernel_rfl))
  f322 := Tryd.func79.trans (congrArg some (by kernel_rfl))
  t0 := Tryd.underlying0
  a0 := Tryd.isAgg0
  z0 := Tryd.sizeOf0
  v0 := Tryd.zeroValue0
  t2 := Tryd.underlying2
  a2 := Tryd.isAgg2
  z2 := Tryd.sizeOf2
  v2 := Tryd.zeroValue2
  t3 := Tryd.underlying3
  a3 := Tryd.isAgg3
  z3 := Tryd.sizeOf3
  v3 := Tryd.zeroValue3
  t4 := Tryd.underlying4
  a4 := Tryd.isAgg4
  z4 := Tryd.sizeOf4
  v4 := Tryd.zeroValue4
  t5 := Tryd.underlying5
  a5 := Tryd.isAgg5
  z5 := Tryd.sizeOf5
  v5 := Tryd.zeroValue5
  t9 := Tryd.underlying9
  a9 := Tryd.isAgg9
  z9 := Tryd.sizeOf9
  v9 := Tryd.zeroValue9
  t21 := Tryd.underlying21
  a21 := Tryd.isAgg21
  z21 := Tryd.sizeOf21
  v21 := Tryd.zeroValue21
  t37 := Tryd.underlying50
  a37 := Tryd.isAgg50
  z37 := Tryd.sizeOf50
  v37 := Tryd.zeroValue50
  t46 := Tryd.underlying96
  a46 := Tryd.isAgg96
  z46 := Tryd.sizeOf96
  v46 := Tryd.zeroValue96
  t53 := Tryd.underlying91
  a53 := Tryd.isAgg91
  z53 := Tryd.sizeOf91
  v53 := Tryd.zeroValue91
  t75 := Tryd.underlying55
  a75 := Tryd.isAgg55
  z75 := Tryd.sizeOf55
  v75 := Tryd.zeroValue55
  t85 := Tryd.underlying111
  a85 := Tryd.isAgg111
  z85 := Tryd.sizeOf111
  v85 := Tryd.zeroValue111
  t167 := Tryd.underlying110
  a167 := Tryd.isAgg110
  z167 := Tryd.sizeOf110
  v167 := Tryd.zeroValue110
  t175 := Tryd.underlying117
  a175 := Tryd.isAgg117
  z175 := Tryd.sizeOf117
  v175 := Tryd.zeroValue117
  t80 := Tryd.underlying60
  a80 := Tryd.isAgg60
  z80 := Tryd.sizeOf60
  v80 := Tryd.zeroValue60
  i0 := by kernel_rfl
  i2 := by kernel_rfl
  i3 := by kernel_rfl
  i4 := by kernel_rfl
  i5 := by kernel_rfl
  i9 := by kernel_rfl
  i21 := by kernel_rfl
  i37 := by kernel_rfl
  i46 := by kernel_rfl
  i53 := by kernel_rfl
  i75 := by kernel_rfl
  i80 := by kernel_rfl
  i85 := by kernel_rfl
  i167 := by kernel_rfl
  i175 := by kernel_rfl
  c0 := by kernel_rfl
  c2 := by kernel_rfl
  c3 := by kernel_rfl
  c4 := by kernel_rfl
  c5 := by kernel_rfl
  c9 := by kernel_rfl
  c21 := by kernel_rfl
  c37 := by kernel_rfl
  c46 := by kernel_rfl
  c53 := by kernel_rfl
  c75 := by kernel_rfl
  c80 := by kernel_rfl
  c85 := by kernel_rfl
  c167 := by kernel_rfl
  c175 := by kernel_rfl }
open Go.RowKit in
theorem Tryd.internal_strconv_Atoi_all (s : ByteArray) (hmax : s.size ≤ 9223372036854775806) (w : World) :
    Calls Tryd.prog 59 #[.string s] w fun e w' => e = .returned (Lib.intTuple 110 (Lib.atoiSat s.data.toList) (Lib.atoiAll s.data.toList)) ∧ (w' = w ∨ ∃ t, w' = Lib.bytesWorld w 5 t) := Any.internal_strconv_Atoi_all Tryd.laysC244 s hmax w
def Tryd.laysM280_ren : Go.Shelf.Ren := ⟨fun | 280 => 70 | 316 => 76 | n => n, fun | 9 => 9 | 168 => 113 | 75 => 55 | 210 => 121 | 3 => 3 | 4 => 4 | 37 => 50 | 0 => 0 | 127 => 76 | 80 => 60 | 5 => 5 | n => n, fun | 16 => 6 | n => n⟩
def Tryd.laysC172_ren : Go.Shelf.Ren := ⟨fun | 172 => 49 | 244 => 59 | 245 => 60 | 247 => 68 | 279 => 69 | 280 => 70 | 281 => 71 | 282 => 72 | 287 => 75 | 316 => 76 | 171 => 21 | 205 => 77 | 321 => 78 | 322 => 79 | 243 => 36 | 246 => 44 | 283 => 50 | 284 => 51 | 285 => 52 | 286 => 53 | 129 => 62 | 317 => 61 | 318 => 63 | 319 => 64 | 320 => 65 | 337 => 73 | 338 => 74 | n => n, fun | 9 => 9 | 3 => 3 | 75 => 55 | 76 => 56 | 4 => 4 | 5 => 5 | 167 => 110 | 37 => 50 | 0 => 0 | 85 => 111 | 2 => 2 | 168 => 113 | 53 => 91 | 175 => 117 | 46 => 96 | 210 => 121 | 127 => 76 | 145 => 128 | 143 => 126 | 21 => 21 | 171 => 90 | 173 => 94 | 212 => 99 | 51 => 100 | 20 => 20 | 213 => 101 | 232 => 123 | 233 => 124 | 80 => 60 | n => n, fun | 15 => 5 | 16 => 6 | 17 => 2 | 18 => 7 | 19 => 8 | n => n⟩
theorem Tryd.laysC172 : Go.Proofs.LaysC.n172 Tryd.prog Tryd.laysC172_ren := {
  mixed := by kernel_rfl
  f129 := Tryd.func62.trans (congrArg some (by kernel_rfl))
  f171 := Tryd.func21.trans (congrArg some (by kernel_rfl))
  f172 := Tryd.func49.trans (congrArg some (by kernel_rfl))
  f205 := Tryd.func77.trans (congrArg some (by kernel_rfl))
  f243 := Tryd.func36.trans (congrArg some (by kernel_rfl))
  f244 := Tryd.func59.trans (congrArg some (by kernel_rfl))
  f245 := Tryd.func60.trans (congrArg some (by kernel_rfl))
  f246 := Tryd.func44.trans (congrArg some (by kernel_rfl))
  f247 := Tryd.func68.trans (congrArg some (by kernel_rfl))
  f279 := Tryd.func69.trans (congrArg some (by kernel_rfl))
  f280 := Tryd.func70.trans (congrArg some (by kernel_rfl))
  f281 := Tryd.func71.trans (congrArg some (by kernel_rfl))
  f282 := Tryd.func72.trans (congrArg some (by kernel_rfl))
  f283 := Tryd.func50.trans (congrArg some (by kernel_rfl))
  f284 := Tryd.func51.trans (congrArg some (by kernel_rfl))
  f285 := Tryd.func52.trans (congrArg some (by kernel_rfl))
  f286 := Tryd.func53.trans (congrArg some (by kernel_rfl))
  f287 := Tryd.func75.trans (congrArg some (by kernel_rfl))
  f316 := Tryd.func76.trans (congrArg some (by kernel_rfl))
  f317 := Tryd.func61.trans (congrArg some (by kernel_rfl))
  f318 := Tryd.func63.trans (congrArg some (by kernel_rfl))
  f319 := Tryd.func64.trans (congrArg some (by kernel_rfl))
  f320 := Tryd.func65.trans (congrArg some (by kernel_rfl))
  f321 := Tryd.func78.trans (congrArg some (by kernel_rfl))
  f322 := Tryd.func79.trans (congrArg some (by kernel_rfl))
  f337 := Tryd.func73.trans (congrArg some (by kernel_rfl))
  f338 := Tryd.func74.trans (congrArg some (by kernel_rfl))
  t0 := Tryd.underlying0
  a0 := Tryd.isAgg0
  z0 := Tryd.sizeOf0
  v0 := Tryd.zeroValue0
  t2 := Tryd.underlying2
  a2 := Tryd.isAgg2
  z2 := Tryd.sizeOf2
  v2 := Tryd.zeroValue2
  t3 := Tryd.underlying3
  a3 := Tryd.isAgg3
  z3 := Tryd.sizeOf3
  v3 := Tryd.zeroValue3
  t4 := Tryd.underlying4
  a4 := Tryd.isAgg4
  z4 := Tryd.sizeOf4
  v4 := Tryd.zeroValue4
  t5 := Tryd.underlying5
  a5 := Tryd.isAgg5
  z5 := Tryd.sizeOf5
  v5 := Tryd.zeroValue5
  t9 := Tryd.underlying9
  a9 := Tryd.isAgg9
  z9 := Tryd.sizeOf9
  v9 := Tryd.zeroValue9
  t20 := Tryd.underlying20
  a20 := Tryd.isAgg20
  z20 := Tryd.sizeOf20
  v20 := Tryd.zeroValue20
  t21 := Tryd.underlying21
  a21 := Tryd.isAgg21
  z21 := Tryd.sizeOf21
  v21 := Tryd.zeroValue21
  t37 := Tryd.underlying50
  a37 := Tryd.isAgg50
  z37 := Tryd.sizeOf50
  v37 := Tryd.zeroValue50
  t46 := Tryd.underlying96
  a46 := Tryd.isAgg96
  z46 := Tryd.sizeOf96
  v46 := Tryd.zeroValue96
  t51 := Tryd.underlying100
  a51 := Tryd.isAgg100
  z51 := Tryd.sizeOf100
  v51 := Tryd.zeroValue100
  t53 := Tryd.underlying91
  a53 := Tryd.isAgg91
  z53 := Tryd.sizeOf91
  v53 := Tryd.zeroValue91
  t75 := Tryd.underlying55
  a75 := Tryd.isAgg55
  z75 := Tryd.sizeOf55
  v75 := Tryd.zeroValue55
  t76 := Tryd.underlying56
  a76 := Tryd.isAgg56
  z76 := Tryd.sizeOf56
  v76 := Tryd.zeroValue56
  t85 := Tryd.underlying111
  a85 := Tryd.isAgg111
  z85 := Tryd.sizeOf111
  v85 := Tryd.zeroValue111
  t127 := Tryd.underlying76
  a127 := Tryd.isAgg76
  z127 := Tryd.sizeOf76
  v127 := Tryd.zeroValue76
  t143 := Tryd.underlying126
  a143 := Tryd.isAgg126
  z143 := Tryd.sizeOf126
  v143 := Tryd.zeroValue126
  t145 := Tryd.underlying128
  a145 := Tryd.isAgg128
  z145 := Tryd.sizeOf128
  v145 := Tryd.zeroValue128
  t167 := Tryd.underlying110
  a167 := Tryd.isAgg110
  z167 := Tryd.sizeOf110
  v167 := Tryd.zeroValue110
  t168 := Tryd.underlying113
  a168 := Tryd.isAgg113
  z168 := Tryd.sizeOf113
  v168 := Tryd.zeroValue113
  t171 := Tryd.underlying90
  a171 := Tryd.isAgg90
  z171 := Tryd.sizeOf90
  v171 := Tryd.zeroValue90
  t173 := Tryd.underlying94
  a173 := Tryd.isAgg94
  z173 := Tryd.sizeOf94
  v173 := Tryd.zeroValue94
  t175 := Tryd.underlying117
  a175 := Tryd.isAgg117
  z175 := Tryd.sizeOf117
  v175 := Tryd.zeroValue117
  t210 := Tryd.underlying121
  a210 := Tryd.isAgg121
  z210 := Tryd.sizeOf121
  v210 := Tryd.zeroValue121
  t212 := Tryd.underlying99
  a212 := Tryd.isAgg99
  z212 := Tryd.sizeOf99
  v212 := Tryd.zeroValue99
  t213 := Tryd.underlying101
  a213 := Tryd.isAgg101
  z213 := Tryd.sizeOf101
  t232 := Tryd.underlying123
  a232 := Tryd.isAgg123
  z232 := Tryd.sizeOf123
  v232 := Tryd.zeroValue123
  t233 := Tryd.underlying124
  a233 := Tryd.isAgg124
  z233 := Tryd.sizeOf124
  v233 := Tryd.zeroValue124
  g15 := by kernel_rfl
  g16 := by kernel_rfl
  g17 := by kernel_rfl
  g18 := by kernel_rfl
  g19 := by kernel_rfl
  t80 := Tryd.underlying60
  a80 := Tryd.isAgg60
  z80 := Tryd.sizeOf60
  v80 := Tryd.zeroValue60
  i0 := by kernel_rfl
  i2 := by kernel_rfl
  i3 := by kernel_rfl
  i4 := by kernel_rfl
  i5 := by kernel_rfl
  i9 := by kernel_rfl
  i20 := by kernel_rfl
  i21 := by kernel_rfl
  i37 := by kernel_rfl
  i46 := by kernel_rfl
  i51 := by kernel_rfl
  i53 := by kernel_rfl
  i75 := by kernel_rfl
  i76 := by kernel_rfl
  i80 := by kernel_rfl
  i85 := by kernel_rfl
  i127 := by kernel_rfl
  i143 := by kernel_rfl
  i145 := by kernel_rfl
  i167 := by kernel_rfl
  i168 := by kernel_rfl
  i171 := by kernel_rfl
  i173 := by kernel_rfl
  i175 := by kernel_rfl
  i210 := by kernel_rfl
  i212 := by kernel_rfl
  i232 := by kernel_rfl
  i233 := by kernel_rfl
  m15 := by kernel_rfl
  m16 := by kernel_rfl
  m17 := by kernel_rfl
  m18 := by kernel_rfl
  m19 := by kernel_rfl
  c0 := by kernel_rfl
  c2 := by kernel_rfl
  c3 := by kernel_rfl
  c4 := by kernel_rfl
  c5 := by kernel_rfl
  c9 := by kernel_rfl
  c20 := by kernel_rfl
  c21 := by kernel_rfl
  c37 := by kernel_rfl
  c46 := by kernel_rfl
  c51 := by kernel_rfl
  c53 := by kernel_rfl
  c75 := by kernel_rfl
  c76 := by kernel_rfl
  c80 := by kernel_rfl
  c85 := by kernel_rfl
  c127 := by kernel_rfl
  c143 := by kernel_rfl
  c145 := by kernel_rfl
  c167 := by kernel_rfl
  c168 := by kernel_rfl
  c171 := by kernel_rfl
  c173 := by kernel_rfl
  c175 := by kernel_rfl
  c210 := by kernel_rfl
  c212 := by kernel_rfl
  c213 := by kernel_rfl
  c232 := by kernel_rfl
  c233 := by kernel_rfl }
open Go.RowKit in
theorem Tryd.strconv_Atoi_ok (s : ByteArray) (hmax : s.size ≤ 9223372036854775806) (v : Int) (h : Lib.atoiAll s.data.toList = .ok v) (w : World) :
    Calls Tryd.prog 49 #[.string s] w fun e w' => e = .returned (.tuple #[.int .i64 v, .nilIface]) ∧ (w' = w ∨ ∃ t, w' = Lib.bytesWorld w 5 t) := Any.strconv_Atoi_ok Tryd.laysC172 s hmax v h w
def Tryd.lays217_ren : Go.Shelf.Ren := ⟨fun | 217 => 55 | 266 => 66 | n => n, fun | 9 => 9 | 5 => 5 | 3 => 3 | n => n, fun | n => n⟩
def Tryd.lays224_ren : Go.Shelf.Ren := ⟨fun | 224 => 57 | n => n, fun | 3 => 3 | n => n, fun | n => n⟩
def Tryd.lays314_ren : Go.Shelf.Ren := ⟨fun | 314 => 67 | n => n, fun | 9 => 9 | 51 => 100 | 3 => 3 | 4 => 4 | 5 => 5 | 46 => 96 | n => n, fun | n => n⟩
def Tryd.lays267_ren : Go.Shelf.Ren := ⟨fun | 267 => 58 | 314 => 67 | n => n, fun | 9 => 9 | 3 => 3 | 146 => 108 | 51 => 100 | 4 => 4 | 5 => 5 | 46 => 96 | n => n, fun | n => n⟩
def Tryd.lays219_ren : Go.Shelf.Ren := ⟨fun | 219 => 48 | 217 => 55 | 225 => 56 | 224 => 57 | 267 => 58 | 266 => 66 | 314 => 67 | n => n, fun | 9 => 9 | 3 => 3 | 4 => 4 | 5 => 5 | 46 => 96 | 146 => 108 | 51 => 100 | n => n, fun | 1 => 1 | n => n⟩
def Tryd.lays143_ren : Go.Shelf.Ren := ⟨fun | 143 => 39 | 219 => 48 | 217 => 55 | 225 => 56 | 224 => 57 | 267 => 58 | 266 => 66 | 314 => 67 | n => n, fun | 9 => 9 | 3 => 3 | 4 => 4 | 5 => 5 | 46 => 96 | 146 => 108 | 51 => 100 | n => n, fun | 1 => 1 | n => n⟩
def Tryd.lays220_ren : Go.Shelf.Ren := ⟨fun | 220 => 40 | 219 => 48 | 217 => 55 | 225 => 56 | 224 => 57 | 267 => 58 | 266 => 66 | 314 => 67 | n => n, fun | 9 => 9 | 4 => 4 | 3 => 3 | 5 => 5 | 46 => 96 | 146 => 108 | 51 => 100 | n => n, fun | 1 => 1 | n => n⟩
def Tryd.lays145_ren : Go.Shelf.Ren := ⟨fun | 145 => 28 | 220 => 40 | 219 => 48 | 217 => 55 | 225 => 56 | 224 => 57 | 267 => 58 | 266 => 66 | 314 => 67 | n => n, fun | 9 => 9 | 4 => 4 | 59 => 64 | 3 => 3 | 5 => 5 | 46 => 96 | 146 => 108 | 51 => 100 | n => n, fun | 1 => 1 | n => n⟩
theorem Tryd.lays145 : Go.Proofs.Lays.n145 Tryd.prog Tryd.lays145_ren := {
  mixed := by kernel_rfl
  f145 := Tryd.func28.trans (congrArg some (by kernel_rfl))
  f217 := Tryd.func55.trans (congrArg some (by kernel_rfl))
  f219 := Tryd.func48.trans (congrArg some (by kernel_rfl))
  f220 := Tryd.func40.trans (congrArg some (by kernel_rfl))
  f224 := Tryd.func57.trans (congrArg some (by kernel_rfl))
  f225 := Tryd.func56.trans (congrArg some (by kernel_rfl))
  f266 := Tryd.func66.trans (congrArg some (by kernel_rfl))
  f267 := Tryd.func58.trans (congrArg some (by kernel_rfl))
  f314 := Tryd.func67.trans (congrArg some (by kernel_rfl))
  t3 := Tryd.underlying3
  a3 := Tryd.isAgg3
  z3 := Tryd.sizeOf3
  v3 := Tryd.zeroValue3
  t4 := Tryd.underlying4
  a4 := Tryd.isAgg4
  z4 := Tryd.sizeOf4
  v4 := Tryd.zeroValue4
  t5 := Tryd.underlying5
  a5 := Tryd.isAgg5
  z5 := Tryd.sizeOf5
  v5 := Tryd.zeroValue5
  t9 := Tryd.underlying9
  a9 := Tryd.isAgg9
  z9 := Tryd.sizeOf9
  v9 := Tryd.zeroValue9
  t46 := Tryd.underlying96
  a46 := Tryd.isAgg96
  z46 := Tryd.sizeOf96
  v46 := Tryd.zeroValue96
  t51 := Tryd.underlying100
  a51 := Tryd.isAgg100
  z51 := Tryd.sizeOf100
  v51 := Tryd.zeroValue100
  t59 := Tryd.underlying64
  a59 := Tryd.isAgg64
  z59 := Tryd.sizeOf64
  v59 := Tryd.zeroValue64
  t146 := Tryd.underlying108
  a146 := Tryd.isAgg108
  z146 := Tryd.sizeOf108
  v146 := Tryd.zeroValue108
  g1 := by kernel_rfl }
open Go.RowKit Go.Lib in
theorem Tryd.strings_Cut (s sep : ByteArray) (m : Int) (w : World) (hs : s.size < 4294967281) (hm : w.cell? ⟨1, 0, none⟩ = some (.int .i64 m)) :
    Calls Tryd.prog 28 #[.string s, .string sep] w fun e w' => e = .returned (.tuple #[.string ⟨(Lib.cut s.data.toList sep.data.toList).1.toArray⟩, .string ⟨(Lib.cut s.data.toList sep.data.toList).2.1.toArray⟩, .bool (Lib.cut s.data.toList sep.data.toList).2.2]) ∧ ∃ n, w' = w.drewN n := Any.strings_Cut Tryd.lays145 s sep m w hs hm
def Tryd.lays138_ren : Go.Shelf.Ren := ⟨fun | 138 => 38 | 195 => 45 | 218 => 47 | 143 => 39 | 219 => 48 | 217 => 55 | 225 => 56 | 224 => 57 | 267 => 58 | 266 => 66 | 314 => 67 | n => n, fun | 9 => 9 | 3 => 3 | 4 => 4 | 5 => 5 | 0 => 0 | 46 => 96 | 146 => 108 | 51 => 100 | n => n, fun | 1 => 1 | n => n⟩
def Tryd.laysM219_ren : Go.Shelf.Ren := ⟨fun | 219 => 48 | 217 => 55 | 225 => 56 | 224 => 57 | 267 => 58 | 266 => 66 | 314 => 67 | n => n, fun | 9 => 9 | 3 => 3 | 4 => 4 | 5 => 5 | 46 => 96 | 146 => 108 | 51 => 100 | n => n, fun | 1 => 1 | n => n⟩
def Tryd.laysM143_ren : Go.Shelf.Ren := ⟨fun | 143 => 39 | 219 => 48 | 217 => 55 | 225 => 56 | 224 => 57 | 267 => 58 | 266 => 66 | 314 => 67 | n => n, fun | 9 => 9 | 3 => 3 | 4 => 4 | 5 => 5 | 46 => 96 | 146 => 108 | 51 => 100 | n => n, fun | 1 => 1 | n => n⟩
def Tryd.laysM220_ren : Go.Shelf.Ren := ⟨fun | 220 => 40 | 219 => 48 | 217 => 55 | 225 => 56 | 224 => 57 | 267 => 58 | 266 => 66 | 314 => 67 | n => n, fun | 9 => 9 | 4 => 4 | 3 => 3 | 5 => 5 | 46 => 96 | 146 => 108 | 51 => 100 | n => n, fun | 1 => 1 | n => n⟩
def Tryd.laysM145_ren : Go.Shelf.Ren := ⟨fun | 145 => 28 | 220 => 40 | 219 => 48 | 217 => 55 | 225 => 56 | 224 => 57 | 267 => 58 | 266 => 66 | 314 => 67 | n => n, fun | 9 => 9 | 4 => 4 | 59 => 64 | 3 => 3 | 5 => 5 | 46 => 96 | 146 => 108 | 51 => 100 | n => n, fun | 1 => 1 | n => n⟩
def Tryd.laysM138_ren : Go.Shelf.Ren := ⟨fun | 138 => 38 | 195 => 45 | 218 => 47 | 143 => 39 | 219 => 48 | 217 => 55 | 225 => 56 | 224 => 57 | 267 => 58 | 266 => 66 | 314 => 67 | n => n, fun | 9 => 9 | 3 => 3 | 4 => 4 | 5 => 5 | 0 => 0 | 46 => 96 | 146 => 108 | 51 => 100 | n => n, fun | 1 => 1 | n => n⟩
def Tryd.lays206_ren : Go.Shelf.Ren := ⟨fun | 206 => 41 | n => n, fun | 9 => 9 | 4 => 4 | 3 => 3 | n => n, fun | n => n⟩
def Tryd.lays99_ren : Go.Shelf.Ren := ⟨fun | 99 => 31 | 206 => 41 | n => n, fun | 9 => 9 | 4 => 4 | 3 => 3 | n => n, fun | n => n⟩
theorem Tryd.lays99 : Go.Proofs.Lays.n99 Tryd.prog Tryd.lays99_ren := {
  mixed := by kernel_rfl
  f99 := Tryd.func31.trans (congrArg some (by kernel_rfl))
  f206 := Tryd.func41.trans (congrArg some (by kernel_rfl))
  t3 := Tryd.underlying3
  a3 := Tryd.isAgg3
  z3 := Tryd.sizeOf3
  v3 := Tryd.zeroValue3
  t4 := Tryd.underlying4
  a4 := Tryd.isAgg4
  z4 := Tryd.sizeOf4
  v4 := Tryd.zeroValue4
  t9 := Tryd.underlying9
  a9 := Tryd.isAgg9
  z9 := Tryd.sizeOf9
  v9 := Tryd.zeroValue9 }
open Go.RowKit Go.Lib in
theorem Tryd.strings_HasPrefix (s p : ByteArray) (w : World) :
    Calls Tryd.prog 31 #[.string s, .string p] w fun e w' => e = .returned (.bool (Lib.hasPrefix s.data.toList p.data.toList)) ∧ w' = w := Any.strings_HasPrefix Tryd.lays99 s p w
def Tryd.lays221_ren : Go.Shelf.Ren := ⟨fun | 221 => 27 | 268 => 37 | 138 => 38 | 143 => 39 | 195 => 45 | 197 => 46 | 218 => 47 | 219 => 48 | 260 => 54 | 217 => 55 | 225 => 56 | 224 => 57 | 267 => 58 | 266 => 66 | 314 => 67 | n => n, fun | 9 => 9 | 3 => 3 | 31 => 40 | 4 => 4 | 0 => 0 | 105 => 87 | 21 => 21 | 5 => 5 | 46 => 96 | 119 => 104 | 139 => 107 | 138 => 106 | 146 => 108 | 51 => 100 | n => n, fun | 1 => 1 | 3 => 3 | 4 => 4 | n => n⟩
def Tryd.lays146_ren : Go.Shelf.Ren := ⟨fun | 146 => 13 | 221 => 27 | 268 => 37 | 138 => 38 | 143 => 39 | 195 => 45 | 197 => 46 | 218 => 47 | 219 => 48 | 260 => 54 | 217 => 55 | 225 => 56 | 224 => 57 | 267 => 58 | 266 => 66 | 314 => 67 | n => n, fun | 9 => 9 | 31 => 40 | 3 => 3 | 4 => 4 | 0 => 0 | 105 => 87 | 21 => 21 | 5 => 5 | 46 => 96 | 119 => 104 | 139 => 107 | 138 => 106 | 146 => 108 | 51 => 100 | n => n, fun | 1 => 1 | 3 => 3 | 4 => 4 | n => n⟩
theorem Tryd.lays146 : Go.Proofs.Lays.n146 Tryd.prog Tryd.lays146_ren := {
  mixed := by kernel_rfl
  f138 := Tryd.func38.trans (congrArg some (by kernel_rfl))
  f143 := Tryd.func39.trans (congrArg some (by kernel_rfl))
  f146 := Tryd.func13.trans (congrArg some (by kernel_rfl))
  f195 := Tryd.func45.trans (congrArg some (by kernel_rfl))
  f197 := Tryd.func46.trans (congrArg some (by kernel_rfl))
  f217 := Tryd.func55.trans (congrArg some (by kernel_rfl))
  f218 := Tryd.func47.trans (congrArg some (by kernel_rfl))
  f219 := Tryd.func48.trans (congrArg some (by kernel_rfl))
  f221 := Tryd.func27.trans (congrArg some (by kernel_rfl))
  f224 := Tryd.func57.trans (congrArg some (by kernel_rfl))
  f225 := Tryd.func56.trans (congrArg some (by kernel_rfl))
  f260 := Tryd.func54.trans (congrArg some (by kernel_rfl))
  f266 := Tryd.func66.trans (congrArg some (by kernel_rfl))
  f267 := Tryd.func58.trans (congrArg some (by kernel_rfl))
  f268 := Tryd.func37.trans (congrArg some (by kernel_rfl))
  f314 := Tryd.func67.trans (congrArg some (by kernel_rfl))
  t0 := Tryd.underlying0
  a0 := Tryd.isAgg0
  z0 := Tryd.sizeOf0
  v0 := Tryd.zeroValue0
  t3 := Tryd.underlying3
  a3 := Tryd.isAgg3
  z3 := Tryd.sizeOf3
  v3 := Tryd.zeroValue3
  t4 := Tryd.underlying4
  a4 := Tryd.isAgg4
  z4 := Tryd.sizeOf4
  v4 := Tryd.zeroValue4
  t5 := Tryd.underlying5
  a5 := Tryd.isAgg5
  z5 := Tryd.sizeOf5
  v5 := Tryd.zeroValue5
  t9 := Tryd.underlying9
  a9 := Tryd.isAgg9
  z9 := Tryd.sizeOf9
  v9 := Tryd.zeroValue9
  t21 := Tryd.underlying21
  a21 := Tryd.isAgg21
  z21 := Tryd.sizeOf21
  v21 := Tryd.zeroValue21
  t31 := Tryd.underlying40
  a31 := Tryd.isAgg40
  z31 := Tryd.sizeOf40
  v31 := Tryd.zeroValue40
  t46 := Tryd.underlying96
  a46 := Tryd.isAgg96
  z46 := Tryd.sizeOf96
  v46 := Tryd.zeroValue96
  t51 := Tryd.underlying100
  a51 := Tryd.isAgg100
  z51 := Tryd.sizeOf100
  v51 := Tryd.zeroValue100
  t105 := Tryd.underlying87
  a105 := Tryd.isAgg87
  z105 := Tryd.sizeOf87
  v105 := Tryd.zeroValue87
  t119 := Tryd.underlying104
  a119 := Tryd.isAgg104
  z119 := Tryd.sizeOf104
  t138 := Tryd.underlying106
  a138 := Tryd.isAgg106
  z138 := Tryd.sizeOf106
  v138 := Tryd.zeroValue106
  t139 := Tryd.underlying107
  a139 := Tryd.isAgg107
  z139 := Tryd.sizeOf107
  v139 := Tryd.zeroValue107
  t146 := Tryd.underlying108
  a146 := Tryd.isAgg108
  z146 := Tryd.sizeOf108
  v146 := Tryd.zeroValue108
  g1 := by kernel_rfl
  g3 := by kernel_rfl
  g4 := by kernel_rfl }
open Go.RowKit Go.Lib in
theorem Tryd.strings_Split (s sep : ByteArray) (m : Int) (w : World) (hs : s.size < 4294967281) (hm : w.cell? ⟨1, 0, none⟩ = some (.int .i64 m)) (h1 : 1 ≤ sep.size) :
    Calls Tryd.prog 13 #[.string s, .string sep] w fun e w' =>
      e = .returned (.slice (some ⟨w.heap.size, 0, none⟩) (Lib.countB s sep + 1) (Lib.countB s sep + 1)) ∧ w' = w.alloc (.cells ((Lib.splitB sep 0 (Lib.countB s sep) s).map Value.string).toArray 9) := Any.strings_Split Tryd.lays146 (by kernel_rfl) s sep m w hs hm h1
def Tryd.lays260_ren : Go.Shelf.Ren := ⟨fun | 260 => 54 | n => n, fun | 9 => 9 | 21 => 21 | 3 => 3 | 4 => 4 | 5 => 5 | 119 => 104 | 0 => 0 | 46 => 96 | 139 => 107 | 138 => 106 | n => n, fun | 3 => 3 | 4 => 4 | n => n⟩
def Tryd.lays197_ren : Go.Shelf.Ren := ⟨fun | 197 => 46 | 260 => 54 | n => n, fun | 9 => 9 | 21 => 21 | 3 => 3 | 4 => 4 | 5 => 5 | 105 => 87 | 119 => 104 | 0 => 0 | 46 => 96 | 139 => 107 | 138 => 106 | n => n, fun | 3 => 3 | 4 => 4 | n => n⟩
def Tryd.lays229_ren : Go.Shelf.Ren := ⟨fun | 229 => 29 | n => n, fun | 9 => 9 | 40 => 67 | 31 => 40 | 152 => 79 | 3 => 3 | 0 => 0 | 4 => 4 | 21 => 21 | 154 => 81 | n => n, fun | n => n⟩
end Go.Proofs
