/- The shelf's contracts that name strconv's table. -/
import Derived.Test.YtjjigngighneeaaDoorShelf
import Derived.Shelf.Strconv.Itoa4
namespace Go.Proofs
open Go.Lib in
/-- internal/strconv.numDigits, at a d that is not 0: THE NUMBER OF d's DECIMAL DIGITS. The world is as it was. (LAID: no walk: one application.) -/
theorem Tryd.internal_strconv_numDigits (u : Nat) (h1 : 1 ≤ u) (h2 : u < 18446744073709551616) (w : World) (htab : Lib.TabIs Tryd.prog w "internal/strconv.uint64pow10" .u64 Lib.pow10Tab) :
    Calls Tryd.prog 84 #[.int .u64 u] w fun e w' => e = .returned (.int .i64 (Lib.nDigits u)) ∧ w' = w := Any.internal_strconv_numDigits Tryd.laysM284 u h1 h2 w htab
open Go.RowKit Go.Sort Go.Lib in
/-- internal/strconv.FormatInt: "FormatInt returns the string representation of i in the given base": AT BASE 10: i's decimal numeral, for every int64. The world behind the call: the world before it, new blocks behind the heap, draws. (LAID: no walk: one application.) -/
theorem Tryd.internal_strconv_FormatInt_10 (n : Int) (h0 : -9223372036854775808 ≤ n) (h1 : n ≤ 9223372036854775807) (w : World) (htab : Lib.TabIs Tryd.prog w "internal/strconv.uint64pow10" .u64 Lib.pow10Tab) :
    Calls Tryd.prog 57 #[.int .i64 n, .int .i64 10] w fun e w' => e = .returned (.string ⟨(Lib.itoa n).toArray⟩) ∧ ∃ k os, w' = grow (w.drewN k) os := Any.internal_strconv_FormatInt_10 Tryd.laysM246 n h0 h1 w htab
open Go.RowKit Go.Sort Go.Lib in
/-- internal/strconv.Itoa: "Itoa is equivalent to FormatInt(int64(i), 10).": i's decimal numeral, for every int. (LAID: no walk: one application.) -/
theorem Tryd.internal_strconv_Itoa (n : Int) (h0 : -9223372036854775808 ≤ n) (h1 : n ≤ 9223372036854775807) (w : World) (htab : Lib.TabIs Tryd.prog w "internal/strconv.uint64pow10" .u64 Lib.pow10Tab) :
    Calls Tryd.prog 56 #[.int .i64 n] w fun e w' => e = .returned (.string ⟨(Lib.itoa n).toArray⟩) ∧ ∃ k os, w' = grow (w.drewN k) os := Any.internal_strconv_Itoa Tryd.laysM243 n h0 h1 w htab
open Go.RowKit Go.Sort Go.Lib in
/-- strconv.Itoa: "Itoa is equivalent to FormatInt(int64(i), 10).": i's DECIMAL NUMERAL ('Lib.itoa': a '-' where i is negative, then the digits), FOR EVERY int. The world behind the call: the world before it, new blocks behind the heap (the library's 'var a [24]byte'), draws. (LAID: no walk: one application.) -/
theorem Tryd.strconv_Itoa (n : Int) (h0 : -9223372036854775808 ≤ n) (h1 : n ≤ 9223372036854775807) (w : World) (htab : Lib.TabIs Tryd.prog w "internal/strconv.uint64pow10" .u64 Lib.pow10Tab) :
    Calls Tryd.prog 35 #[.int .i64 n] w fun e w' => e = .returned (.string ⟨(Lib.itoa n).toArray⟩) ∧ ∃ k os, w' = grow (w.drewN k) os := Any.strconv_Itoa Tryd.laysM171 n h0 h1 w htab
def Tryd.laysM173_ren : Go.Shelf.Ren := ⟨fun | 173 => 36 | 246 => 57 | 283 => 83 | 284 => 84 | 285 => 85 | 286 => 86 | 129 => 113 | 317 => 112 | 318 => 114 | 319 => 115 | 320 => 116 | 337 => 135 | 338 => 136 | n => n, fun | 2 => 2 | 3 => 3 | 9 => 9 | 4 => 4 | 171 => 142 | 0 => 0 | 53 => 143 | 37 => 73 | 5 => 5 | 173 => 146 | 212 => 172 | 51 => 48 | 20 => 20 | 213 => 173 | 46 => 174 | 232 => 193 | 233 => 194 | n => n, fun | 17 => 0 | 18 => 2 | 19 => 3 | n => n⟩
theorem Tryd.laysM173 : Go.Proofs.LaysM.n173 Tryd.prog Tryd.laysM173_ren := {
  mixed := by kernel_rfl
  f129 := Tryd.func113.trans (congrArg some (by kernel_rfl))
  f173 := Tryd.func36.trans (congrArg some (by kernel_rfl))
  f246 := Tryd.func57.trans (congrArg some (by kernel_rfl))
  f283 := Tryd.func83.trans (congrArg some (by kernel_rfl))
  f284 := Tryd.func84.trans (congrArg some (by kernel_rfl))
  f285 := Tryd.func85.trans (congrArg some (by kernel_rfl))
  f286 := Tryd.func86.trans (congrArg some (by kernel_rfl))
  f317 := Tryd.func112.trans (congrArg some (by kernel_rfl))
  f318 := Tryd.func114.trans (congrArg some (by kernel_rfl))
  f319 := Tryd.func115.trans (congrArg some (by kernel_rfl))
  f320 := Tryd.func116.trans (congrArg some (by kernel_rfl))
  f337 := Tryd.func135.trans (congrArg some (by kernel_rfl))
  f338 := Tryd.func136.trans (congrArg some (by kernel_rfl))
  t0 := Tryd.underlying0
  a0 := Tryd.isAgg0
  z0 := Tryd.sizeOf0
  v0 := Tryd.zeroValue0
  t2 := Tryd.underlying2
  a2 := Tryd.isAgg2
  z2 := Tryd.sizeOf2
  v2 := Tryd.zeroValue2
  t3 := Tryd.underlying3
  a3 := Tryd.isAgg3
  z3 := Tryd.sizeOf3
  v3 := Tryd.zeroValue3
  t4 := Tryd.underlying4
  a4 := Tryd.isAgg4
  z4 := Tryd.sizeOf4
  v4 := Tryd.zeroValue4
  t5 := Tryd.underlying5
  a5 := Tryd.isAgg5
  z5 := Tryd.sizeOf5
  v5 := Tryd.zeroValue5
  t9 := Tryd.underlying9
  a9 := Tryd.isAgg9
  z9 := Tryd.sizeOf9
  v9 := Tryd.zeroValue9
  t20 := Tryd.underlying20
  a20 := Tryd.isAgg20
  z20 := Tryd.sizeOf20
  v20 := Tryd.zeroValue20
  t37 := Tryd.underlying73
  a37 := Tryd.isAgg73
  z37 := Tryd.sizeOf73
  v37 := Tryd.zeroValue73
  t46 := Tryd.underlying174
  a46 := Tryd.isAgg174
  z46 := Tryd.sizeOf174
  v46 := Tryd.zeroValue174
  t51 := Tryd.underlying48
  a51 := Tryd.isAgg48
  z51 := Tryd.sizeOf48
  v51 := Tryd.zeroValue48
  t53 := Tryd.underlying143
  a53 := Tryd.isAgg143
  z53 := Tryd.sizeOf143
  v53 := Tryd.zeroValue143
  t171 := Tryd.underlying142
  a171 := Tryd.isAgg142
  z171 := Tryd.sizeOf142
  v171 := Tryd.zeroValue142
  t173 := Tryd.underlying146
  a173 := Tryd.isAgg146
  z173 := Tryd.sizeOf146
  v173 := Tryd.zeroValue146
  t212 := Tryd.underlying172
  a212 := Tryd.isAgg172
  z212 := Tryd.sizeOf172
  v212 := Tryd.zeroValue172
  t213 := Tryd.underlying173
  a213 := Tryd.isAgg173
  z213 := Tryd.sizeOf173
  t232 := Tryd.underlying193
  a232 := Tryd.isAgg193
  z232 := Tryd.sizeOf193
  v232 := Tryd.zeroValue193
  t233 := Tryd.underlying194
  a233 := Tryd.isAgg194
  z233 := Tryd.sizeOf194
  v233 := Tryd.zeroValue194
  g17 := by kernel_rfl
  g18 := by kernel_rfl
  g19 := by kernel_rfl
  i0 := by kernel_rfl
  i2 := by kernel_rfl
  i3 := by kernel_rfl
  i4 := by kernel_rfl
  i5 := by kernel_rfl
  i9 := by kernel_rfl
  i20 := by kernel_rfl
  i37 := by kernel_rfl
  i46 := by kernel_rfl
  i51 := by kernel_rfl
  i53 := by kernel_rfl
  i171 := by kernel_rfl
  i173 := by kernel_rfl
  i212 := by kernel_rfl
  i232 := by kernel_rfl
  i233 := by kernel_rfl
  m17 := by kernel_rfl
  m18 := by kernel_rfl
  m19 := by kernel_rfl }
open Go.RowKit Go.Sort Go.Lib in
/-- strconv.FormatInt: "FormatInt returns the string representation of i in the given base": AT BASE 10: i's decimal numeral, for every int64. (LAID: no walk: one application.) -/
theorem Tryd.strconv_FormatInt_10 (n : Int) (h0 : -9223372036854775808 ≤ n) (h1 : n ≤ 9223372036854775807) (w : World) (htab : Lib.TabIs Tryd.prog w "internal/strconv.uint64pow10" .u64 Lib.pow10Tab) :
    Calls Tryd.prog 36 #[.int .i64 n, .int .i64 10] w fun e w' => e = .returned (.string ⟨(Lib.itoa n).toArray⟩) ∧ ∃ k os, w' = grow (w.drewN k) os := Any.strconv_FormatInt_10 Tryd.laysM173 n h0 h1 w htab
def Tryd.lays173_ren : Go.Shelf.Ren := ⟨fun | 173 => 36 | 246 => 57 | 283 => 83 | 284 => 84 | 285 => 85 | 286 => 86 | 129 => 113 | 317 => 112 | 318 => 114 | 319 => 115 | 320 => 116 | 337 => 135 | 338 => 136 | n => n, fun | 2 => 2 | 3 => 3 | 9 => 9 | 4 => 4 | 171 => 142 | 0 => 0 | 53 => 143 | 37 => 73 | 5 => 5 | 173 => 146 | 212 => 172 | 51 => 48 | 20 => 20 | 213 => 173 | 46 => 174 | 232 => 193 | 233 => 194 | n => n, fun | 17 => 0 | 18 => 2 | 19 => 3 | n => n⟩
theorem Tryd.lays173 : Go.Proofs.Lays.n173 Tryd.prog Tryd.lays173_ren := {
  mixed := by kernel_rfl
  f129 := Tryd.func113.trans (congrArg some (by kernel_rfl))
  f173 := Tryd.func36.trans (congrArg some (by kernel_rfl))
  f246 := Tryd.func57.trans (congrArg some (by kernel_rfl))
  f283 := Tryd.func83.trans (congrArg some (by kernel_rfl))
  f284 := Tryd.func84.trans (congrArg some (by kernel_rfl))
  f285 := Tryd.func85.trans (congrArg some (by kernel_rfl))
  f286 := Tryd.func86.trans (congrArg some (by kernel_rfl))
  f317 := Tryd.func112.trans (congrArg some (by kernel_rfl))
  f318 := Tryd.func114.trans (congrArg some (by kernel_rfl))
  f319 := Tryd.func115.trans (congrArg some (by kernel_rfl))
  f320 := Tryd.func116.trans (congrArg some (by kernel_rfl))
  f337 := Tryd.func135.trans (congrArg some (by kernel_rfl))
  f338 := Tryd.func136.trans (congrArg some (by kernel_rfl))
  t0 := Tryd.underlying0
  a0 := Tryd.isAgg0
  z0 := Tryd.sizeOf0
  v0 := Tryd.zeroValue0
  t2 := Tryd.underlying2
  a2 := Tryd.isAgg2
  z2 := Tryd.sizeOf2
  v2 := Tryd.zeroValue2
  t3 := Tryd.underlying3
  a3 := Tryd.isAgg3
  z3 := Tryd.sizeOf3
  v3 := Tryd.zeroValue3
  t4 := Tryd.underlying4
  a4 := Tryd.isAgg4
  z4 := Tryd.sizeOf4
  v4 := Tryd.zeroValue4
  t5 := Tryd.underlying5
  a5 := Tryd.isAgg5
  z5 := Tryd.sizeOf5
  v5 := Tryd.zeroValue5
  t9 := Tryd.underlying9
  a9 := Tryd.isAgg9
  z9 := Tryd.sizeOf9
  v9 := Tryd.zeroValue9
  t20 := Tryd.underlying20
  a20 := Tryd.isAgg20
  z20 := Tryd.sizeOf20
  v20 := Tryd.zeroValue20
  t37 := Tryd.underlying73
  a37 := Tryd.isAgg73
  z37 := Tryd.sizeOf73
  v37 := Tryd.zeroValue73
  t46 := Tryd.underlying174
  a46 := Tryd.isAgg174
  z46 := Tryd.sizeOf174
  v46 := Tryd.zeroValue174
  t51 := Tryd.underlying48
  a51 := Tryd.isAgg48
  z51 := Tryd.sizeOf48
  v51 := Tryd.zeroValue48
  t53 := Tryd.underlying143
  a53 := Tryd.isAgg143
  z53 := Tryd.sizeOf143
  v53 := Tryd.zeroValue143
  t171 := Tryd.underlying142
  a171 := Tryd.isAgg142
  z171 := Tryd.sizeOf142
  v171 := Tryd.zeroValue142
  t173 := Tryd.underlying146
  a173 := Tryd.isAgg146
  z173 := Tryd.sizeOf146
  v173 := Tryd.zeroValue146
  t212 := Tryd.underlying172
  a212 := Tryd.isAgg172
  z212 := Tryd.sizeOf172
  v212 := Tryd.zeroValue172
  t213 := Tryd.underlying173
  a213 := Tryd.isAgg173
  z213 := Tryd.sizeOf173
  t232 := Tryd.underlying193
  a232 := Tryd.isAgg193
  z232 := Tryd.sizeOf193
  v232 := Tryd.zeroValue193
  t233 := Tryd.underlying194
  a233 := Tryd.isAgg194
  z233 := Tryd.sizeOf194
  v233 := Tryd.zeroValue194
  g17 := by kernel_rfl
  g18 := by kernel_rfl
  g19 := by kernel_rfl }
end Go.Proofs
