/- The kit's shelf of library contracts, laid at this seat's translation by its own two tools: the tables of numbers that the proofs name. -/
import Derived.Shelf.Strconv.Itoa0
import Derived.Shelf.Strconv.Itoa1
import Derived.Shelf.LaysM
import Derived.Shelf.Strconv.Itoa2
import Derived.Shelf.Strconv.Itoa3
import Derived.Shelf.Strconv.ParseIntEmpty
import Derived.Shelf.Strconv.Clone
import Derived.Shelf.Strconv.SyntaxError
import Derived.Shelf.LaysC
import Derived.Shelf.Strconv.ToError
import Derived.Shelf.Strconv.Lower
import Derived.Shelf.Strconv.ParseUint10
import Derived.Shelf.Strconv.ParseUint10Empty
import Derived.Shelf.Strconv.ParseUint10Any
import Derived.Shelf.Strconv.ParseInt10
import Derived.Shelf.Strconv.RangeError
import Derived.Shelf.Strconv.ToErrorRange
import Derived.Shelf.Strconv.ParseUintEmpty
import Derived.Shelf.Strconv.ParseUint10b64
import Derived.Shelf.Strconv.ParseUint10b32
import Derived.Shelf.Strconv.ParseUint10b16
import Derived.Shelf.Strconv.ParseUint10b8
import Derived.Shelf.Strconv.ParseUint10At
import Derived.Shelf.Strconv.ParseInt10At64
import Derived.Shelf.Strconv.ParseInt10At32
import Derived.Shelf.Strconv.ParseInt10At16
import Derived.Shelf.Strconv.ParseInt10At8
import Derived.Shelf.Strconv.ParseInt10All
import Derived.Shelf.Strconv.ParseIntPublic10
import Derived.Shelf.Strconv.ErrVarParseInt
import Derived.Test.YtngambelchmihaaDoorProg
namespace Go.Proofs
open Go.Shelf
def Tryd.laysC174_ren : Go.Shelf.Ren := ⟨fun | 174 => 25 | 247 => 27 | 245 => 28 | 287 => 29 | 279 => 30 | 280 => 31 | 281 => 32 | 282 => 33 | 321 => 34 | 322 => 35 | 316 => 36 | 171 => 38 | 205 => 37 | 243 => 39 | 246 => 40 | 283 => 41 | 284 => 42 | 285 => 43 | 286 => 44 | 129 => 46 | 317 => 45 | 318 => 47 | 319 => 48 | 320 => 49 | 337 => 50 | 338 => 51 | n => n, fun | 9 => 9 | 3 => 3 | 2 => 2 | 75 => 41 | 85 => 42 | 4 => 4 | 167 => 45 | 5 => 5 | 53 => 38 | 175 => 46 | 46 => 48 | 168 => 49 | 37 => 39 | 0 => 0 | 210 => 56 | 21 => 21 | 127 => 59 | 145 => 62 | 143 => 60 | 171 => 64 | 173 => 67 | 212 => 71 | 51 => 72 | 20 => 20 | 213 => 73 | 232 => 77 | 233 => 78 | 80 => 79 | n => n, fun | 15 => 0 | 16 => 1 | 17 => 2 | 18 => 3 | 19 => 4 | n => n⟩
theorem Tryd.laysC174 : Go.Proofs.LaysC.n174 Tryd.prog Tryd.laysC174_ren := {
  mixed := by kernel_rfl
  f129 := Tryd.func46.trans (congrArg some (by kernel_rfl))
  f171 := Tryd.func38.trans (congrArg some (by kernel_rfl))
  f174 := Tryd.func25.trans (congrArg some (by kernel_rfl))
  f205 := Tryd.func37.trans (congrArg some (by kernel_rfl))
  f243 := Tryd.func39.trans (congrArg some (by kernel_rfl))
  f245 := Tryd.func28.trans (congrArg some (by kernel_rfl))
  f246 := Tryd.func40.trans (congrArg some (by kernel_rfl))
  f247 := Tryd.func27.trans (congrArg some (by kernel_rfl))
  f279 := Tryd.func30.trans (congrArg some (by kernel_rfl))
  f280 := Tryd.func31.trans (congrArg some (by kernel_rfl))
  f281 := Tryd.func32.trans (congrArg some (by kernel_rfl))
  f282 := Tryd.func33.trans (congrArg some (by kernel_rfl))
  f283 := Tryd.func41.trans (congrArg some (by kernel_rfl))
  f284 := Tryd.func42.trans (congrArg some (by kernel_rfl))
  f285 := Tryd.func43.trans (congrArg some (by kernel_rfl))
  f286 := Tryd.func44.trans (congrArg some (by kernel_rfl))
  f287 := Tryd.func29.trans (congrArg some (by kernel_rfl))
  f316 := Tryd.func36.trans (congrArg some (by kernel_rfl))
  f317 := Tryd.func45.trans (congrArg some (by kernel_rfl))
  f318 := Tryd.func47.trans (congrArg some (by kernel_rfl))
  f319 := Tryd.func48.trans (congrArg some (by kernel_rfl))
  f320 := Tryd.func49.trans (congrArg some (by kernel_rfl))
  f321 := Tryd.func34.trans (congrArg some (by kernel_rfl))
  f322 := Tryd.func35.trans (congrArg some (by kernel_rfl))
  f337 := Tryd.func50.trans (congrArg some (by kernel_rfl))
  f338 := Tryd.func51.trans (congrArg some (by kernel_rfl))
  t0 := Tryd.underlying0
  a0 := Tryd.isAgg0
  z0 := Tryd.sizeOf0
  v0 := Tryd.zeroValue0
  t2 := Tryd.underlying2
  a2 := Tryd.isAgg2
  z2 := Tryd.sizeOf2
  v2 := Tryd.zeroValue2
  t3 := Tryd.underlying3
  a3 := Tryd.isAgg3
  z3 := Tryd.sizeOf3
  v3 := Tryd.zeroValue3
  t4 := Tryd.underlying4
  a4 := Tryd.isAgg4
  z4 := Tryd.sizeOf4
  v4 := Tryd.zeroValue4
  t5 := Tryd.underlying5
  a5 := Tryd.isAgg5
  z5 := Tryd.sizeOf5
  v5 := Tryd.zeroValue5
  t9 := Tryd.underlying9
  a9 := Tryd.isAgg9
  z9 := Tryd.sizeOf9
  v9 := Tryd.zeroValue9
  t20 := Tryd.underlying20
  a20 := Tryd.isAgg20
  z20 := Tryd.sizeOf20
  v20 := Tryd.zeroValue20
  t21 := Tryd.underlying21
  a21 := Tryd.isAgg21
  z21 := Tryd.sizeOf21
  v21 := Tryd.zeroValue21
  t37 := Tryd.underlying39
  a37 := Tryd.isAgg39
  z37 := Tryd.sizeOf39
  v37 := Tryd.zeroValue39
  t46 := Tryd.underlying48
  a46 := Tryd.isAgg48
  z46 := Tryd.sizeOf48
  v46 := Tryd.zeroValue48
  t51 := Tryd.underlying72
  a51 := Tryd.isAgg72
  z51 := Tryd.sizeOf72
  v51 := Tryd.zeroValue72
  t53 := Tryd.underlying38
  a53 := Tryd.isAgg38
  z53 := Tryd.sizeOf38
  v53 := Tryd.zeroValue38
  t75 := Tryd.underlying41
  a75 := Tryd.isAgg41
  z75 := Tryd.sizeOf41
  v75 := Tryd.zeroValue41
  t85 := Tryd.underlying42
  a85 := Tryd.isAgg42
  z85 := Tryd.sizeOf42
  v85 := Tryd.zeroValue42
  t127 := Tryd.underlying59
  a127 := Tryd.isAgg59
  z127 := Tryd.sizeOf59
  v127 := Tryd.zeroValue59
  t143 := Tryd.underlying60
  a143 := Tryd.isAgg60
  z143 := Tryd.sizeOf60
  v143 := Tryd.zeroValue60
  t145 := Tryd.underlying62
  a145 := Tryd.isAgg62
  z145 := Tryd.sizeOf62
  v145 := Tryd.zeroValue62
  t167 := Tryd.underlying45
  a167 := Tryd.isAgg45
  z167 := Tryd.sizeOf45
  v167 := Tryd.zeroValue45
  t168 := Tryd.underlying49
  a168 := Tryd.isAgg49
  z168 := Tryd.sizeOf49
  v168 := Tryd.zeroValue49
  t171 := Tryd.underlying64
  a171 := Tryd.isAgg64
  z171 := Tryd.sizeOf64
  v171 := Tryd.zeroValue64
  t173 := Tryd.underlying67
  a173 := Tryd.isAgg67
  z173 := Tryd.sizeOf67
  v173 := Tryd.zeroValue67
  t175 := Tryd.underlying46
  a175 := Tryd.isAgg46
  z175 := Tryd.sizeOf46
  v175 := Tryd.zeroValue46
  t210 := Tryd.underlying56
  a210 := Tryd.isAgg56
  z210 := Tryd.sizeOf56
  v210 := Tryd.zeroValue56
  t212 := Tryd.underlying71
  a212 := Tryd.isAgg71
  z212 := Tryd.sizeOf71
  v212 := Tryd.zeroValue71
  t213 := Tryd.underlying73
  a213 := Tryd.isAgg73
  z213 := Tryd.sizeOf73
  t232 := Tryd.underlying77
  a232 := Tryd.isAgg77
  z232 := Tryd.sizeOf77
  v232 := Tryd.zeroValue77
  t233 := Tryd.underlying78
  a233 := Tryd.isAgg78
  z233 := Tryd.sizeOf78
  v233 := Tryd.zeroValue78
  g15 := by kernel_rfl
  g16 := by kernel_rfl
  g17 := by kernel_rfl
  g18 := by kernel_rfl
  g19 := by kernel_rfl
  t80 := Tryd.underlying79
  a80 := Tryd.isAgg79
  z80 := Tryd.sizeOf79
  v80 := Tryd.zeroValue79
  i0 := by kernel_rfl
  i2 := by kernel_rfl
  i3 := by kernel_rfl
  i4 := by kernel_rfl
  i5 := by kernel_rfl
  i9 := by kernel_rfl
  i20 := by kernel_rfl
  i21 := by kernel_rfl
  i37 := by kernel_rfl
  i46 := by kernel_rfl
  i51 := by kernel_rfl
  i53 := by kernel_rfl
  i75 := by kernel_rfl
  i80 := by kernel_rfl
  i85 := by kernel_rfl
  i127 := by kernel_rfl
  i143 := by kernel_rfl
  i145 := by kernel_rfl
  i167 := by kernel_rfl
  i168 := by kernel_rfl
  i171 := by kernel_rfl
  i173 := by kernel_rfl
  i175 := by kernel_rfl
  i210 := by kernel_rfl
  i212 := by kernel_rfl
  i232 := by kernel_rfl
  i233 := by kernel_rfl
  m15 := by kernel_rfl
  m16 := by kernel_rfl
  m17 := by kernel_rfl
  m18 := by kernel_rfl
  m19 := by kernel_rfl
  c0 := by kernel_rfl
  c2 := by kernel_rfl
  c3 := by kernel_rfl
  c4 := by kernel_rfl
  c5 := by kernel_rfl
  c9 := by kernel_rfl
  c20 := by kernel_rfl
  c21 := by kernel_rfl
  c37 := by kernel_rfl
  c46 := by kernel_rfl
  c51 := by kernel_rfl
  c53 := by kernel_rfl
  c75 := by kernel_rfl
  c80 := by kernel_rfl
  c85 := by kernel_rfl
  c127 := by kernel_rfl
  c143 := by kernel_rfl
  c145 := by kernel_rfl
  c167 := by kernel_rfl
  c168 := by kernel_rfl
  c171 := by kernel_rfl
  c173 := by kernel_rfl
  c175 := by kernel_rfl
  c210 := by kernel_rfl
  c212 := by kernel_rfl
  c213 := by kernel_rfl
  c232 := by kernel_rfl
  c233 := by kernel_rfl }
end Go.Proofs
