/-
  DERIVED: THE SHELF's CONTRACTS AT THIS DUMP, IN PLAIN WORDS (tools/lay-plain.mjs out of 'TryzShelf.lean', which tools/lay-shelf.mjs wrote): THE SAME DECLARATIONS UNDER THE SAME NAMES: 'import', 'namespace', 'open', 'def', 'theorem' AND NOTHING ELSE: no command of the shelf's: FOR A HAND-IN. Each laying: the table of numbers ('.._ren') and one theorem, a field a fact of the dump's own or the kernel's comparison; each contract: ONE APPLICATION.
-/
import Derived.Shelf.SlSortCmp.SmallK
import Derived.Shelf.Small.Bits
import Derived.Shelf.Spec.BitsCarry
import Derived.Ground.SlsfProg
import Derived.Ground.NamesProg
import Derived.Ground.Names7Prog
import Derived.Test.YtbkegflipglioaaGreatProg
namespace Go.Proofs
open Go.Shelf
def Tryz.sortRegion_ren : Go.Shelf.Ren := ⟨fun | 6 => 163 | 15 => 174 | 14 => 173 | 28 => 184 | 29 => 185 | 20 => 176 | 21 => 177 | 22 => 178 | 23 => 179 | 24 => 180 | 25 => 181 | 26 => 182 | 27 => 183 | 46 => 186 | 47 => 187 | 48 => 188 | 49 => 189 | 50 => 190 | 57 => 191 | n => n, fun | 22 => 247 | 24 => 212 | 25 => 266 | 3 => 3 | 39 => 174 | 0 => 0 | 53 => 22 | 55 => 23 | 4 => 4 | 46 => 277 | 45 => 276 | 50 => 281 | 5 => 5 | 9 => 9 | 66 => 285 | 70 => 288 | 76 => 290 | 77 => 291 | n => n, fun | n => n⟩
theorem Tryz.sortRegion : Go.Proofs.SlLaysF0.n6 Tryz.prog Tryz.sortRegion_ren := {
  mixed := by kernel_rfl
  f6 := ⟨Tryz.f163.name, by decide, Tryz.func163.trans (congrArg some (by kernel_rfl))⟩
  f14 := ⟨Tryz.f173.name, by decide, Tryz.func173.trans (congrArg some (by kernel_rfl))⟩
  f15 := Tryz.func174.trans (congrArg some (by kernel_rfl))
  f20 := ⟨Tryz.f176.name, by decide, Tryz.func176.trans (congrArg some (by kernel_rfl))⟩
  f21 := ⟨Tryz.f177.name, by decide, Tryz.func177.trans (congrArg some (by kernel_rfl))⟩
  f22 := ⟨Tryz.f178.name, by decide, Tryz.func178.trans (congrArg some (by kernel_rfl))⟩
  f23 := ⟨Tryz.f179.name, by decide, Tryz.func179.trans (congrArg some (by kernel_rfl))⟩
  f24 := ⟨Tryz.f180.name, by decide, Tryz.func180.trans (congrArg some (by kernel_rfl))⟩
  f25 := ⟨Tryz.f181.name, by decide, Tryz.func181.trans (congrArg some (by kernel_rfl))⟩
  f26 := ⟨Tryz.f182.name, by decide, Tryz.func182.trans (congrArg some (by kernel_rfl))⟩
  f27 := ⟨Tryz.f183.name, by decide, Tryz.func183.trans (congrArg some (by kernel_rfl))⟩
  f28 := Tryz.func184.trans (congrArg some (by kernel_rfl))
  f29 := Tryz.func185.trans (congrArg some (by kernel_rfl))
  f46 := ⟨Tryz.f186.name, by decide, Tryz.func186.trans (congrArg some (by kernel_rfl))⟩
  f47 := Tryz.func187.trans (congrArg some (by kernel_rfl))
  f48 := Tryz.func188.trans (congrArg some (by kernel_rfl))
  f49 := ⟨Tryz.f189.name, by decide, Tryz.func189.trans (congrArg some (by kernel_rfl))⟩
  f50 := ⟨Tryz.f190.name, by decide, Tryz.func190.trans (congrArg some (by kernel_rfl))⟩
  f57 := ⟨Tryz.f191.name, by decide, Tryz.func191.trans (congrArg some (by kernel_rfl))⟩
  t0 := Tryz.underlying0
  a0 := Tryz.isAgg0
  z0 := Tryz.sizeOf0
  v0 := Tryz.zeroValue0
  t3 := Tryz.underlying3
  a3 := Tryz.isAgg3
  z3 := Tryz.sizeOf3
  v3 := Tryz.zeroValue3
  t4 := Tryz.underlying4
  a4 := Tryz.isAgg4
  z4 := Tryz.sizeOf4
  v4 := Tryz.zeroValue4
  t5 := Tryz.underlying5
  a5 := Tryz.isAgg5
  z5 := Tryz.sizeOf5
  v5 := Tryz.zeroValue5
  t9 := Tryz.underlying9
  a9 := Tryz.isAgg9
  z9 := Tryz.sizeOf9
  v9 := Tryz.zeroValue9
  t22 := Tryz.underlying247
  a22 := Tryz.isAgg247
  z22 := Tryz.sizeOf247
  v22 := Tryz.zeroValue247
  t25 := Tryz.underlying266
  a25 := Tryz.isAgg266
  z25 := Tryz.sizeOf266
  v25 := Tryz.zeroValue266
  t39 := Tryz.underlying174
  a39 := Tryz.isAgg174
  z39 := Tryz.sizeOf174
  v39 := Tryz.zeroValue174
  t45 := Tryz.underlying276
  a45 := Tryz.isAgg276
  z45 := Tryz.sizeOf276
  v45 := Tryz.zeroValue276
  t46 := Tryz.underlying277
  a46 := Tryz.isAgg277
  z46 := Tryz.sizeOf277
  v46 := Tryz.zeroValue277
  t50 := Tryz.underlying281
  a50 := Tryz.isAgg281
  z50 := Tryz.sizeOf281
  v50 := Tryz.zeroValue281
  t53 := Tryz.underlying22
  a53 := Tryz.isAgg22
  z53 := Tryz.sizeOf22
  v53 := Tryz.zeroValue22
  t55 := Tryz.underlying23
  a55 := Tryz.isAgg23
  z55 := Tryz.sizeOf23
  v55 := Tryz.zeroValue23
  t66 := Tryz.underlying285
  a66 := Tryz.isAgg285
  z66 := Tryz.sizeOf285
  v66 := Tryz.zeroValue285
  t70 := Tryz.underlying288
  a70 := Tryz.isAgg288
  z70 := Tryz.sizeOf288
  v70 := Tryz.zeroValue288
  t76 := Tryz.underlying290
  a76 := Tryz.isAgg290
  z76 := Tryz.sizeOf290
  v76 := Tryz.zeroValue290
  t77 := Tryz.underlying291
  a77 := Tryz.isAgg291
  z77 := Tryz.sizeOf291
  v77 := Tryz.zeroValue291 }
def Tryz.lays125_ren : Go.Shelf.Ren := ⟨fun | 125 => 174 | 128 => 184 | 129 => 185 | n => n, fun | 46 => 174 | 3 => 3 | 51 => 22 | 53 => 23 | 4 => 4 | 5 => 5 | 9 => 9 | n => n, fun | n => n⟩
theorem Tryz.lays125 : Go.Proofs.Lays.n125 Tryz.prog Tryz.lays125_ren := {
  mixed := by kernel_rfl
  f125 := Tryz.func174.trans (congrArg some (by kernel_rfl))
  f128 := Tryz.func184.trans (congrArg some (by kernel_rfl))
  f129 := Tryz.func185.trans (congrArg some (by kernel_rfl))
  t3 := Tryz.underlying3
  a3 := Tryz.isAgg3
  z3 := Tryz.sizeOf3
  v3 := Tryz.zeroValue3
  t4 := Tryz.underlying4
  a4 := Tryz.isAgg4
  z4 := Tryz.sizeOf4
  v4 := Tryz.zeroValue4
  t5 := Tryz.underlying5
  a5 := Tryz.isAgg5
  z5 := Tryz.sizeOf5
  v5 := Tryz.zeroValue5
  t9 := Tryz.underlying9
  a9 := Tryz.isAgg9
  z9 := Tryz.sizeOf9
  v9 := Tryz.zeroValue9
  t46 := Tryz.underlying174
  a46 := Tryz.isAgg174
  z46 := Tryz.sizeOf174
  v46 := Tryz.zeroValue174
  t51 := Tryz.underlying22
  a51 := Tryz.isAgg22
  z51 := Tryz.sizeOf22
  v51 := Tryz.zeroValue22
  t53 := Tryz.underlying23
  a53 := Tryz.isAgg23
  z53 := Tryz.sizeOf23
  v53 := Tryz.zeroValue23 }
def Tryz.lays25_ren : Go.Shelf.Ren := ⟨fun | 25 => 146 | n => n, fun | 22 => 23 | n => n, fun | n => n⟩
theorem Tryz.lays25 : Go.Proofs.Lays7.n25 Tryz.prog Tryz.lays25_ren := {
  mixed := by kernel_rfl
  f25 := Tryz.func146.trans (congrArg some (by kernel_rfl))
  t22 := Tryz.underlying23
  a22 := Tryz.isAgg23
  z22 := Tryz.sizeOf23
  v22 := Tryz.zeroValue23
  i22 := by kernel_rfl }
end Go.Proofs
