/-
  DERIVED: THE SHELF's CONTRACTS AT THIS DUMP, IN PLAIN WORDS (tools/lay-plain.mjs out of 'AmKs.lean', which tools/lay-shelf.mjs wrote): THE SAME DECLARATIONS UNDER THE SAME NAMES: 'import', 'namespace', 'open', 'def', 'theorem' AND NOTHING ELSE: no command of the shelf's: FOR A HAND-IN. Each laying: the table of numbers ('.._ren') and one theorem, a field a fact of the dump's own or the kernel's comparison; each contract: ONE APPLICATION.
 -/
import Derived.Shelf.SortM.Plain
import Derived.Shelf.SortM.SortNone
import Derived.Ground.SlgmProg
import Derived.Test.YtcnafacmpplhbaaProg
namespace Go.Proofs
open Go.Shelf
def Try.sortA_ren : Go.Shelf.Ren := ⟨fun | 5 => 76 | 8 => 98 | 7 => 97 | 19 => 124 | 20 => 125 | 10 => 115 | 11 => 116 | 12 => 117 | 13 => 118 | 14 => 119 | 15 => 120 | 16 => 121 | 17 => 122 | 18 => 123 | 30 => 131 | 31 => 132 | 32 => 133 | 33 => 134 | 34 => 135 | 35 => 114 | 40 => 137 | n => n, fun | 23 => 38 | 25 => 3 | 3 => 3 | 32 => 106 | 22 => 38 | 0 => 0 | 44 => 130 | 46 => 92 | 4 => 4 | 36 => 123 | 35 => 122 | 41 => 72 | 5 => 5 | 9 => 9 | 53 => 139 | 57 => 142 | 63 => 144 | 64 => 94 | n => n, fun | n => n⟩
theorem Try.sortA : Go.Proofs.SlLaysM.n5 Try.prog Try.sortA_ren := {
  mixed := by kernel_rfl
  f5 := ⟨Try.f76.name, by decide, Try.func76.trans (congrArg some (by kernel_rfl))⟩
  f7 := ⟨Try.f97.name, by decide, Try.func97.trans (congrArg some (by kernel_rfl))⟩
  f8 := Try.func98.trans (congrArg some (by kernel_rfl))
  f10 := ⟨Try.f115.name, by decide, Try.func115.trans (congrArg some (by kernel_rfl))⟩
  f11 := ⟨Try.f116.name, by decide, Try.func116.trans (congrArg some (by kernel_rfl))⟩
  f12 := ⟨Try.f117.name, by decide, Try.func117.trans (congrArg some (by kernel_rfl))⟩
  f13 := ⟨Try.f118.name, by decide, Try.func118.trans (congrArg some (by kernel_rfl))⟩
  f14 := ⟨Try.f119.name, by decide, Try.func119.trans (congrArg some (by kernel_rfl))⟩
  f15 := ⟨Try.f120.name, by decide, Try.func120.trans (congrArg some (by kernel_rfl))⟩
  f16 := ⟨Try.f121.name, by decide, Try.func121.trans (congrArg some (by kernel_rfl))⟩
  f17 := ⟨Try.f122.name, by decide, Try.func122.trans (congrArg some (by kernel_rfl))⟩
  f18 := ⟨Try.f123.name, by decide, Try.func123.trans (congrArg some (by kernel_rfl))⟩
  f19 := Try.func124.trans (congrArg some (by kernel_rfl))
  f20 := Try.func125.trans (congrArg some (by kernel_rfl))
  f30 := ⟨Try.f131.name, by decide, Try.func131.trans (congrArg some (by kernel_rfl))⟩
  f31 := Try.func132.trans (congrArg some (by kernel_rfl))
  f32 := Try.func133.trans (congrArg some (by kernel_rfl))
  f33 := ⟨Try.f134.name, by decide, Try.func134.trans (congrArg some (by kernel_rfl))⟩
  f34 := ⟨Try.f135.name, by decide, Try.func135.trans (congrArg some (by kernel_rfl))⟩
  f35 := ⟨Try.f114.name, by decide, Try.func114.trans (congrArg some (by kernel_rfl))⟩
  f40 := ⟨Try.f137.name, by decide, Try.func137.trans (congrArg some (by kernel_rfl))⟩
  t0 := Try.underlying0
  a0 := Try.isAgg0
  z0 := Try.sizeOf0
  v0 := Try.zeroValue0
  t3 := Try.underlying3
  a3 := Try.isAgg3
  z3 := Try.sizeOf3
  v3 := Try.zeroValue3
  t4 := Try.underlying4
  a4 := Try.isAgg4
  z4 := Try.sizeOf4
  v4 := Try.zeroValue4
  t5 := Try.underlying5
  a5 := Try.isAgg5
  z5 := Try.sizeOf5
  v5 := Try.zeroValue5
  t9 := Try.underlying9
  a9 := Try.isAgg9
  z9 := Try.sizeOf9
  v9 := Try.zeroValue9
  t22 := Try.underlying38
  a22 := Try.isAgg38
  z22 := Try.sizeOf38
  v22 := Try.zeroValue38
  t23 := Try.underlying38
  a23 := Try.isAgg38
  z23 := Try.sizeOf38
  v23 := Try.zeroValue38
  t25 := Try.underlying3
  a25 := Try.isAgg3
  z25 := Try.sizeOf3
  v25 := Try.zeroValue3
  t32 := Try.underlying106
  a32 := Try.isAgg106
  z32 := Try.sizeOf106
  v32 := Try.zeroValue106
  t35 := Try.underlying122
  a35 := Try.isAgg122
  z35 := Try.sizeOf122
  v35 := Try.zeroValue122
  t36 := Try.underlying123
  a36 := Try.isAgg123
  z36 := Try.sizeOf123
  v36 := Try.zeroValue123
  t41 := Try.underlying72
  a41 := Try.isAgg72
  z41 := Try.sizeOf72
  v41 := Try.zeroValue72
  t44 := Try.underlying130
  a44 := Try.isAgg130
  z44 := Try.sizeOf130
  v44 := Try.zeroValue130
  t46 := Try.underlying92
  a46 := Try.isAgg92
  z46 := Try.sizeOf92
  v46 := Try.zeroValue92
  t53 := Try.underlying139
  a53 := Try.isAgg139
  z53 := Try.sizeOf139
  v53 := Try.zeroValue139
  t57 := Try.underlying142
  a57 := Try.isAgg142
  z57 := Try.sizeOf142
  v57 := Try.zeroValue142
  t63 := Try.underlying144
  a63 := Try.isAgg144
  z63 := Try.sizeOf144
  v63 := Try.zeroValue144
  t64 := Try.underlying94
  a64 := Try.isAgg94
  z64 := Try.sizeOf94
  v64 := Try.zeroValue94 }
end Go.Proofs
