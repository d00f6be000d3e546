/-
  DERIVED: THE SHELF's CONTRACTS AT THIS DUMP, IN PLAIN WORDS (tools/lay-plain.mjs out of 'YtfbpiknckjgfnaaGreatDoorShelf0.lean', which tools/lay-shelf.mjs wrote): THE SAME DECLARATIONS UNDER THE SAME NAMES: 'import', 'namespace', 'open', 'def', 'theorem' AND NOTHING ELSE: no command of the shelf's: FOR A HAND-IN. Each laying: the table of numbers ('.._ren') and one theorem, a field a fact of the dump's own or the kernel's comparison; each contract: ONE APPLICATION.
-/
import Derived.Ground.NamesProg
import Derived.Shelf.Small.Strs
import Derived.Shelf.Strings.SlTrimAscii
import Derived.Shelf.Strings.Split
import Derived.Shelf.Strings.Cut
import Derived.Shelf.Strings.Prefix
import Derived.Test.YtfbpiknckjgfnaaGreatDoorProg
namespace Go.Proofs
open Go.Shelf
def Tryz.laysTrim_ren : Go.Shelf.Ren := ⟨fun | 160 => 38 | 232 => 50 | 231 => 49 | 227 => 51 | 234 => 53 | 233 => 52 | 236 => 55 | 235 => 54 | 228 => 67 | 271 => 70 | 151 => 69 | 197 => 68 | 120 => 83 | 152 => 82 | 260 => 81 | 137 => 91 | 119 => 92 | 224 => 63 | 225 => 62 | 217 => 61 | 266 => 74 | n => n, fun | 9 => 9 | 4 => 4 | 3 => 3 | 5 => 5 | 117 => 107 | 116 => 106 | 0 => 0 | 124 => 110 | 21 => 21 | 105 => 117 | 46 => 115 | 119 => 134 | 139 => 137 | 138 => 136 | n => n, fun | 3 => 4 | 4 => 5 | n => n⟩
theorem Tryz.laysTrim : Go.Proofs.Lays.n160 Tryz.prog Tryz.laysTrim_ren := {
  mixed := by kernel_rfl
  f119 := Tryz.func92.trans (congrArg some (by kernel_rfl))
  f120 := Tryz.func83.trans (congrArg some (by kernel_rfl))
  f137 := Tryz.func91.trans (congrArg some (by kernel_rfl))
  f151 := Tryz.func69.trans (congrArg some (by kernel_rfl))
  f152 := Tryz.func82.trans (congrArg some (by kernel_rfl))
  f160 := Tryz.func38.trans (congrArg some (by kernel_rfl))
  f197 := Tryz.func68.trans (congrArg some (by kernel_rfl))
  f217 := Tryz.func61.trans (congrArg some (by kernel_rfl))
  f224 := Tryz.func63.trans (congrArg some (by kernel_rfl))
  f225 := Tryz.func62.trans (congrArg some (by kernel_rfl))
  f227 := Tryz.func51.trans (congrArg some (by kernel_rfl))
  f228 := Tryz.func67.trans (congrArg some (by kernel_rfl))
  f231 := Tryz.func49.trans (congrArg some (by kernel_rfl))
  f232 := Tryz.func50.trans (congrArg some (by kernel_rfl))
  f233 := Tryz.func52.trans (congrArg some (by kernel_rfl))
  f234 := Tryz.func53.trans (congrArg some (by kernel_rfl))
  f235 := Tryz.func54.trans (congrArg some (by kernel_rfl))
  f236 := Tryz.func55.trans (congrArg some (by kernel_rfl))
  f260 := Tryz.func81.trans (congrArg some (by kernel_rfl))
  f266 := Tryz.func74.trans (congrArg some (by kernel_rfl))
  f271 := Tryz.func70.trans (congrArg some (by kernel_rfl))
  t0 := Tryz.underlying0
  a0 := Tryz.isAgg0
  z0 := Tryz.sizeOf0
  v0 := Tryz.zeroValue0
  t3 := Tryz.underlying3
  a3 := Tryz.isAgg3
  z3 := Tryz.sizeOf3
  v3 := Tryz.zeroValue3
  t4 := Tryz.underlying4
  a4 := Tryz.isAgg4
  z4 := Tryz.sizeOf4
  v4 := Tryz.zeroValue4
  t5 := Tryz.underlying5
  a5 := Tryz.isAgg5
  z5 := Tryz.sizeOf5
  v5 := Tryz.zeroValue5
  t9 := Tryz.underlying9
  a9 := Tryz.isAgg9
  z9 := Tryz.sizeOf9
  v9 := Tryz.zeroValue9
  t21 := Tryz.underlying21
  a21 := Tryz.isAgg21
  z21 := Tryz.sizeOf21
  v21 := Tryz.zeroValue21
  t46 := Tryz.underlying115
  a46 := Tryz.isAgg115
  z46 := Tryz.sizeOf115
  v46 := Tryz.zeroValue115
  t105 := Tryz.underlying117
  a105 := Tryz.isAgg117
  z105 := Tryz.sizeOf117
  v105 := Tryz.zeroValue117
  t116 := Tryz.underlying106
  a116 := Tryz.isAgg106
  z116 := Tryz.sizeOf106
  t117 := Tryz.underlying107
  a117 := Tryz.isAgg107
  z117 := Tryz.sizeOf107
  v117 := Tryz.zeroValue107
  t119 := Tryz.underlying134
  a119 := Tryz.isAgg134
  z119 := Tryz.sizeOf134
  t124 := Tryz.underlying110
  a124 := Tryz.isAgg110
  z124 := Tryz.sizeOf110
  v124 := Tryz.zeroValue110
  t138 := Tryz.underlying136
  a138 := Tryz.isAgg136
  z138 := Tryz.sizeOf136
  v138 := Tryz.zeroValue136
  t139 := Tryz.underlying137
  a139 := Tryz.isAgg137
  z139 := Tryz.sizeOf137
  v139 := Tryz.zeroValue137
  g3 := by kernel_rfl
  g4 := by kernel_rfl }
def Tryz.laysIndexByte_ren : Go.Shelf.Ren := ⟨fun | 137 => 91 | 217 => 61 | 266 => 74 | n => n, fun | 9 => 9 | 5 => 5 | 3 => 3 | n => n, fun | n => n⟩
theorem Tryz.laysIndexByte : Go.Proofs.Lays.n137 Tryz.prog Tryz.laysIndexByte_ren := {
  mixed := by kernel_rfl
  f137 := Tryz.func91.trans (congrArg some (by kernel_rfl))
  f217 := Tryz.func61.trans (congrArg some (by kernel_rfl))
  f266 := Tryz.func74.trans (congrArg some (by kernel_rfl))
  t3 := Tryz.underlying3
  a3 := Tryz.isAgg3
  z3 := Tryz.sizeOf3
  v3 := Tryz.zeroValue3
  t5 := Tryz.underlying5
  a5 := Tryz.isAgg5
  z5 := Tryz.sizeOf5
  v5 := Tryz.zeroValue5
  t9 := Tryz.underlying9
  a9 := Tryz.isAgg9
  z9 := Tryz.sizeOf9
  v9 := Tryz.zeroValue9 }
def Tryz.laysCut_ren : Go.Shelf.Ren := ⟨fun | 145 => 25 | 220 => 35 | 219 => 46 | 217 => 61 | 225 => 62 | 224 => 63 | 267 => 64 | 266 => 74 | 314 => 75 | n => n, fun | 9 => 9 | 4 => 4 | 59 => 63 | 3 => 3 | 5 => 5 | 46 => 115 | 146 => 122 | 51 => 121 | n => n, fun | 1 => 1 | n => n⟩
theorem Tryz.laysCut : Go.Proofs.Lays.n145 Tryz.prog Tryz.laysCut_ren := {
  mixed := by kernel_rfl
  f145 := Tryz.func25.trans (congrArg some (by kernel_rfl))
  f217 := Tryz.func61.trans (congrArg some (by kernel_rfl))
  f219 := Tryz.func46.trans (congrArg some (by kernel_rfl))
  f220 := Tryz.func35.trans (congrArg some (by kernel_rfl))
  f224 := Tryz.func63.trans (congrArg some (by kernel_rfl))
  f225 := Tryz.func62.trans (congrArg some (by kernel_rfl))
  f266 := Tryz.func74.trans (congrArg some (by kernel_rfl))
  f267 := Tryz.func64.trans (congrArg some (by kernel_rfl))
  f314 := Tryz.func75.trans (congrArg some (by kernel_rfl))
  t3 := Tryz.underlying3
  a3 := Tryz.isAgg3
  z3 := Tryz.sizeOf3
  v3 := Tryz.zeroValue3
  t4 := Tryz.underlying4
  a4 := Tryz.isAgg4
  z4 := Tryz.sizeOf4
  v4 := Tryz.zeroValue4
  t5 := Tryz.underlying5
  a5 := Tryz.isAgg5
  z5 := Tryz.sizeOf5
  v5 := Tryz.zeroValue5
  t9 := Tryz.underlying9
  a9 := Tryz.isAgg9
  z9 := Tryz.sizeOf9
  v9 := Tryz.zeroValue9
  t46 := Tryz.underlying115
  a46 := Tryz.isAgg115
  z46 := Tryz.sizeOf115
  v46 := Tryz.zeroValue115
  t51 := Tryz.underlying121
  a51 := Tryz.isAgg121
  z51 := Tryz.sizeOf121
  v51 := Tryz.zeroValue121
  t59 := Tryz.underlying63
  a59 := Tryz.isAgg63
  z59 := Tryz.sizeOf63
  v59 := Tryz.zeroValue63
  t146 := Tryz.underlying122
  a146 := Tryz.isAgg122
  z146 := Tryz.sizeOf122
  v146 := Tryz.zeroValue122
  g1 := by kernel_rfl }
def Tryz.laysTrimSuffix_ren : Go.Shelf.Ren := ⟨fun | 102 => 41 | 209 => 58 | 207 => 72 | n => n, fun | 9 => 9 | 4 => 4 | 3 => 3 | n => n, fun | n => n⟩
theorem Tryz.laysTrimSuffix : Go.Proofs.Lays.n102 Tryz.prog Tryz.laysTrimSuffix_ren := {
  mixed := by kernel_rfl
  f102 := Tryz.func41.trans (congrArg some (by kernel_rfl))
  f207 := Tryz.func72.trans (congrArg some (by kernel_rfl))
  f209 := Tryz.func58.trans (congrArg some (by kernel_rfl))
  t3 := Tryz.underlying3
  a3 := Tryz.isAgg3
  z3 := Tryz.sizeOf3
  v3 := Tryz.zeroValue3
  t4 := Tryz.underlying4
  a4 := Tryz.isAgg4
  z4 := Tryz.sizeOf4
  v4 := Tryz.zeroValue4
  t9 := Tryz.underlying9
  a9 := Tryz.isAgg9
  z9 := Tryz.sizeOf9
  v9 := Tryz.zeroValue9 }
end Go.Proofs
