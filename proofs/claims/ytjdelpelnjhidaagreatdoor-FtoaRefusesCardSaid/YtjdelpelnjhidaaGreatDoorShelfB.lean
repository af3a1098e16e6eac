/-
  DERIVED: THE SHELF's CONTRACTS AT THIS DUMP, IN PLAIN WORDS (tools/lay-plain.mjs out of 'YtjdelpelnjhidaaGreatDoorShelfB0.lean', which tools/lay-shelf.mjs wrote): THE SAME DECLARATIONS UNDER THE SAME NAMES: 'import', 'namespace', 'open', 'def', 'theorem' AND NOTHING ELSE: no command of the shelf's: FOR A HAND-IN. Each laying: the table of numbers ('.._ren') and one theorem, a field a fact of the dump's own or the kernel's comparison; each contract: ONE APPLICATION.
-/
import Derived.Shelf.Strings.Trim
import Derived.Test.YtjdelpelnjhidaaGreatDoorProg
namespace Go.Proofs
open Go.Shelf
def Tryz.lays161_ren : Go.Shelf.Ren := ⟨fun | 161 => 30 | 231 => 43 | 227 => 44 | 233 => 45 | 235 => 46 | 228 => 60 | 197 => 61 | 151 => 62 | 260 => 79 | 152 => 80 | 137 => 90 | 119 => 91 | 224 => 92 | 225 => 93 | 217 => 109 | 266 => 128 | n => n, fun | 9 => 9 | 4 => 4 | 3 => 3 | 5 => 5 | 117 => 79 | 116 => 78 | 0 => 0 | 124 => 82 | 105 => 93 | 21 => 21 | 119 => 120 | 46 => 44 | 139 => 123 | 138 => 122 | n => n, fun | 3 => 2 | 4 => 3 | n => n⟩
theorem Tryz.lays161 : Go.Proofs.Lays.n161 Tryz.prog Tryz.lays161_ren := {
  mixed := by kernel_rfl
  f119 := Tryz.func91.trans (congrArg some (by kernel_rfl))
  f137 := Tryz.func90.trans (congrArg some (by kernel_rfl))
  f151 := Tryz.func62.trans (congrArg some (by kernel_rfl))
  f152 := Tryz.func80.trans (congrArg some (by kernel_rfl))
  f161 := Tryz.func30.trans (congrArg some (by kernel_rfl))
  f197 := Tryz.func61.trans (congrArg some (by kernel_rfl))
  f217 := Tryz.func109.trans (congrArg some (by kernel_rfl))
  f224 := Tryz.func92.trans (congrArg some (by kernel_rfl))
  f225 := Tryz.func93.trans (congrArg some (by kernel_rfl))
  f227 := Tryz.func44.trans (congrArg some (by kernel_rfl))
  f228 := Tryz.func60.trans (congrArg some (by kernel_rfl))
  f231 := Tryz.func43.trans (congrArg some (by kernel_rfl))
  f233 := Tryz.func45.trans (congrArg some (by kernel_rfl))
  f235 := Tryz.func46.trans (congrArg some (by kernel_rfl))
  f260 := Tryz.func79.trans (congrArg some (by kernel_rfl))
  f266 := Tryz.func128.trans (congrArg some (by kernel_rfl))
  t0 := Tryz.underlying0
  a0 := Tryz.isAgg0
  z0 := Tryz.sizeOf0
  v0 := Tryz.zeroValue0
  t3 := Tryz.underlying3
  a3 := Tryz.isAgg3
  z3 := Tryz.sizeOf3
  v3 := Tryz.zeroValue3
  t4 := Tryz.underlying4
  a4 := Tryz.isAgg4
  z4 := Tryz.sizeOf4
  v4 := Tryz.zeroValue4
  t5 := Tryz.underlying5
  a5 := Tryz.isAgg5
  z5 := Tryz.sizeOf5
  v5 := Tryz.zeroValue5
  t9 := Tryz.underlying9
  a9 := Tryz.isAgg9
  z9 := Tryz.sizeOf9
  v9 := Tryz.zeroValue9
  t21 := Tryz.underlying21
  a21 := Tryz.isAgg21
  z21 := Tryz.sizeOf21
  v21 := Tryz.zeroValue21
  t46 := Tryz.underlying44
  a46 := Tryz.isAgg44
  z46 := Tryz.sizeOf44
  v46 := Tryz.zeroValue44
  t105 := Tryz.underlying93
  a105 := Tryz.isAgg93
  z105 := Tryz.sizeOf93
  v105 := Tryz.zeroValue93
  t116 := Tryz.underlying78
  a116 := Tryz.isAgg78
  z116 := Tryz.sizeOf78
  t117 := Tryz.underlying79
  a117 := Tryz.isAgg79
  z117 := Tryz.sizeOf79
  v117 := Tryz.zeroValue79
  t119 := Tryz.underlying120
  a119 := Tryz.isAgg120
  z119 := Tryz.sizeOf120
  t124 := Tryz.underlying82
  a124 := Tryz.isAgg82
  z124 := Tryz.sizeOf82
  v124 := Tryz.zeroValue82
  t138 := Tryz.underlying122
  a138 := Tryz.isAgg122
  z138 := Tryz.sizeOf122
  v138 := Tryz.zeroValue122
  t139 := Tryz.underlying123
  a139 := Tryz.isAgg123
  z139 := Tryz.sizeOf123
  v139 := Tryz.zeroValue123
  g3 := by kernel_rfl
  g4 := by kernel_rfl }
open Go.RowKit in
/-- strings.TrimLeft: "TrimLeft returns a slice of the string s with all leading Unicode code points contained in cutset removed.": AT A cutset OF ONE ASCII BYTE. The world is as it was. (LAID: no walk: one application.) -/
theorem Tryz.strings_TrimLeft_one (s : ByteArray) (c : UInt8) (hc : c.toNat < 128) (w : World) :
    Calls Tryz.prog 30 #[.string s, .string ⟨#[c]⟩] w fun e w' => e = .returned (.string ⟨(Lib.trimLeftB s.data.toList c).toArray⟩) ∧ w' = w := Any.strings_TrimLeft_one Tryz.lays161 s c hc w
end Go.Proofs
