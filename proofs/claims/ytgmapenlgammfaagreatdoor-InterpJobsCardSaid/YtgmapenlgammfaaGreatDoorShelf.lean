/-
  DERIVED: THE SHELF's CONTRACTS AT THIS DUMP, IN PLAIN WORDS (tools/lay-plain.mjs out of 'TryzShelfF.lean', which tools/lay-shelf.mjs wrote): THE SAME DECLARATIONS UNDER THE SAME NAMES: 'import', 'namespace', 'open', 'def', 'theorem' AND NOTHING ELSE: no command of the shelf's: FOR A HAND-IN. Each laying: the table of numbers ('.._ren') and one theorem, a field a fact of the dump's own or the kernel's comparison; each contract: ONE APPLICATION.
-/
import Derived.Shelf.Strings.Fields
import Derived.Test.YtgmapenlgammfaaGreatDoorProg
namespace Go.Proofs
open Go.Shelf
def Tryz.lays157_ren : Go.Shelf.Ren := ⟨fun | 157 => 173 | 229 => 181 | 199 => 182 | 261 => 184 | 311 => 186 | 312 => 187 | n => n, fun | 9 => 9 | 31 => 47 | 3 => 3 | 5 => 5 | 4 => 4 | 119 => 253 | 0 => 0 | 40 => 255 | 152 => 257 | 21 => 21 | 154 => 259 | 51 => 228 | 141 => 261 | 196 => 265 | 193 => 262 | 198 => 267 | 49 => 57 | 194 => 263 | 201 => 270 | 226 => 272 | 46 => 273 | 227 => 274 | n => n, fun | 0 => 0 | 6 => 1 | n => n⟩
theorem Tryz.lays157 : Go.Proofs.Lays.n157 Tryz.prog Tryz.lays157_ren := {
  mixed := by kernel_rfl
  f157 := Tryz.func173.trans (congrArg some (by kernel_rfl))
  f199 := Tryz.func182.trans (congrArg some (by kernel_rfl))
  f229 := Tryz.func181.trans (congrArg some (by kernel_rfl))
  f261 := Tryz.func184.trans (congrArg some (by kernel_rfl))
  f311 := Tryz.func186.trans (congrArg some (by kernel_rfl))
  f312 := Tryz.func187.trans (congrArg some (by kernel_rfl))
  t0 := Tryz.underlying0
  a0 := Tryz.isAgg0
  z0 := Tryz.sizeOf0
  v0 := Tryz.zeroValue0
  t3 := Tryz.underlying3
  a3 := Tryz.isAgg3
  z3 := Tryz.sizeOf3
  v3 := Tryz.zeroValue3
  t4 := Tryz.underlying4
  a4 := Tryz.isAgg4
  z4 := Tryz.sizeOf4
  v4 := Tryz.zeroValue4
  t5 := Tryz.underlying5
  a5 := Tryz.isAgg5
  z5 := Tryz.sizeOf5
  v5 := Tryz.zeroValue5
  t9 := Tryz.underlying9
  a9 := Tryz.isAgg9
  z9 := Tryz.sizeOf9
  v9 := Tryz.zeroValue9
  t21 := Tryz.underlying21
  a21 := Tryz.isAgg21
  z21 := Tryz.sizeOf21
  v21 := Tryz.zeroValue21
  t31 := Tryz.underlying47
  a31 := Tryz.isAgg47
  z31 := Tryz.sizeOf47
  v31 := Tryz.zeroValue47
  t40 := Tryz.underlying255
  a40 := Tryz.isAgg255
  z40 := Tryz.sizeOf255
  v40 := Tryz.zeroValue255
  t46 := Tryz.underlying273
  a46 := Tryz.isAgg273
  z46 := Tryz.sizeOf273
  v46 := Tryz.zeroValue273
  t49 := Tryz.underlying57
  a49 := Tryz.isAgg57
  z49 := Tryz.sizeOf57
  v49 := Tryz.zeroValue57
  t51 := Tryz.underlying228
  a51 := Tryz.isAgg228
  z51 := Tryz.sizeOf228
  v51 := Tryz.zeroValue228
  t119 := Tryz.underlying253
  a119 := Tryz.isAgg253
  z119 := Tryz.sizeOf253
  t141 := Tryz.underlying261
  a141 := Tryz.isAgg261
  z141 := Tryz.sizeOf261
  v141 := Tryz.zeroValue261
  t152 := Tryz.underlying257
  a152 := Tryz.isAgg257
  z152 := Tryz.sizeOf257
  v152 := Tryz.zeroValue257
  t154 := Tryz.underlying259
  a154 := Tryz.isAgg259
  z154 := Tryz.sizeOf259
  v154 := Tryz.zeroValue259
  t193 := Tryz.underlying262
  a193 := Tryz.isAgg262
  z193 := Tryz.sizeOf262
  v193 := Tryz.zeroValue262
  t194 := Tryz.underlying263
  a194 := Tryz.isAgg263
  z194 := Tryz.sizeOf263
  v194 := Tryz.zeroValue263
  t196 := Tryz.underlying265
  a196 := Tryz.isAgg265
  z196 := Tryz.sizeOf265
  v196 := Tryz.zeroValue265
  t198 := Tryz.underlying267
  a198 := Tryz.isAgg267
  z198 := Tryz.sizeOf267
  v198 := Tryz.zeroValue267
  t201 := Tryz.underlying270
  a201 := Tryz.isAgg270
  z201 := Tryz.sizeOf270
  v201 := Tryz.zeroValue270
  t226 := Tryz.underlying272
  a226 := Tryz.isAgg272
  z226 := Tryz.sizeOf272
  v226 := Tryz.zeroValue272
  t227 := Tryz.underlying274
  a227 := Tryz.isAgg274
  z227 := Tryz.sizeOf274
  v227 := Tryz.zeroValue274
  g0 := by kernel_rfl
  g6 := by kernel_rfl }
open Go.RowKit Go.Lib in
/-- strings.Fields, the table by 'Lib.TabIs' (as strings.TrimSpace's contract). 'hg': the table's number, by its name: at a dump 'by kernel_rfl'. (LAID: no walk: one application.) -/
theorem Tryz.strings_Fields (s : ByteArray) (w : World) (hs : s.size < 4294967281) (hascii : ∀ (j : Nat) b, s.data.toList[j]? = some b → b.toNat < 128) (htab : Lib.TabIs Tryz.prog w "strings.asciiSpace" .u8 Lib.asciiSpaceTab) :
    Calls Tryz.prog 173 #[.string s] w fun e w' =>
      e = .returned (.slice (some ⟨w.heap.size, 0, none⟩) (Lib.fields s.data.toList).length (Lib.fields s.data.toList).length) ∧ w' = w.alloc (.cells ((Lib.fields s.data.toList).map fun l => Value.string ⟨l.toArray⟩).toArray 9) := Any.strings_Fields Tryz.lays157 (by kernel_rfl) (by kernel_rfl) s w hs hascii htab
end Go.Proofs
