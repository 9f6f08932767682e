/-
  DERIVED: THE SHELF's CONTRACTS AT THIS DUMP, IN PLAIN WORDS (tools/lay-plain.mjs out of 'TrydShelfF.lean', which tools/lay-shelf.mjs wrote): THE SAME DECLARATIONS UNDER THE SAME NAMES: 'import', 'namespace', 'open', 'def', 'theorem' AND NOTHING ELSE: no command of the shelf's: FOR A HAND-IN. Each laying: the table of numbers ('.._ren') and one theorem, a field a fact of the dump's own or the kernel's comparison; each contract: ONE APPLICATION.
-/
import Derived.Shelf.Strings.Fields
import Derived.Test.YtgmapenlgammfaaDoorProg
namespace Go.Proofs
open Go.Shelf
def Tryd.lays157_ren : Go.Shelf.Ren := ⟨fun | 157 => 72 | 229 => 93 | 199 => 94 | 261 => 101 | 311 => 103 | 312 => 104 | n => n, fun | 9 => 9 | 31 => 55 | 3 => 3 | 5 => 5 | 4 => 4 | 119 => 148 | 0 => 0 | 40 => 150 | 152 => 159 | 21 => 21 | 154 => 161 | 51 => 157 | 141 => 163 | 196 => 167 | 193 => 164 | 198 => 170 | 49 => 168 | 194 => 165 | 201 => 173 | 226 => 175 | 46 => 176 | 227 => 177 | n => n, fun | 0 => 0 | 6 => 1 | n => n⟩
theorem Tryd.lays157 : Go.Proofs.Lays.n157 Tryd.prog Tryd.lays157_ren := {
  mixed := by kernel_rfl
  f157 := Tryd.func72.trans (congrArg some (by kernel_rfl))
  f199 := Tryd.func94.trans (congrArg some (by kernel_rfl))
  f229 := Tryd.func93.trans (congrArg some (by kernel_rfl))
  f261 := Tryd.func101.trans (congrArg some (by kernel_rfl))
  f311 := Tryd.func103.trans (congrArg some (by kernel_rfl))
  f312 := Tryd.func104.trans (congrArg some (by kernel_rfl))
  t0 := Tryd.underlying0
  a0 := Tryd.isAgg0
  z0 := Tryd.sizeOf0
  v0 := Tryd.zeroValue0
  t3 := Tryd.underlying3
  a3 := Tryd.isAgg3
  z3 := Tryd.sizeOf3
  v3 := Tryd.zeroValue3
  t4 := Tryd.underlying4
  a4 := Tryd.isAgg4
  z4 := Tryd.sizeOf4
  v4 := Tryd.zeroValue4
  t5 := Tryd.underlying5
  a5 := Tryd.isAgg5
  z5 := Tryd.sizeOf5
  v5 := Tryd.zeroValue5
  t9 := Tryd.underlying9
  a9 := Tryd.isAgg9
  z9 := Tryd.sizeOf9
  v9 := Tryd.zeroValue9
  t21 := Tryd.underlying21
  a21 := Tryd.isAgg21
  z21 := Tryd.sizeOf21
  v21 := Tryd.zeroValue21
  t31 := Tryd.underlying55
  a31 := Tryd.isAgg55
  z31 := Tryd.sizeOf55
  v31 := Tryd.zeroValue55
  t40 := Tryd.underlying150
  a40 := Tryd.isAgg150
  z40 := Tryd.sizeOf150
  v40 := Tryd.zeroValue150
  t46 := Tryd.underlying176
  a46 := Tryd.isAgg176
  z46 := Tryd.sizeOf176
  v46 := Tryd.zeroValue176
  t49 := Tryd.underlying168
  a49 := Tryd.isAgg168
  z49 := Tryd.sizeOf168
  v49 := Tryd.zeroValue168
  t51 := Tryd.underlying157
  a51 := Tryd.isAgg157
  z51 := Tryd.sizeOf157
  v51 := Tryd.zeroValue157
  t119 := Tryd.underlying148
  a119 := Tryd.isAgg148
  z119 := Tryd.sizeOf148
  t141 := Tryd.underlying163
  a141 := Tryd.isAgg163
  z141 := Tryd.sizeOf163
  v141 := Tryd.zeroValue163
  t152 := Tryd.underlying159
  a152 := Tryd.isAgg159
  z152 := Tryd.sizeOf159
  v152 := Tryd.zeroValue159
  t154 := Tryd.underlying161
  a154 := Tryd.isAgg161
  z154 := Tryd.sizeOf161
  v154 := Tryd.zeroValue161
  t193 := Tryd.underlying164
  a193 := Tryd.isAgg164
  z193 := Tryd.sizeOf164
  v193 := Tryd.zeroValue164
  t194 := Tryd.underlying165
  a194 := Tryd.isAgg165
  z194 := Tryd.sizeOf165
  v194 := Tryd.zeroValue165
  t196 := Tryd.underlying167
  a196 := Tryd.isAgg167
  z196 := Tryd.sizeOf167
  v196 := Tryd.zeroValue167
  t198 := Tryd.underlying170
  a198 := Tryd.isAgg170
  z198 := Tryd.sizeOf170
  v198 := Tryd.zeroValue170
  t201 := Tryd.underlying173
  a201 := Tryd.isAgg173
  z201 := Tryd.sizeOf173
  v201 := Tryd.zeroValue173
  t226 := Tryd.underlying175
  a226 := Tryd.isAgg175
  z226 := Tryd.sizeOf175
  v226 := Tryd.zeroValue175
  t227 := Tryd.underlying177
  a227 := Tryd.isAgg177
  z227 := Tryd.sizeOf177
  v227 := Tryd.zeroValue177
  g0 := by kernel_rfl
  g6 := by kernel_rfl }
open Go.RowKit Go.Lib in
/-- strings.Fields, the table by 'Lib.TabIs' (as strings.TrimSpace's contract). 'hg': the table's number, by its name: at a dump 'by kernel_rfl'. (LAID: no walk: one application.) -/
theorem Tryd.strings_Fields (s : ByteArray) (w : World) (hs : s.size < 4294967281) (hascii : ∀ (j : Nat) b, s.data.toList[j]? = some b → b.toNat < 128) (htab : Lib.TabIs Tryd.prog w "strings.asciiSpace" .u8 Lib.asciiSpaceTab) :
    Calls Tryd.prog 72 #[.string s] w fun e w' =>
      e = .returned (.slice (some ⟨w.heap.size, 0, none⟩) (Lib.fields s.data.toList).length (Lib.fields s.data.toList).length) ∧ w' = w.alloc (.cells ((Lib.fields s.data.toList).map fun l => Value.string ⟨l.toArray⟩).toArray 9) := Any.strings_Fields Tryd.lays157 (by kernel_rfl) (by kernel_rfl) s w hs hascii htab
end Go.Proofs
