/-
  NARROWER THAN 'FOR EVERY INPUT', by the rows' own cells (each row's printed sentence says how): InterpJobs: loops, laid · InterpFuel: loops, laid · LowerSame: loops, laid · LowerRenames: loops, laid · InterpInput: loops, laid · InterpUnrolls: loops, laid · InterpSplits: loops, laid · InterpExprs: loops, laid · LowerValid: loops, laid · LowerLoops: loops, laid.
  DERIVED. THE GIVEN ROWS OF THIS SEAT. 10 by the template 'for every input the law returns true; each argument reads behind the call as it read before'; 0 by the template 'total and deterministic' (their statements: YtgmapenlgammfaaGreatDoorTotals.lean).
  GIVEN WITH THE SEED: the statements are not yours to turn. If you find one false, say at which input.
  Laid BY PROGRAM, IN A SANDBOX (cutbox-rows.mjs): the forced cells as the released guide's own fill.sh prints them over the translation 65652fa3bbe2f768… (all of the seat's roots in one cut). By AI agents, Wed Nov 11 2026. No macro, syntax, notation, axiom, sorry.
-/
import Derived.Test.YtgmapenlgammfaaGreatDoorChecked
import GoSem.Claim
import GoSem.ClaimJoined
import GoSem.ClaimMapViews
import Derived.JoinedTies
import Derived.KernelRfl
namespace Go.Proofs.YtgmapenlgammfaaGreatDoor
/- THE CELL 'sum', in the pinned program and in every row, IS THE sha256 OF THE DUMP (.gsa) THAT YtgmapenlgammfaaGreatDoorProg.lean LOADS. Nothing in Lean hashes anything: it is a label: what it is worth is what the hold of that sum in a sandbox is worth. -/
noncomputable def Tryz.pinned : Pinned := { name := "ytgmapenlgammfaagreatdoor", sum := "65652fa3bbe2f768a9708639f2001054a5f6d77b11869b7f498230903b1adfad", checked := Tryz.checked }
namespace Rows
def none {H : Type} : Left H := { results := [], args := [] }

/- WHAT THE LISTED PACKAGE-LEVEL VARIABLES READ AS WHEN THE CALL BEGINS. Each datum BY PROGRAM (the guide's laid-datum.mjs) off the statement by which the dump's own 'gosem.cut.vars' lays the variable. In a bare row this is a premise. The card (YtgmapenlgammfaaGreatDoorCards.lean) ties it to the program's text. -/
def laid_unicode_White_Space {H : Type} : DataW H := .ptr (.agg [.slice [.agg [.lit (.int .u16 9), .lit (.int .u16 13), .lit (.int .u16 1)], .agg [.lit (.int .u16 32), .lit (.int .u16 133), .lit (.int .u16 101)], .agg [.lit (.int .u16 160), .lit (.int .u16 5760), .lit (.int .u16 5600)], .agg [.lit (.int .u16 8192), .lit (.int .u16 8202), .lit (.int .u16 1)], .agg [.lit (.int .u16 8232), .lit (.int .u16 8233), .lit (.int .u16 1)], .agg [.lit (.int .u16 8239), .lit (.int .u16 8287), .lit (.int .u16 48)], .agg [.lit (.int .u16 12288), .lit (.int .u16 12288), .lit (.int .u16 1)]] [], .nil, .lit (.int .i64 2)])
def laid_strings_asciiSpace {H : Type} : DataW H := .agg [.lit (.int .u8 0), .lit (.int .u8 0), .lit (.int .u8 0), .lit (.int .u8 0), .lit (.int .u8 0), .lit (.int .u8 0), .lit (.int .u8 0), .lit (.int .u8 0), .lit (.int .u8 0), .lit (.int .u8 1), .lit (.int .u8 1), .lit (.int .u8 1), .lit (.int .u8 1), .lit (.int .u8 1), .lit (.int .u8 0), .lit (.int .u8 0), .lit (.int .u8 0), .lit (.int .u8 0), .lit (.int .u8 0), .lit (.int .u8 0), .lit (.int .u8 0), .lit (.int .u8 0), .lit (.int .u8 0), .lit (.int .u8 0), .lit (.int .u8 0), .lit (.int .u8 0), .lit (.int .u8 0), .lit (.int .u8 0), .lit (.int .u8 0), .lit (.int .u8 0), .lit (.int .u8 0), .lit (.int .u8 0), .lit (.int .u8 1), .lit (.int .u8 0), .lit (.int .u8 0), .lit (.int .u8 0), .lit (.int .u8 0), .lit (.int .u8 0), .lit (.int .u8 0), .lit (.int .u8 0), .lit (.int .u8 0), .lit (.int .u8 0), .lit (.int .u8 0), .lit (.int .u8 0), .lit (.int .u8 0), .lit (.int .u8 0), .lit (.int .u8 0), .lit (.int .u8 0), .lit (.int .u8 0), .lit (.int .u8 0), .lit (.int .u8 0), .lit (.int .u8 0), .lit (.int .u8 0), .lit (.int .u8 0), .lit (.int .u8 0), .lit (.int .u8 0), .lit (.int .u8 0), .lit (.int .u8 0), .lit (.int .u8 0), .lit (.int .u8 0), .lit (.int .u8 0), .lit (.int .u8 0), .lit (.int .u8 0), .lit (.int .u8 0), .lit (.int .u8 0), .lit (.int .u8 0), .lit (.int .u8 0), .lit (.int .u8 0), .lit (.int .u8 0), .lit (.int .u8 0), .lit (.int .u8 0), .lit (.int .u8 0), .lit (.int .u8 0), .lit (.int .u8 0), .lit (.int .u8 0), .lit (.int .u8 0), .lit (.int .u8 0), .lit (.int .u8 0), .lit (.int .u8 0), .lit (.int .u8 0), .lit (.int .u8 0), .lit (.int .u8 0), .lit (.int .u8 0), .lit (.int .u8 0), .lit (.int .u8 0), .lit (.int .u8 0), .lit (.int .u8 0), .lit (.int .u8 0), .lit (.int .u8 0), .lit (.int .u8 0), .lit (.int .u8 0), .lit (.int .u8 0), .lit (.int .u8 0), .lit (.int .u8 0), .lit (.int .u8 0), .lit (.int .u8 0), .lit (.int .u8 0), .lit (.int .u8 0), .lit (.int .u8 0), .lit (.int .u8 0), .lit (.int .u8 0), .lit (.int .u8 0), .lit (.int .u8 0), .lit (.int .u8 0), .lit (.int .u8 0), .lit (.int .u8 0), .lit (.int .u8 0), .lit (.int .u8 0), .lit (.int .u8 0), .lit (.int .u8 0), .lit (.int .u8 0), .lit (.int .u8 0), .lit (.int .u8 0), .lit (.int .u8 0), .lit (.int .u8 0), .lit (.int .u8 0), .lit (.int .u8 0), .lit (.int .u8 0), .lit (.int .u8 0), .lit (.int .u8 0), .lit (.int .u8 0), .lit (.int .u8 0), .lit (.int .u8 0), .lit (.int .u8 0), .lit (.int .u8 0), .lit (.int .u8 0), .lit (.int .u8 0), .lit (.int .u8 0), .lit (.int .u8 0), .lit (.int .u8 0), .lit (.int .u8 0), .lit (.int .u8 0), .lit (.int .u8 0), .lit (.int .u8 0), .lit (.int .u8 0), .lit (.int .u8 0), .lit (.int .u8 0), .lit (.int .u8 0), .lit (.int .u8 0), .lit (.int .u8 0), .lit (.int .u8 0), .lit (.int .u8 0), .lit (.int .u8 0), .lit (.int .u8 0), .lit (.int .u8 0), .lit (.int .u8 0), .lit (.int .u8 0), .lit (.int .u8 0), .lit (.int .u8 0), .lit (.int .u8 0), .lit (.int .u8 0), .lit (.int .u8 0), .lit (.int .u8 0), .lit (.int .u8 0), .lit (.int .u8 0), .lit (.int .u8 0), .lit (.int .u8 0), .lit (.int .u8 0), .lit (.int .u8 0), .lit (.int .u8 0), .lit (.int .u8 0), .lit (.int .u8 0), .lit (.int .u8 0), .lit (.int .u8 0), .lit (.int .u8 0), .lit (.int .u8 0), .lit (.int .u8 0), .lit (.int .u8 0), .lit (.int .u8 0), .lit (.int .u8 0), .lit (.int .u8 0), .lit (.int .u8 0), .lit (.int .u8 0), .lit (.int .u8 0), .lit (.int .u8 0), .lit (.int .u8 0), .lit (.int .u8 0), .lit (.int .u8 0), .lit (.int .u8 0), .lit (.int .u8 0), .lit (.int .u8 0), .lit (.int .u8 0), .lit (.int .u8 0), .lit (.int .u8 0), .lit (.int .u8 0), .lit (.int .u8 0), .lit (.int .u8 0), .lit (.int .u8 0), .lit (.int .u8 0), .lit (.int .u8 0), .lit (.int .u8 0), .lit (.int .u8 0), .lit (.int .u8 0), .lit (.int .u8 0), .lit (.int .u8 0), .lit (.int .u8 0), .lit (.int .u8 0), .lit (.int .u8 0), .lit (.int .u8 0), .lit (.int .u8 0), .lit (.int .u8 0), .lit (.int .u8 0), .lit (.int .u8 0), .lit (.int .u8 0), .lit (.int .u8 0), .lit (.int .u8 0), .lit (.int .u8 0), .lit (.int .u8 0), .lit (.int .u8 0), .lit (.int .u8 0), .lit (.int .u8 0), .lit (.int .u8 0), .lit (.int .u8 0), .lit (.int .u8 0), .lit (.int .u8 0), .lit (.int .u8 0), .lit (.int .u8 0), .lit (.int .u8 0), .lit (.int .u8 0), .lit (.int .u8 0), .lit (.int .u8 0), .lit (.int .u8 0), .lit (.int .u8 0), .lit (.int .u8 0), .lit (.int .u8 0), .lit (.int .u8 0), .lit (.int .u8 0), .lit (.int .u8 0), .lit (.int .u8 0), .lit (.int .u8 0), .lit (.int .u8 0), .lit (.int .u8 0), .lit (.int .u8 0), .lit (.int .u8 0), .lit (.int .u8 0), .lit (.int .u8 0), .lit (.int .u8 0), .lit (.int .u8 0), .lit (.int .u8 0), .lit (.int .u8 0), .lit (.int .u8 0), .lit (.int .u8 0), .lit (.int .u8 0), .lit (.int .u8 0), .lit (.int .u8 0), .lit (.int .u8 0), .lit (.int .u8 0), .lit (.int .u8 0), .lit (.int .u8 0), .lit (.int .u8 0), .lit (.int .u8 0), .lit (.int .u8 0), .lit (.int .u8 0), .lit (.int .u8 0), .lit (.int .u8 0), .lit (.int .u8 0)]

/-- 'ontimelaw16.InterpJobs': WHATEVER THE INPUT: true; the input reads as it did. -/
def interpJobsSpec : ChangeSpec := { name := "interpJobs", fn := fun _ => fun
  | [d1, d2, d3, d4, d5] => { results := [.lit (.bool true)], args := [d1, d2, d3, d4, d5] }
  | _ => none }
def interpJobsRow : OpenClaim := { program := "ytgmapenlgammfaagreatdoor", sum := "65652fa3bbe2f768a9708639f2001054a5f6d77b11869b7f498230903b1adfad", func := "ontime/ontimelaw16.InterpJobs", spec := "interpJobs", inPlace := ["maps.clone"], unfollowed := true, recurses := true, named := ["strings.asciiSpace", "unicode.White_Space"], loops := true, apart := false, laid := [("unicode.White_Space", laid_unicode_White_Space), ("strings.asciiSpace", laid_strings_asciiSpace)] }
def InterpJobsSaid : Prop := interpJobsRow.holds Tryz.pinned (OpenSpec.ofChange interpJobsSpec)

/-- ITS FALSE NEIGHBOUR: 'it returns false'. Refute it at one input. -/
def interpJobsWrong : ChangeSpec := { name := "interpJobs", fn := fun _ => fun
  | [d1, d2, d3, d4, d5] => { results := [.lit (.bool false)], args := [d1, d2, d3, d4, d5] }
  | _ => none }
def InterpJobsWrongFalsely : Prop := interpJobsRow.holds Tryz.pinned (OpenSpec.ofChange interpJobsWrong)

/-- 'ontimelaw16.InterpFuel': WHATEVER THE INPUT: true; the input reads as it did. -/
def interpFuelSpec : ChangeSpec := { name := "interpFuel", fn := fun _ => fun
  | [d1, d2, d3, d4, d5] => { results := [.lit (.bool true)], args := [d1, d2, d3, d4, d5] }
  | _ => none }
def interpFuelRow : OpenClaim := { program := "ytgmapenlgammfaagreatdoor", sum := "65652fa3bbe2f768a9708639f2001054a5f6d77b11869b7f498230903b1adfad", func := "ontime/ontimelaw16.InterpFuel", spec := "interpFuel", inPlace := ["maps.clone"], unfollowed := true, recurses := true, named := ["strings.asciiSpace", "unicode.White_Space"], loops := true, apart := false, laid := [("unicode.White_Space", laid_unicode_White_Space), ("strings.asciiSpace", laid_strings_asciiSpace)] }
def InterpFuelSaid : Prop := interpFuelRow.holds Tryz.pinned (OpenSpec.ofChange interpFuelSpec)

/-- ITS FALSE NEIGHBOUR: 'it returns false'. Refute it at one input. -/
def interpFuelWrong : ChangeSpec := { name := "interpFuel", fn := fun _ => fun
  | [d1, d2, d3, d4, d5] => { results := [.lit (.bool false)], args := [d1, d2, d3, d4, d5] }
  | _ => none }
def InterpFuelWrongFalsely : Prop := interpFuelRow.holds Tryz.pinned (OpenSpec.ofChange interpFuelWrong)

/-- 'ontimelaw18.LowerSame': WHATEVER THE INPUT: true; the input reads as it did. -/
def lowerSameSpec : ChangeSpec := { name := "lowerSame", fn := fun _ => fun
  | [d1, d2, d3, d4] => { results := [.lit (.bool true)], args := [d1, d2, d3, d4] }
  | _ => none }
def lowerSameRow : OpenClaim := { program := "ytgmapenlgammfaagreatdoor", sum := "65652fa3bbe2f768a9708639f2001054a5f6d77b11869b7f498230903b1adfad", func := "ontime/ontimelaw18.LowerSame", spec := "lowerSame", inPlace := ["maps.clone"], unfollowed := true, recurses := true, named := ["strings.asciiSpace", "unicode.White_Space"], loops := true, apart := false, laid := [("unicode.White_Space", laid_unicode_White_Space), ("strings.asciiSpace", laid_strings_asciiSpace)] }
def LowerSameSaid : Prop := lowerSameRow.holds Tryz.pinned (OpenSpec.ofChange lowerSameSpec)

/-- ITS FALSE NEIGHBOUR: 'it returns false'. Refute it at one input. -/
def lowerSameWrong : ChangeSpec := { name := "lowerSame", fn := fun _ => fun
  | [d1, d2, d3, d4] => { results := [.lit (.bool false)], args := [d1, d2, d3, d4] }
  | _ => none }
def LowerSameWrongFalsely : Prop := lowerSameRow.holds Tryz.pinned (OpenSpec.ofChange lowerSameWrong)

/-- 'ontimelaw18.LowerRenames': WHATEVER THE INPUT: true; the input reads as it did. -/
def lowerRenamesSpec : ChangeSpec := { name := "lowerRenames", fn := fun _ => fun
  | [d1, d2, d3, d4, d5] => { results := [.lit (.bool true)], args := [d1, d2, d3, d4, d5] }
  | _ => none }
def lowerRenamesRow : OpenClaim := { program := "ytgmapenlgammfaagreatdoor", sum := "65652fa3bbe2f768a9708639f2001054a5f6d77b11869b7f498230903b1adfad", func := "ontime/ontimelaw18.LowerRenames", spec := "lowerRenames", inPlace := ["maps.clone"], unfollowed := true, recurses := true, named := ["strings.asciiSpace", "unicode.White_Space"], loops := true, apart := false, laid := [("unicode.White_Space", laid_unicode_White_Space), ("strings.asciiSpace", laid_strings_asciiSpace)] }
def LowerRenamesSaid : Prop := lowerRenamesRow.holds Tryz.pinned (OpenSpec.ofChange lowerRenamesSpec)

/-- ITS FALSE NEIGHBOUR: 'it returns false'. Refute it at one input. -/
def lowerRenamesWrong : ChangeSpec := { name := "lowerRenames", fn := fun _ => fun
  | [d1, d2, d3, d4, d5] => { results := [.lit (.bool false)], args := [d1, d2, d3, d4, d5] }
  | _ => none }
def LowerRenamesWrongFalsely : Prop := lowerRenamesRow.holds Tryz.pinned (OpenSpec.ofChange lowerRenamesWrong)

/-- 'ontimelaw16.InterpInput': WHATEVER THE INPUT: true; the input reads as it did. -/
def interpInputSpec : ChangeSpec := { name := "interpInput", fn := fun _ => fun
  | [d1, d2, d3, d4, d5] => { results := [.lit (.bool true)], args := [d1, d2, d3, d4, d5] }
  | _ => none }
def interpInputRow : OpenClaim := { program := "ytgmapenlgammfaagreatdoor", sum := "65652fa3bbe2f768a9708639f2001054a5f6d77b11869b7f498230903b1adfad", func := "ontime/ontimelaw16.InterpInput", spec := "interpInput", inPlace := ["maps.clone"], unfollowed := true, recurses := true, named := ["strings.asciiSpace", "unicode.White_Space"], loops := true, apart := false, laid := [("unicode.White_Space", laid_unicode_White_Space), ("strings.asciiSpace", laid_strings_asciiSpace)] }
def InterpInputSaid : Prop := interpInputRow.holds Tryz.pinned (OpenSpec.ofChange interpInputSpec)

/-- ITS FALSE NEIGHBOUR: 'it returns false'. Refute it at one input. -/
def interpInputWrong : ChangeSpec := { name := "interpInput", fn := fun _ => fun
  | [d1, d2, d3, d4, d5] => { results := [.lit (.bool false)], args := [d1, d2, d3, d4, d5] }
  | _ => none }
def InterpInputWrongFalsely : Prop := interpInputRow.holds Tryz.pinned (OpenSpec.ofChange interpInputWrong)

/-- 'ontimelaw16.InterpUnrolls': WHATEVER THE INPUT: true; the input reads as it did. -/
def interpUnrollsSpec : ChangeSpec := { name := "interpUnrolls", fn := fun _ => fun
  | [d1, d2, d3, d4] => { results := [.lit (.bool true)], args := [d1, d2, d3, d4] }
  | _ => none }
def interpUnrollsRow : OpenClaim := { program := "ytgmapenlgammfaagreatdoor", sum := "65652fa3bbe2f768a9708639f2001054a5f6d77b11869b7f498230903b1adfad", func := "ontime/ontimelaw16.InterpUnrolls", spec := "interpUnrolls", inPlace := ["maps.clone"], unfollowed := true, recurses := true, named := ["strings.asciiSpace", "unicode.White_Space"], loops := true, apart := false, laid := [("unicode.White_Space", laid_unicode_White_Space), ("strings.asciiSpace", laid_strings_asciiSpace)] }
def InterpUnrollsSaid : Prop := interpUnrollsRow.holds Tryz.pinned (OpenSpec.ofChange interpUnrollsSpec)

/-- ITS FALSE NEIGHBOUR: 'it returns false'. Refute it at one input. -/
def interpUnrollsWrong : ChangeSpec := { name := "interpUnrolls", fn := fun _ => fun
  | [d1, d2, d3, d4] => { results := [.lit (.bool false)], args := [d1, d2, d3, d4] }
  | _ => none }
def InterpUnrollsWrongFalsely : Prop := interpUnrollsRow.holds Tryz.pinned (OpenSpec.ofChange interpUnrollsWrong)

/-- 'ontimelaw16.InterpSplits': WHATEVER THE INPUT: true; the input reads as it did. -/
def interpSplitsSpec : ChangeSpec := { name := "interpSplits", fn := fun _ => fun
  | [d1, d2, d3, d4, d5, d6] => { results := [.lit (.bool true)], args := [d1, d2, d3, d4, d5, d6] }
  | _ => none }
def interpSplitsRow : OpenClaim := { program := "ytgmapenlgammfaagreatdoor", sum := "65652fa3bbe2f768a9708639f2001054a5f6d77b11869b7f498230903b1adfad", func := "ontime/ontimelaw16.InterpSplits", spec := "interpSplits", inPlace := ["maps.clone"], unfollowed := true, recurses := true, named := ["strings.asciiSpace", "unicode.White_Space"], loops := true, apart := false, laid := [("unicode.White_Space", laid_unicode_White_Space), ("strings.asciiSpace", laid_strings_asciiSpace)] }
def InterpSplitsSaid : Prop := interpSplitsRow.holds Tryz.pinned (OpenSpec.ofChange interpSplitsSpec)

/-- ITS FALSE NEIGHBOUR: 'it returns false'. Refute it at one input. -/
def interpSplitsWrong : ChangeSpec := { name := "interpSplits", fn := fun _ => fun
  | [d1, d2, d3, d4, d5, d6] => { results := [.lit (.bool false)], args := [d1, d2, d3, d4, d5, d6] }
  | _ => none }
def InterpSplitsWrongFalsely : Prop := interpSplitsRow.holds Tryz.pinned (OpenSpec.ofChange interpSplitsWrong)

/-- 'ontimelaw16.InterpExprs': WHATEVER THE INPUT: true; the input reads as it did. -/
def interpExprsSpec : ChangeSpec := { name := "interpExprs", fn := fun _ => fun
  | [d1, d2] => { results := [.lit (.bool true)], args := [d1, d2] }
  | _ => none }
def interpExprsRow : OpenClaim := { program := "ytgmapenlgammfaagreatdoor", sum := "65652fa3bbe2f768a9708639f2001054a5f6d77b11869b7f498230903b1adfad", func := "ontime/ontimelaw16.InterpExprs", spec := "interpExprs", inPlace := ["maps.clone"], unfollowed := true, recurses := true, named := ["strings.asciiSpace", "unicode.White_Space"], loops := true, apart := false, laid := [("unicode.White_Space", laid_unicode_White_Space), ("strings.asciiSpace", laid_strings_asciiSpace)] }
def InterpExprsSaid : Prop := interpExprsRow.holds Tryz.pinned (OpenSpec.ofChange interpExprsSpec)

/-- ITS FALSE NEIGHBOUR: 'it returns false'. Refute it at one input. -/
def interpExprsWrong : ChangeSpec := { name := "interpExprs", fn := fun _ => fun
  | [d1, d2] => { results := [.lit (.bool false)], args := [d1, d2] }
  | _ => none }
def InterpExprsWrongFalsely : Prop := interpExprsRow.holds Tryz.pinned (OpenSpec.ofChange interpExprsWrong)

/-- 'ontimelaw18.LowerValid': WHATEVER THE INPUT: true; the input reads as it did. -/
def lowerValidSpec : ChangeSpec := { name := "lowerValid", fn := fun _ => fun
  | [d1, d2] => { results := [.lit (.bool true)], args := [d1, d2] }
  | _ => none }
def lowerValidRow : OpenClaim := { program := "ytgmapenlgammfaagreatdoor", sum := "65652fa3bbe2f768a9708639f2001054a5f6d77b11869b7f498230903b1adfad", func := "ontime/ontimelaw18.LowerValid", spec := "lowerValid", inPlace := ["maps.clone"], unfollowed := true, recurses := true, named := ["strings.asciiSpace", "unicode.White_Space"], loops := true, apart := false, laid := [("unicode.White_Space", laid_unicode_White_Space), ("strings.asciiSpace", laid_strings_asciiSpace)] }
def LowerValidSaid : Prop := lowerValidRow.holds Tryz.pinned (OpenSpec.ofChange lowerValidSpec)

/-- ITS FALSE NEIGHBOUR: 'it returns false'. Refute it at one input. -/
def lowerValidWrong : ChangeSpec := { name := "lowerValid", fn := fun _ => fun
  | [d1, d2] => { results := [.lit (.bool false)], args := [d1, d2] }
  | _ => none }
def LowerValidWrongFalsely : Prop := lowerValidRow.holds Tryz.pinned (OpenSpec.ofChange lowerValidWrong)

/-- 'ontimelaw18.LowerLoops': WHATEVER THE INPUT: true; the input reads as it did. -/
def lowerLoopsSpec : ChangeSpec := { name := "lowerLoops", fn := fun _ => fun
  | [d1, d2] => { results := [.lit (.bool true)], args := [d1, d2] }
  | _ => none }
def lowerLoopsRow : OpenClaim := { program := "ytgmapenlgammfaagreatdoor", sum := "65652fa3bbe2f768a9708639f2001054a5f6d77b11869b7f498230903b1adfad", func := "ontime/ontimelaw18.LowerLoops", spec := "lowerLoops", inPlace := ["maps.clone"], unfollowed := true, recurses := true, named := ["strings.asciiSpace", "unicode.White_Space"], loops := true, apart := false, laid := [("unicode.White_Space", laid_unicode_White_Space), ("strings.asciiSpace", laid_strings_asciiSpace)] }
def LowerLoopsSaid : Prop := lowerLoopsRow.holds Tryz.pinned (OpenSpec.ofChange lowerLoopsSpec)

/-- ITS FALSE NEIGHBOUR: 'it returns false'. Refute it at one input. -/
def lowerLoopsWrong : ChangeSpec := { name := "lowerLoops", fn := fun _ => fun
  | [d1, d2] => { results := [.lit (.bool false)], args := [d1, d2] }
  | _ => none }
def LowerLoopsWrongFalsely : Prop := lowerLoopsRow.holds Tryz.pinned (OpenSpec.ofChange lowerLoopsWrong)

/- THE SECOND FORM. 'bulk': how many values and letters a reading holds, each counted each time it is reached (what is shared counts as often as it is met; a slice's spare places count too). A statement '..UptoSaid' is the law's where the arguments, and the package variables that the reading takes, are together of bulk at most 1048576: NARROWER than '..Said'. Prove '..Said' where nothing that the law and all that it calls make is longer than what came in: it says more and counts as full. Else prove '..UptoSaid'. A law counts once. -/
mutual
def uptoBulk {H : Type} : DataW H → Nat
  | .lit (.string bytes) => bytes.length + 1
  | .lit _ => 1
  | .nil => 1
  | .ptr d => uptoBulk d + 1
  | .slice elems spare => uptoBulkAll elems + uptoBulkAll spare + 1
  | .agg parts => uptoBulkAll parts + 1
  | .iface _ d => uptoBulk d + 1
  | .map entries => uptoBulkEntries entries + 1
  | .held _ => 1
def uptoBulkAll {H : Type} : List (DataW H) → Nat
  | [] => 0
  | d :: r => uptoBulk d + uptoBulkAll r
def uptoBulkEntries {H : Type} : List (Lit × DataW H) → Nat
  | [] => 0
  | x :: r => uptoBulkEntry x + uptoBulkEntries r
def uptoBulkEntry {H : Type} : Lit × DataW H → Nat
  | (.string bytes, d) => bytes.length + uptoBulk d + 1
  | (_, d) => uptoBulk d + 1
 end
def uptoSmall : (H : Type) → List (DataW H) → Bool := fun _ ds => decide (uptoBulkAll ds ≤ 1048576)
def OpenSpec.upto (s : _root_.Go.ChangeSpec) : _root_.Go.OpenSpec := { _root_.Go.OpenSpec.ofChange s with cond := some uptoSmall }

/-- 'ontimelaw16.InterpJobs', WHERE WHAT IT READS IS OF BULK AT MOST 1048576: true; the input reads as it did. -/
def interpJobsUptoRow : OpenClaim := { program := "ytgmapenlgammfaagreatdoor", sum := "65652fa3bbe2f768a9708639f2001054a5f6d77b11869b7f498230903b1adfad", func := "ontime/ontimelaw16.InterpJobs", spec := "interpJobs", inPlace := ["maps.clone"], unfollowed := true, recurses := true, named := ["strings.asciiSpace", "unicode.White_Space"], loops := true, apart := false, laid := [("unicode.White_Space", laid_unicode_White_Space), ("strings.asciiSpace", laid_strings_asciiSpace)], narrowed := true }
def InterpJobsUptoSaid : Prop := interpJobsUptoRow.holds Tryz.pinned (OpenSpec.upto interpJobsSpec)

/-- 'ontimelaw16.InterpFuel', WHERE WHAT IT READS IS OF BULK AT MOST 1048576: true; the input reads as it did. -/
def interpFuelUptoRow : OpenClaim := { program := "ytgmapenlgammfaagreatdoor", sum := "65652fa3bbe2f768a9708639f2001054a5f6d77b11869b7f498230903b1adfad", func := "ontime/ontimelaw16.InterpFuel", spec := "interpFuel", inPlace := ["maps.clone"], unfollowed := true, recurses := true, named := ["strings.asciiSpace", "unicode.White_Space"], loops := true, apart := false, laid := [("unicode.White_Space", laid_unicode_White_Space), ("strings.asciiSpace", laid_strings_asciiSpace)], narrowed := true }
def InterpFuelUptoSaid : Prop := interpFuelUptoRow.holds Tryz.pinned (OpenSpec.upto interpFuelSpec)

/-- 'ontimelaw18.LowerSame', WHERE WHAT IT READS IS OF BULK AT MOST 1048576: true; the input reads as it did. -/
def lowerSameUptoRow : OpenClaim := { program := "ytgmapenlgammfaagreatdoor", sum := "65652fa3bbe2f768a9708639f2001054a5f6d77b11869b7f498230903b1adfad", func := "ontime/ontimelaw18.LowerSame", spec := "lowerSame", inPlace := ["maps.clone"], unfollowed := true, recurses := true, named := ["strings.asciiSpace", "unicode.White_Space"], loops := true, apart := false, laid := [("unicode.White_Space", laid_unicode_White_Space), ("strings.asciiSpace", laid_strings_asciiSpace)], narrowed := true }
def LowerSameUptoSaid : Prop := lowerSameUptoRow.holds Tryz.pinned (OpenSpec.upto lowerSameSpec)

/-- 'ontimelaw18.LowerRenames', WHERE WHAT IT READS IS OF BULK AT MOST 1048576: true; the input reads as it did. -/
def lowerRenamesUptoRow : OpenClaim := { program := "ytgmapenlgammfaagreatdoor", sum := "65652fa3bbe2f768a9708639f2001054a5f6d77b11869b7f498230903b1adfad", func := "ontime/ontimelaw18.LowerRenames", spec := "lowerRenames", inPlace := ["maps.clone"], unfollowed := true, recurses := true, named := ["strings.asciiSpace", "unicode.White_Space"], loops := true, apart := false, laid := [("unicode.White_Space", laid_unicode_White_Space), ("strings.asciiSpace", laid_strings_asciiSpace)], narrowed := true }
def LowerRenamesUptoSaid : Prop := lowerRenamesUptoRow.holds Tryz.pinned (OpenSpec.upto lowerRenamesSpec)

/-- 'ontimelaw16.InterpInput', WHERE WHAT IT READS IS OF BULK AT MOST 1048576: true; the input reads as it did. -/
def interpInputUptoRow : OpenClaim := { program := "ytgmapenlgammfaagreatdoor", sum := "65652fa3bbe2f768a9708639f2001054a5f6d77b11869b7f498230903b1adfad", func := "ontime/ontimelaw16.InterpInput", spec := "interpInput", inPlace := ["maps.clone"], unfollowed := true, recurses := true, named := ["strings.asciiSpace", "unicode.White_Space"], loops := true, apart := false, laid := [("unicode.White_Space", laid_unicode_White_Space), ("strings.asciiSpace", laid_strings_asciiSpace)], narrowed := true }
def InterpInputUptoSaid : Prop := interpInputUptoRow.holds Tryz.pinned (OpenSpec.upto interpInputSpec)

/-- 'ontimelaw16.InterpUnrolls', WHERE WHAT IT READS IS OF BULK AT MOST 1048576: true; the input reads as it did. -/
def interpUnrollsUptoRow : OpenClaim := { program := "ytgmapenlgammfaagreatdoor", sum := "65652fa3bbe2f768a9708639f2001054a5f6d77b11869b7f498230903b1adfad", func := "ontime/ontimelaw16.InterpUnrolls", spec := "interpUnrolls", inPlace := ["maps.clone"], unfollowed := true, recurses := true, named := ["strings.asciiSpace", "unicode.White_Space"], loops := true, apart := false, laid := [("unicode.White_Space", laid_unicode_White_Space), ("strings.asciiSpace", laid_strings_asciiSpace)], narrowed := true }
def InterpUnrollsUptoSaid : Prop := interpUnrollsUptoRow.holds Tryz.pinned (OpenSpec.upto interpUnrollsSpec)

/-- 'ontimelaw16.InterpSplits', WHERE WHAT IT READS IS OF BULK AT MOST 1048576: true; the input reads as it did. -/
def interpSplitsUptoRow : OpenClaim := { program := "ytgmapenlgammfaagreatdoor", sum := "65652fa3bbe2f768a9708639f2001054a5f6d77b11869b7f498230903b1adfad", func := "ontime/ontimelaw16.InterpSplits", spec := "interpSplits", inPlace := ["maps.clone"], unfollowed := true, recurses := true, named := ["strings.asciiSpace", "unicode.White_Space"], loops := true, apart := false, laid := [("unicode.White_Space", laid_unicode_White_Space), ("strings.asciiSpace", laid_strings_asciiSpace)], narrowed := true }
def InterpSplitsUptoSaid : Prop := interpSplitsUptoRow.holds Tryz.pinned (OpenSpec.upto interpSplitsSpec)

/-- 'ontimelaw16.InterpExprs', WHERE WHAT IT READS IS OF BULK AT MOST 1048576: true; the input reads as it did. -/
def interpExprsUptoRow : OpenClaim := { program := "ytgmapenlgammfaagreatdoor", sum := "65652fa3bbe2f768a9708639f2001054a5f6d77b11869b7f498230903b1adfad", func := "ontime/ontimelaw16.InterpExprs", spec := "interpExprs", inPlace := ["maps.clone"], unfollowed := true, recurses := true, named := ["strings.asciiSpace", "unicode.White_Space"], loops := true, apart := false, laid := [("unicode.White_Space", laid_unicode_White_Space), ("strings.asciiSpace", laid_strings_asciiSpace)], narrowed := true }
def InterpExprsUptoSaid : Prop := interpExprsUptoRow.holds Tryz.pinned (OpenSpec.upto interpExprsSpec)

/-- 'ontimelaw18.LowerValid', WHERE WHAT IT READS IS OF BULK AT MOST 1048576: true; the input reads as it did. -/
def lowerValidUptoRow : OpenClaim := { program := "ytgmapenlgammfaagreatdoor", sum := "65652fa3bbe2f768a9708639f2001054a5f6d77b11869b7f498230903b1adfad", func := "ontime/ontimelaw18.LowerValid", spec := "lowerValid", inPlace := ["maps.clone"], unfollowed := true, recurses := true, named := ["strings.asciiSpace", "unicode.White_Space"], loops := true, apart := false, laid := [("unicode.White_Space", laid_unicode_White_Space), ("strings.asciiSpace", laid_strings_asciiSpace)], narrowed := true }
def LowerValidUptoSaid : Prop := lowerValidUptoRow.holds Tryz.pinned (OpenSpec.upto lowerValidSpec)

/-- 'ontimelaw18.LowerLoops', WHERE WHAT IT READS IS OF BULK AT MOST 1048576: true; the input reads as it did. -/
def lowerLoopsUptoRow : OpenClaim := { program := "ytgmapenlgammfaagreatdoor", sum := "65652fa3bbe2f768a9708639f2001054a5f6d77b11869b7f498230903b1adfad", func := "ontime/ontimelaw18.LowerLoops", spec := "lowerLoops", inPlace := ["maps.clone"], unfollowed := true, recurses := true, named := ["strings.asciiSpace", "unicode.White_Space"], loops := true, apart := false, laid := [("unicode.White_Space", laid_unicode_White_Space), ("strings.asciiSpace", laid_strings_asciiSpace)], narrowed := true }
def LowerLoopsUptoSaid : Prop := lowerLoopsUptoRow.holds Tryz.pinned (OpenSpec.upto lowerLoopsSpec)

end Rows
end Go.Proofs.YtgmapenlgammfaaGreatDoor
