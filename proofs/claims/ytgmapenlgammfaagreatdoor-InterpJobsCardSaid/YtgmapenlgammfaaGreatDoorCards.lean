/-
  DERIVED. GIVEN WITH THE SEED: THE CARDS: each row of YtgmapenlgammfaaGreatDoorRows.lean that lists a variable, with what it lists TIED to the program's text (the seventh form; the later family's looks); each row that meets fmt, with fmt's text TOLD by the authors' own Lean function (tested against real Go, not proved from fmt's source: count such statements apart). THE CARD IS WHAT COUNTS. Prove the row's statement (the work); the ties are given (YtgmapenlgammfaaGreatDoorTie.lean); close each card by the builder's one call (the guide's Derived/Test/ToyasCard.lean, 'card_holds'). Laid BY PROGRAM, IN A SANDBOX (cutbox-door.mjs). By AI agents, Wed Nov 11 2026. No macro, syntax, notation, axiom, sorry.
-/
import Derived.Test.YtgmapenlgammfaaGreatDoorRows
import GoSem.ClaimSeven
namespace Go.Proofs.YtgmapenlgammfaaGreatDoor
namespace Rows

/-- THE TIED CARD OF 'ontimelaw16.InterpJobs'. -/
def interpJobsCard : Claim7 := { stood := { row := interpJobsRow, standIns := [], harness := (true, "52754524a74198cc8c45c603f9830c7a8d216e5e3391eb0df66a2ed86db1dc97"), looks := true }, kinds := [], alts := [], laidByText := true, laidKinds := [.listed, .data], laidTests := true, laidLooks := .later }
def InterpJobsCardSaid : Prop := Claim7.holds Tryz.pinned (.plain (OpenSpec.ofChange interpJobsSpec)) interpJobsCard

/-- THE TIED CARD OF 'ontimelaw16.InterpFuel'. -/
def interpFuelCard : Claim7 := { stood := { row := interpFuelRow, standIns := [], harness := (true, "52754524a74198cc8c45c603f9830c7a8d216e5e3391eb0df66a2ed86db1dc97"), looks := true }, kinds := [], alts := [], laidByText := true, laidKinds := [.listed, .data], laidTests := true, laidLooks := .later }
def InterpFuelCardSaid : Prop := Claim7.holds Tryz.pinned (.plain (OpenSpec.ofChange interpFuelSpec)) interpFuelCard

/-- THE TIED CARD OF 'ontimelaw18.LowerSame'. -/
def lowerSameCard : Claim7 := { stood := { row := lowerSameRow, standIns := [], harness := (true, "52754524a74198cc8c45c603f9830c7a8d216e5e3391eb0df66a2ed86db1dc97"), looks := true }, kinds := [], alts := [], laidByText := true, laidKinds := [.listed, .data], laidTests := true, laidLooks := .later }
def LowerSameCardSaid : Prop := Claim7.holds Tryz.pinned (.plain (OpenSpec.ofChange lowerSameSpec)) lowerSameCard

/-- THE TIED CARD OF 'ontimelaw18.LowerRenames'. -/
def lowerRenamesCard : Claim7 := { stood := { row := lowerRenamesRow, standIns := [], harness := (true, "52754524a74198cc8c45c603f9830c7a8d216e5e3391eb0df66a2ed86db1dc97"), looks := true }, kinds := [], alts := [], laidByText := true, laidKinds := [.listed, .data], laidTests := true, laidLooks := .later }
def LowerRenamesCardSaid : Prop := Claim7.holds Tryz.pinned (.plain (OpenSpec.ofChange lowerRenamesSpec)) lowerRenamesCard

/-- THE TIED CARD OF 'ontimelaw16.InterpInput'. -/
def interpInputCard : Claim7 := { stood := { row := interpInputRow, standIns := [], harness := (true, "52754524a74198cc8c45c603f9830c7a8d216e5e3391eb0df66a2ed86db1dc97"), looks := true }, kinds := [], alts := [], laidByText := true, laidKinds := [.listed, .data], laidTests := true, laidLooks := .later }
def InterpInputCardSaid : Prop := Claim7.holds Tryz.pinned (.plain (OpenSpec.ofChange interpInputSpec)) interpInputCard

/-- THE TIED CARD OF 'ontimelaw16.InterpUnrolls'. -/
def interpUnrollsCard : Claim7 := { stood := { row := interpUnrollsRow, standIns := [], harness := (true, "52754524a74198cc8c45c603f9830c7a8d216e5e3391eb0df66a2ed86db1dc97"), looks := true }, kinds := [], alts := [], laidByText := true, laidKinds := [.listed, .data], laidTests := true, laidLooks := .later }
def InterpUnrollsCardSaid : Prop := Claim7.holds Tryz.pinned (.plain (OpenSpec.ofChange interpUnrollsSpec)) interpUnrollsCard

/-- THE TIED CARD OF 'ontimelaw16.InterpSplits'. -/
def interpSplitsCard : Claim7 := { stood := { row := interpSplitsRow, standIns := [], harness := (true, "52754524a74198cc8c45c603f9830c7a8d216e5e3391eb0df66a2ed86db1dc97"), looks := true }, kinds := [], alts := [], laidByText := true, laidKinds := [.listed, .data], laidTests := true, laidLooks := .later }
def InterpSplitsCardSaid : Prop := Claim7.holds Tryz.pinned (.plain (OpenSpec.ofChange interpSplitsSpec)) interpSplitsCard

/-- THE TIED CARD OF 'ontimelaw16.InterpExprs'. -/
def interpExprsCard : Claim7 := { stood := { row := interpExprsRow, standIns := [], harness := (true, "52754524a74198cc8c45c603f9830c7a8d216e5e3391eb0df66a2ed86db1dc97"), looks := true }, kinds := [], alts := [], laidByText := true, laidKinds := [.listed, .data], laidTests := true, laidLooks := .later }
def InterpExprsCardSaid : Prop := Claim7.holds Tryz.pinned (.plain (OpenSpec.ofChange interpExprsSpec)) interpExprsCard

/-- THE TIED CARD OF 'ontimelaw18.LowerValid'. -/
def lowerValidCard : Claim7 := { stood := { row := lowerValidRow, standIns := [], harness := (true, "52754524a74198cc8c45c603f9830c7a8d216e5e3391eb0df66a2ed86db1dc97"), looks := true }, kinds := [], alts := [], laidByText := true, laidKinds := [.listed, .data], laidTests := true, laidLooks := .later }
def LowerValidCardSaid : Prop := Claim7.holds Tryz.pinned (.plain (OpenSpec.ofChange lowerValidSpec)) lowerValidCard

/-- THE TIED CARD OF 'ontimelaw18.LowerLoops'. -/
def lowerLoopsCard : Claim7 := { stood := { row := lowerLoopsRow, standIns := [], harness := (true, "52754524a74198cc8c45c603f9830c7a8d216e5e3391eb0df66a2ed86db1dc97"), looks := true }, kinds := [], alts := [], laidByText := true, laidKinds := [.listed, .data], laidTests := true, laidLooks := .later }
def LowerLoopsCardSaid : Prop := Claim7.holds Tryz.pinned (.plain (OpenSpec.ofChange lowerLoopsSpec)) lowerLoopsCard

/-- THE SECOND FORM's CARD OF 'ontimelaw16.InterpJobs'. -/
def interpJobsUptoCard : Claim7 := { stood := { row := interpJobsUptoRow, standIns := [], harness := (true, "52754524a74198cc8c45c603f9830c7a8d216e5e3391eb0df66a2ed86db1dc97"), looks := true }, kinds := [], alts := [], laidByText := true, laidKinds := [.listed, .data], laidTests := true, laidLooks := .later }
def InterpJobsUptoCardSaid : Prop := Claim7.holds Tryz.pinned (.plain (OpenSpec.upto interpJobsSpec)) interpJobsUptoCard

/-- THE SECOND FORM's CARD OF 'ontimelaw16.InterpFuel'. -/
def interpFuelUptoCard : Claim7 := { stood := { row := interpFuelUptoRow, standIns := [], harness := (true, "52754524a74198cc8c45c603f9830c7a8d216e5e3391eb0df66a2ed86db1dc97"), looks := true }, kinds := [], alts := [], laidByText := true, laidKinds := [.listed, .data], laidTests := true, laidLooks := .later }
def InterpFuelUptoCardSaid : Prop := Claim7.holds Tryz.pinned (.plain (OpenSpec.upto interpFuelSpec)) interpFuelUptoCard

/-- THE SECOND FORM's CARD OF 'ontimelaw18.LowerSame'. -/
def lowerSameUptoCard : Claim7 := { stood := { row := lowerSameUptoRow, standIns := [], harness := (true, "52754524a74198cc8c45c603f9830c7a8d216e5e3391eb0df66a2ed86db1dc97"), looks := true }, kinds := [], alts := [], laidByText := true, laidKinds := [.listed, .data], laidTests := true, laidLooks := .later }
def LowerSameUptoCardSaid : Prop := Claim7.holds Tryz.pinned (.plain (OpenSpec.upto lowerSameSpec)) lowerSameUptoCard

/-- THE SECOND FORM's CARD OF 'ontimelaw18.LowerRenames'. -/
def lowerRenamesUptoCard : Claim7 := { stood := { row := lowerRenamesUptoRow, standIns := [], harness := (true, "52754524a74198cc8c45c603f9830c7a8d216e5e3391eb0df66a2ed86db1dc97"), looks := true }, kinds := [], alts := [], laidByText := true, laidKinds := [.listed, .data], laidTests := true, laidLooks := .later }
def LowerRenamesUptoCardSaid : Prop := Claim7.holds Tryz.pinned (.plain (OpenSpec.upto lowerRenamesSpec)) lowerRenamesUptoCard

/-- THE SECOND FORM's CARD OF 'ontimelaw16.InterpInput'. -/
def interpInputUptoCard : Claim7 := { stood := { row := interpInputUptoRow, standIns := [], harness := (true, "52754524a74198cc8c45c603f9830c7a8d216e5e3391eb0df66a2ed86db1dc97"), looks := true }, kinds := [], alts := [], laidByText := true, laidKinds := [.listed, .data], laidTests := true, laidLooks := .later }
def InterpInputUptoCardSaid : Prop := Claim7.holds Tryz.pinned (.plain (OpenSpec.upto interpInputSpec)) interpInputUptoCard

/-- THE SECOND FORM's CARD OF 'ontimelaw16.InterpUnrolls'. -/
def interpUnrollsUptoCard : Claim7 := { stood := { row := interpUnrollsUptoRow, standIns := [], harness := (true, "52754524a74198cc8c45c603f9830c7a8d216e5e3391eb0df66a2ed86db1dc97"), looks := true }, kinds := [], alts := [], laidByText := true, laidKinds := [.listed, .data], laidTests := true, laidLooks := .later }
def InterpUnrollsUptoCardSaid : Prop := Claim7.holds Tryz.pinned (.plain (OpenSpec.upto interpUnrollsSpec)) interpUnrollsUptoCard

/-- THE SECOND FORM's CARD OF 'ontimelaw16.InterpSplits'. -/
def interpSplitsUptoCard : Claim7 := { stood := { row := interpSplitsUptoRow, standIns := [], harness := (true, "52754524a74198cc8c45c603f9830c7a8d216e5e3391eb0df66a2ed86db1dc97"), looks := true }, kinds := [], alts := [], laidByText := true, laidKinds := [.listed, .data], laidTests := true, laidLooks := .later }
def InterpSplitsUptoCardSaid : Prop := Claim7.holds Tryz.pinned (.plain (OpenSpec.upto interpSplitsSpec)) interpSplitsUptoCard

/-- THE SECOND FORM's CARD OF 'ontimelaw16.InterpExprs'. -/
def interpExprsUptoCard : Claim7 := { stood := { row := interpExprsUptoRow, standIns := [], harness := (true, "52754524a74198cc8c45c603f9830c7a8d216e5e3391eb0df66a2ed86db1dc97"), looks := true }, kinds := [], alts := [], laidByText := true, laidKinds := [.listed, .data], laidTests := true, laidLooks := .later }
def InterpExprsUptoCardSaid : Prop := Claim7.holds Tryz.pinned (.plain (OpenSpec.upto interpExprsSpec)) interpExprsUptoCard

/-- THE SECOND FORM's CARD OF 'ontimelaw18.LowerValid'. -/
def lowerValidUptoCard : Claim7 := { stood := { row := lowerValidUptoRow, standIns := [], harness := (true, "52754524a74198cc8c45c603f9830c7a8d216e5e3391eb0df66a2ed86db1dc97"), looks := true }, kinds := [], alts := [], laidByText := true, laidKinds := [.listed, .data], laidTests := true, laidLooks := .later }
def LowerValidUptoCardSaid : Prop := Claim7.holds Tryz.pinned (.plain (OpenSpec.upto lowerValidSpec)) lowerValidUptoCard

/-- THE SECOND FORM's CARD OF 'ontimelaw18.LowerLoops'. -/
def lowerLoopsUptoCard : Claim7 := { stood := { row := lowerLoopsUptoRow, standIns := [], harness := (true, "52754524a74198cc8c45c603f9830c7a8d216e5e3391eb0df66a2ed86db1dc97"), looks := true }, kinds := [], alts := [], laidByText := true, laidKinds := [.listed, .data], laidTests := true, laidLooks := .later }
def LowerLoopsUptoCardSaid : Prop := Claim7.holds Tryz.pinned (.plain (OpenSpec.upto lowerLoopsSpec)) lowerLoopsUptoCard
end Rows
end Go.Proofs.YtgmapenlgammfaaGreatDoor
