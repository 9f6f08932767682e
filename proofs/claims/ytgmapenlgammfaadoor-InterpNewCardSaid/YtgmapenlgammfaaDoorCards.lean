/-
  DERIVED. GIVEN WITH THE SEED: THE CARDS: each row of YtgmapenlgammfaaDoorRows.lean that lists a variable, with what it lists TIED to the program's text (the seventh form; the later family's looks); each row that meets fmt, with fmt's text TOLD by the authors' own Lean function (tested against real Go, not proved from fmt's source: count such statements apart). THE CARD IS WHAT COUNTS. Prove the row's statement (the work); the ties are given (YtgmapenlgammfaaDoorTie.lean); close each card by the builder's one call (the guide's Derived/Test/ToyasCard.lean, 'card_holds'). Laid BY PROGRAM, IN A SANDBOX (cutbox-door.mjs). By AI agents, Wed Nov 11 2026. No macro, syntax, notation, axiom, sorry.
-/
import Derived.Test.YtgmapenlgammfaaDoorRows
import GoSem.ClaimSeven
namespace Go.Proofs.YtgmapenlgammfaaDoor
namespace Rows

/-- THE TIED CARD OF 'ontimelaw16.InterpNew'. -/
def interpNewCard : Claim7 := { stood := { row := interpNewRow, standIns := [], harness := (true, "17e39f510eceaedf268fc445c3aab494de12bbb4eb8b7dd5278d258e6c24031b"), looks := true }, kinds := [], alts := [], laidByText := true, laidKinds := [.listed, .data], laidTests := true, laidLooks := .later }
def InterpNewCardSaid : Prop := Claim7.holds Tryd.pinned (.plain (OpenSpec.ofChange interpNewSpec)) interpNewCard

/-- THE TIED CARD OF 'ontimelaw16.InterpApart'. -/
def interpApartCard : Claim7 := { stood := { row := interpApartRow, standIns := [], harness := (true, "17e39f510eceaedf268fc445c3aab494de12bbb4eb8b7dd5278d258e6c24031b"), looks := true }, kinds := [], alts := [], laidByText := true, laidKinds := [.listed, .data], laidTests := true, laidLooks := .later }
def InterpApartCardSaid : Prop := Claim7.holds Tryd.pinned (.plain (OpenSpec.ofChange interpApartSpec)) interpApartCard

/-- THE SECOND FORM's CARD OF 'ontimelaw16.InterpNew'. -/
def interpNewUptoCard : Claim7 := { stood := { row := interpNewUptoRow, standIns := [], harness := (true, "17e39f510eceaedf268fc445c3aab494de12bbb4eb8b7dd5278d258e6c24031b"), looks := true }, kinds := [], alts := [], laidByText := true, laidKinds := [.listed, .data], laidTests := true, laidLooks := .later }
def InterpNewUptoCardSaid : Prop := Claim7.holds Tryd.pinned (.plain (OpenSpec.upto interpNewSpec)) interpNewUptoCard

/-- THE SECOND FORM's CARD OF 'ontimelaw16.InterpApart'. -/
def interpApartUptoCard : Claim7 := { stood := { row := interpApartUptoRow, standIns := [], harness := (true, "17e39f510eceaedf268fc445c3aab494de12bbb4eb8b7dd5278d258e6c24031b"), looks := true }, kinds := [], alts := [], laidByText := true, laidKinds := [.listed, .data], laidTests := true, laidLooks := .later }
def InterpApartUptoCardSaid : Prop := Claim7.holds Tryd.pinned (.plain (OpenSpec.upto interpApartSpec)) interpApartUptoCard
end Rows
end Go.Proofs.YtgmapenlgammfaaDoor
