/-
  DERIVED. GIVEN WITH THE SEED: THE CARDS: each row of YtohcjdninpjpgaaDoorRows.lean that lists a variable, with what it lists TIED to the program's text (the seventh form; the later family's looks); each row that meets fmt, with fmt's text TOLD by the authors' own Lean function (tested against real Go, not proved from fmt's source: count such statements apart). THE CARD IS WHAT COUNTS. Prove the row's statement (the work); the ties are given (YtohcjdninpjpgaaDoorTie.lean); close each card by the builder's one call (the guide's Derived/Test/ToyasCard.lean, 'card_holds'). Laid BY PROGRAM, IN A SANDBOX (cutbox-door.mjs). By AI agents, Wed Nov 11 2026. No macro, syntax, notation, axiom, sorry.
-/
import Derived.Test.YtohcjdninpjpgaaDoorRows
import GoSem.ClaimSeven
namespace Go.Proofs.YtohcjdninpjpgaaDoor
namespace Rows

/-- THE TIED CARD OF 'ostiarylaw10.PolicyNumbers'. -/
def policyNumbersCard : Claim7 := { stood := { row := policyNumbersRow, standIns := [], harness := (true, "2bcb262adfd1f6f438797e6a3fcdf7b485a890d30d05d37f235ed0fe0e868e11"), looks := false }, kinds := [], alts := [], laidByText := true, laidKinds := [.data, .pinned], laidTests := true, laidLooks := .later }
def PolicyNumbersCardSaid : Prop := Claim7.holds Tryd.pinned (.plain (OpenSpec.ofChange policyNumbersSpec)) policyNumbersCard

/-- THE TIED CARD OF 'ostiarylaw10.PolicyParses'. -/
def policyParsesCard : Claim7 := { stood := { row := policyParsesRow, standIns := [], harness := (true, "2bcb262adfd1f6f438797e6a3fcdf7b485a890d30d05d37f235ed0fe0e868e11"), looks := false }, kinds := [], alts := [], laidByText := true, laidKinds := [.data, .pinned], laidTests := true, laidLooks := .later }
def PolicyParsesCardSaid : Prop := Claim7.holds Tryd.pinned (.plain (OpenSpec.ofChange policyParsesSpec)) policyParsesCard

/-- THE TIED CARD OF 'ostiarylaw10.PolicyBack'. -/
def policyBackCard : Claim7 := { stood := { row := policyBackRow, standIns := [], harness := (true, "2bcb262adfd1f6f438797e6a3fcdf7b485a890d30d05d37f235ed0fe0e868e11"), looks := false }, kinds := [], alts := [], laidByText := true, laidKinds := [.data, .pinned], laidTests := true, laidLooks := .later }
def PolicyBackCardSaid : Prop := Claim7.holds Tryd.pinned (.plain (OpenSpec.ofChange policyBackSpec)) policyBackCard

/-- THE TIED CARD OF 'ostiarylaw10.PolicyKept'. -/
def policyKeptCard : Claim7 := { stood := { row := policyKeptRow, standIns := [], harness := (true, "2bcb262adfd1f6f438797e6a3fcdf7b485a890d30d05d37f235ed0fe0e868e11"), looks := false }, kinds := [], alts := [], laidByText := true, laidKinds := [.data, .pinned], laidTests := true, laidLooks := .later }
def PolicyKeptCardSaid : Prop := Claim7.holds Tryd.pinned (.plain (OpenSpec.ofChange policyKeptSpec)) policyKeptCard

/-- THE TIED CARD OF 'ostiarylaw10.PolicyFirst'. -/
def policyFirstCard : Claim7 := { stood := { row := policyFirstRow, standIns := [], harness := (true, "2bcb262adfd1f6f438797e6a3fcdf7b485a890d30d05d37f235ed0fe0e868e11"), looks := false }, kinds := [], alts := [], laidByText := true, laidKinds := [.data, .pinned], laidTests := true, laidLooks := .later }
def PolicyFirstCardSaid : Prop := Claim7.holds Tryd.pinned (.plain (OpenSpec.ofChange policyFirstSpec)) policyFirstCard

/-- THE SECOND FORM's CARD OF 'ostiarylaw10.PolicyNumbers'. -/
def policyNumbersUptoCard : Claim7 := { stood := { row := policyNumbersUptoRow, standIns := [], harness := (true, "2bcb262adfd1f6f438797e6a3fcdf7b485a890d30d05d37f235ed0fe0e868e11"), looks := false }, kinds := [], alts := [], laidByText := true, laidKinds := [.data, .pinned], laidTests := true, laidLooks := .later }
def PolicyNumbersUptoCardSaid : Prop := Claim7.holds Tryd.pinned (.plain (OpenSpec.upto policyNumbersSpec)) policyNumbersUptoCard

/-- THE SECOND FORM's CARD OF 'ostiarylaw10.PolicyParses'. -/
def policyParsesUptoCard : Claim7 := { stood := { row := policyParsesUptoRow, standIns := [], harness := (true, "2bcb262adfd1f6f438797e6a3fcdf7b485a890d30d05d37f235ed0fe0e868e11"), looks := false }, kinds := [], alts := [], laidByText := true, laidKinds := [.data, .pinned], laidTests := true, laidLooks := .later }
def PolicyParsesUptoCardSaid : Prop := Claim7.holds Tryd.pinned (.plain (OpenSpec.upto policyParsesSpec)) policyParsesUptoCard

/-- THE SECOND FORM's CARD OF 'ostiarylaw10.PolicyBack'. -/
def policyBackUptoCard : Claim7 := { stood := { row := policyBackUptoRow, standIns := [], harness := (true, "2bcb262adfd1f6f438797e6a3fcdf7b485a890d30d05d37f235ed0fe0e868e11"), looks := false }, kinds := [], alts := [], laidByText := true, laidKinds := [.data, .pinned], laidTests := true, laidLooks := .later }
def PolicyBackUptoCardSaid : Prop := Claim7.holds Tryd.pinned (.plain (OpenSpec.upto policyBackSpec)) policyBackUptoCard

/-- THE SECOND FORM's CARD OF 'ostiarylaw10.PolicyKept'. -/
def policyKeptUptoCard : Claim7 := { stood := { row := policyKeptUptoRow, standIns := [], harness := (true, "2bcb262adfd1f6f438797e6a3fcdf7b485a890d30d05d37f235ed0fe0e868e11"), looks := false }, kinds := [], alts := [], laidByText := true, laidKinds := [.data, .pinned], laidTests := true, laidLooks := .later }
def PolicyKeptUptoCardSaid : Prop := Claim7.holds Tryd.pinned (.plain (OpenSpec.upto policyKeptSpec)) policyKeptUptoCard

/-- THE SECOND FORM's CARD OF 'ostiarylaw10.PolicyFirst'. -/
def policyFirstUptoCard : Claim7 := { stood := { row := policyFirstUptoRow, standIns := [], harness := (true, "2bcb262adfd1f6f438797e6a3fcdf7b485a890d30d05d37f235ed0fe0e868e11"), looks := false }, kinds := [], alts := [], laidByText := true, laidKinds := [.data, .pinned], laidTests := true, laidLooks := .later }
def PolicyFirstUptoCardSaid : Prop := Claim7.holds Tryd.pinned (.plain (OpenSpec.upto policyFirstSpec)) policyFirstUptoCard
end Rows
end Go.Proofs.YtohcjdninpjpgaaDoor
