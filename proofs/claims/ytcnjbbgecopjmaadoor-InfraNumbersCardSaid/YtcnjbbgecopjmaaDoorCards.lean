/-
  DERIVED. GIVEN WITH THE SEED: THE CARDS: each row of YtcnjbbgecopjmaaDoorRows.lean that lists a variable, with what it lists TIED to the program's text (the seventh form; the later family's looks); each row that meets fmt, with fmt's text TOLD by the authors' own Lean function (tested against real Go, not proved from fmt's source: count such statements apart). THE CARD IS WHAT COUNTS. Prove the row's statement (the work); the ties are given (YtcnjbbgecopjmaaDoorTie.lean); close each card by the builder's one call (the guide's Derived/Test/ToyasCard.lean, 'card_holds'). Laid BY PROGRAM, IN A SANDBOX (cutbox-door.mjs). By AI agents, Wed Nov 11 2026. No macro, syntax, notation, axiom, sorry.
-/
import Derived.Test.YtcnjbbgecopjmaaDoorRows
import GoSem.ClaimSeven
namespace Go.Proofs.YtcnjbbgecopjmaaDoor
namespace Rows

/-- THE TIED CARD OF 'ostiarylaw1.InfraDecoded'. -/
def infraDecodedCard : Claim7 := { stood := { row := infraDecodedRow, standIns := [], harness := (true, "68fab29bff8c108b6be9a611f3f0d246bc5ed570487e684d9d3b40c3afc1fac9"), looks := false }, kinds := [], alts := [], laidByText := true, laidKinds := [.data, .pinned], laidTests := true, laidLooks := .later }
def InfraDecodedCardSaid : Prop := Claim7.holds Tryd.pinned (.plain (OpenSpec.ofChange infraDecodedSpec)) infraDecodedCard

/-- THE TIED CARD OF 'ostiarylaw1.InfraTokens'. -/
def infraTokensCard : Claim7 := { stood := { row := infraTokensRow, standIns := [], harness := (true, "68fab29bff8c108b6be9a611f3f0d246bc5ed570487e684d9d3b40c3afc1fac9"), looks := false }, kinds := [], alts := [], laidByText := true, laidKinds := [.data, .pinned], laidTests := true, laidLooks := .later }
def InfraTokensCardSaid : Prop := Claim7.holds Tryd.pinned (.plain (OpenSpec.ofChange infraTokensSpec)) infraTokensCard

/-- THE TIED CARD OF 'ostiarylaw1.InfraNumbers'. -/
def infraNumbersCard : Claim7 := { stood := { row := infraNumbersRow, standIns := [], harness := (true, "68fab29bff8c108b6be9a611f3f0d246bc5ed570487e684d9d3b40c3afc1fac9"), looks := false }, kinds := [], alts := [], laidByText := true, laidKinds := [.data, .pinned], laidTests := true, laidLooks := .later }
def InfraNumbersCardSaid : Prop := Claim7.holds Tryd.pinned (.plain (OpenSpec.ofChange infraNumbersSpec)) infraNumbersCard

/-- THE TIED CARD OF 'ostiarylaw1.InfraTexts'. -/
def infraTextsCard : Claim7 := { stood := { row := infraTextsRow, standIns := [], harness := (true, "68fab29bff8c108b6be9a611f3f0d246bc5ed570487e684d9d3b40c3afc1fac9"), looks := false }, kinds := [], alts := [], laidByText := true, laidKinds := [.data, .pinned], laidTests := true, laidLooks := .later }
def InfraTextsCardSaid : Prop := Claim7.holds Tryd.pinned (.plain (OpenSpec.ofChange infraTextsSpec)) infraTextsCard

/-- THE SECOND FORM's CARD OF 'ostiarylaw1.InfraDecoded'. -/
def infraDecodedUptoCard : Claim7 := { stood := { row := infraDecodedUptoRow, standIns := [], harness := (true, "68fab29bff8c108b6be9a611f3f0d246bc5ed570487e684d9d3b40c3afc1fac9"), looks := false }, kinds := [], alts := [], laidByText := true, laidKinds := [.data, .pinned], laidTests := true, laidLooks := .later }
def InfraDecodedUptoCardSaid : Prop := Claim7.holds Tryd.pinned (.plain (OpenSpec.upto infraDecodedSpec)) infraDecodedUptoCard

/-- THE SECOND FORM's CARD OF 'ostiarylaw1.InfraTokens'. -/
def infraTokensUptoCard : Claim7 := { stood := { row := infraTokensUptoRow, standIns := [], harness := (true, "68fab29bff8c108b6be9a611f3f0d246bc5ed570487e684d9d3b40c3afc1fac9"), looks := false }, kinds := [], alts := [], laidByText := true, laidKinds := [.data, .pinned], laidTests := true, laidLooks := .later }
def InfraTokensUptoCardSaid : Prop := Claim7.holds Tryd.pinned (.plain (OpenSpec.upto infraTokensSpec)) infraTokensUptoCard

/-- THE SECOND FORM's CARD OF 'ostiarylaw1.InfraNumbers'. -/
def infraNumbersUptoCard : Claim7 := { stood := { row := infraNumbersUptoRow, standIns := [], harness := (true, "68fab29bff8c108b6be9a611f3f0d246bc5ed570487e684d9d3b40c3afc1fac9"), looks := false }, kinds := [], alts := [], laidByText := true, laidKinds := [.data, .pinned], laidTests := true, laidLooks := .later }
def InfraNumbersUptoCardSaid : Prop := Claim7.holds Tryd.pinned (.plain (OpenSpec.upto infraNumbersSpec)) infraNumbersUptoCard

/-- THE SECOND FORM's CARD OF 'ostiarylaw1.InfraTexts'. -/
def infraTextsUptoCard : Claim7 := { stood := { row := infraTextsUptoRow, standIns := [], harness := (true, "68fab29bff8c108b6be9a611f3f0d246bc5ed570487e684d9d3b40c3afc1fac9"), looks := false }, kinds := [], alts := [], laidByText := true, laidKinds := [.data, .pinned], laidTests := true, laidLooks := .later }
def InfraTextsUptoCardSaid : Prop := Claim7.holds Tryd.pinned (.plain (OpenSpec.upto infraTextsSpec)) infraTextsUptoCard
end Rows
end Go.Proofs.YtcnjbbgecopjmaaDoor
