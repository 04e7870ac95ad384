/-
  No cell of these rows narrows 'for every input' (looked for: loops, veiled, ifaces, maps, wideKeys, modest, calm, conditions, laid).
  DERIVED. THE GIVEN ROWS OF THIS SEAT. 5 by the template 'for every input the law returns true; each argument reads behind the call as it read before'; 0 by the template 'total and deterministic' (their statements: YtcnjbbgecopjmaaTotals.lean).
  GIVEN WITH THE SEED: the statements are not yours to turn. If you find one false, say at which input.
  Laid BY PROGRAM, IN A SANDBOX (cutbox-rows.mjs): the forced cells as the released guide's own fill.sh prints them over the translation 63f20e654cd43352… (all of the seat's roots in one cut). By AI agents, Wed Nov 11 2026. No macro, syntax, notation, axiom, sorry.
-/
import Derived.Test.YtcnjbbgecopjmaaChecked
import GoSem.Claim
import GoSem.ClaimJoined
import GoSem.ClaimMapViews
import Derived.JoinedTies
import Derived.KernelRfl
namespace Go.Proofs.Ytcnjbbgecopjmaa
/- THE CELL 'sum', in the pinned program and in every row, IS THE sha256 OF THE DUMP (.gsa) THAT YtcnjbbgecopjmaaProg.lean LOADS. Nothing in Lean hashes anything: it is a label: what it is worth is what the hold of that sum in a sandbox is worth. -/
noncomputable def Try.pinned : Pinned := { name := "ytcnjbbgecopjmaa", sum := "63f20e654cd43352a35879a5fae1e3d35ffa643faacd0b62d19195ea8794dff5", checked := Try.checked }
namespace Rows
def none {H : Type} : Left H := { results := [], args := [] }

/-- 'ostiarylaw1.InfraSets': WHATEVER THE INPUT: true; the input reads as it did. -/
def infraSetsSpec : ChangeSpec := { name := "infraSets", fn := fun _ => fun
  | [d] => { results := [.lit (.bool true)], args := [d] }
  | _ => none }
def infraSetsRow : OpenClaim := { program := "ytcnjbbgecopjmaa", sum := "63f20e654cd43352a35879a5fae1e3d35ffa643faacd0b62d19195ea8794dff5", func := "ostiary/ostiarylaw1.InfraSets", spec := "infraSets", inPlace := ["internal/bytealg.IndexByteString"], apart := false }
def InfraSetsSaid : Prop := infraSetsRow.holds Try.pinned (OpenSpec.ofChange infraSetsSpec)

/-- ITS FALSE NEIGHBOUR: 'it returns false'. Refute it at one input. -/
def infraSetsWrong : ChangeSpec := { name := "infraSets", fn := fun _ => fun
  | [d] => { results := [.lit (.bool false)], args := [d] }
  | _ => none }
def InfraSetsWrongFalsely : Prop := infraSetsRow.holds Try.pinned (OpenSpec.ofChange infraSetsWrong)

/-- 'ostiarylaw1.InfraCodes': WHATEVER THE INPUT: true; the input reads as it did. -/
def infraCodesSpec : ChangeSpec := { name := "infraCodes", fn := fun _ => fun
  | [d1, d2] => { results := [.lit (.bool true)], args := [d1, d2] }
  | _ => none }
def infraCodesRow : OpenClaim := { program := "ytcnjbbgecopjmaa", sum := "63f20e654cd43352a35879a5fae1e3d35ffa643faacd0b62d19195ea8794dff5", func := "ostiary/ostiarylaw1.InfraCodes", spec := "infraCodes", inPlace := ["internal/bytealg.IndexByteString"], apart := false }
def InfraCodesSaid : Prop := infraCodesRow.holds Try.pinned (OpenSpec.ofChange infraCodesSpec)

/-- ITS FALSE NEIGHBOUR: 'it returns false'. Refute it at one input. -/
def infraCodesWrong : ChangeSpec := { name := "infraCodes", fn := fun _ => fun
  | [d1, d2] => { results := [.lit (.bool false)], args := [d1, d2] }
  | _ => none }
def InfraCodesWrongFalsely : Prop := infraCodesRow.holds Try.pinned (OpenSpec.ofChange infraCodesWrong)

/-- 'ostiarylaw1.InfraBack': WHATEVER THE INPUT: true; the input reads as it did. -/
def infraBackSpec : ChangeSpec := { name := "infraBack", fn := fun _ => fun
  | [d1, d2] => { results := [.lit (.bool true)], args := [d1, d2] }
  | _ => none }
def infraBackRow : OpenClaim := { program := "ytcnjbbgecopjmaa", sum := "63f20e654cd43352a35879a5fae1e3d35ffa643faacd0b62d19195ea8794dff5", func := "ostiary/ostiarylaw1.InfraBack", spec := "infraBack", inPlace := ["internal/bytealg.IndexByteString"], apart := false }
def InfraBackSaid : Prop := infraBackRow.holds Try.pinned (OpenSpec.ofChange infraBackSpec)

/-- ITS FALSE NEIGHBOUR: 'it returns false'. Refute it at one input. -/
def infraBackWrong : ChangeSpec := { name := "infraBack", fn := fun _ => fun
  | [d1, d2] => { results := [.lit (.bool false)], args := [d1, d2] }
  | _ => none }
def InfraBackWrongFalsely : Prop := infraBackRow.holds Try.pinned (OpenSpec.ofChange infraBackWrong)

/-- 'ostiarylaw1.InfraKept': WHATEVER THE INPUT: true; the input reads as it did. -/
def infraKeptSpec : ChangeSpec := { name := "infraKept", fn := fun _ => fun
  | [d] => { results := [.lit (.bool true)], args := [d] }
  | _ => none }
def infraKeptRow : OpenClaim := { program := "ytcnjbbgecopjmaa", sum := "63f20e654cd43352a35879a5fae1e3d35ffa643faacd0b62d19195ea8794dff5", func := "ostiary/ostiarylaw1.InfraKept", spec := "infraKept", inPlace := ["internal/bytealg.IndexByteString"], unfollowed := true, recurses := true, apart := false }
def InfraKeptSaid : Prop := infraKeptRow.holds Try.pinned (OpenSpec.ofChange infraKeptSpec)

/-- ITS FALSE NEIGHBOUR: 'it returns false'. Refute it at one input. -/
def infraKeptWrong : ChangeSpec := { name := "infraKept", fn := fun _ => fun
  | [d] => { results := [.lit (.bool false)], args := [d] }
  | _ => none }
def InfraKeptWrongFalsely : Prop := infraKeptRow.holds Try.pinned (OpenSpec.ofChange infraKeptWrong)

/-- 'ostiarylaw1.InfraNumerals': WHATEVER THE INPUT: true; the input reads as it did. -/
def infraNumeralsSpec : ChangeSpec := { name := "infraNumerals", fn := fun _ => fun
  | [d1, d2, d3, d4] => { results := [.lit (.bool true)], args := [d1, d2, d3, d4] }
  | _ => none }
def infraNumeralsRow : OpenClaim := { program := "ytcnjbbgecopjmaa", sum := "63f20e654cd43352a35879a5fae1e3d35ffa643faacd0b62d19195ea8794dff5", func := "ostiary/ostiarylaw1.InfraNumerals", spec := "infraNumerals", inPlace := ["internal/bytealg.IndexByteString"], apart := false }
def InfraNumeralsSaid : Prop := infraNumeralsRow.holds Try.pinned (OpenSpec.ofChange infraNumeralsSpec)

/-- ITS FALSE NEIGHBOUR: 'it returns false'. Refute it at one input. -/
def infraNumeralsWrong : ChangeSpec := { name := "infraNumerals", fn := fun _ => fun
  | [d1, d2, d3, d4] => { results := [.lit (.bool false)], args := [d1, d2, d3, d4] }
  | _ => none }
def InfraNumeralsWrongFalsely : Prop := infraNumeralsRow.holds Try.pinned (OpenSpec.ofChange infraNumeralsWrong)

/- THE SECOND FORM. 'bulk': how many values and letters a reading holds, each counted each time it is reached (what is shared counts as often as it is met; a slice's spare places count too). A statement '..UptoSaid' is the law's where the arguments, and the package variables that the reading takes, are together of bulk at most 1048576: NARROWER than '..Said'. Prove '..Said' where nothing that the law and all that it calls make is longer than what came in: it says more and counts as full. Else prove '..UptoSaid'. A law counts once. -/
mutual
def uptoBulk {H : Type} : DataW H → Nat
  | .lit (.string bytes) => bytes.length + 1
  | .lit _ => 1
  | .nil => 1
  | .ptr d => uptoBulk d + 1
  | .slice elems spare => uptoBulkAll elems + uptoBulkAll spare + 1
  | .agg parts => uptoBulkAll parts + 1
  | .iface _ d => uptoBulk d + 1
  | .map entries => uptoBulkEntries entries + 1
  | .held _ => 1
def uptoBulkAll {H : Type} : List (DataW H) → Nat
  | [] => 0
  | d :: r => uptoBulk d + uptoBulkAll r
def uptoBulkEntries {H : Type} : List (Lit × DataW H) → Nat
  | [] => 0
  | x :: r => uptoBulkEntry x + uptoBulkEntries r
def uptoBulkEntry {H : Type} : Lit × DataW H → Nat
  | (.string bytes, d) => bytes.length + uptoBulk d + 1
  | (_, d) => uptoBulk d + 1
 end
def uptoSmall : (H : Type) → List (DataW H) → Bool := fun _ ds => decide (uptoBulkAll ds ≤ 1048576)
def OpenSpec.upto (s : _root_.Go.ChangeSpec) : _root_.Go.OpenSpec := { _root_.Go.OpenSpec.ofChange s with cond := some uptoSmall }

/-- 'ostiarylaw1.InfraSets', WHERE WHAT IT READS IS OF BULK AT MOST 1048576: true; the input reads as it did. -/
def infraSetsUptoRow : OpenClaim := { program := "ytcnjbbgecopjmaa", sum := "63f20e654cd43352a35879a5fae1e3d35ffa643faacd0b62d19195ea8794dff5", func := "ostiary/ostiarylaw1.InfraSets", spec := "infraSets", inPlace := ["internal/bytealg.IndexByteString"], apart := false, narrowed := true }
def InfraSetsUptoSaid : Prop := infraSetsUptoRow.holds Try.pinned (OpenSpec.upto infraSetsSpec)

/-- 'ostiarylaw1.InfraCodes', WHERE WHAT IT READS IS OF BULK AT MOST 1048576: true; the input reads as it did. -/
def infraCodesUptoRow : OpenClaim := { program := "ytcnjbbgecopjmaa", sum := "63f20e654cd43352a35879a5fae1e3d35ffa643faacd0b62d19195ea8794dff5", func := "ostiary/ostiarylaw1.InfraCodes", spec := "infraCodes", inPlace := ["internal/bytealg.IndexByteString"], apart := false, narrowed := true }
def InfraCodesUptoSaid : Prop := infraCodesUptoRow.holds Try.pinned (OpenSpec.upto infraCodesSpec)

/-- 'ostiarylaw1.InfraBack', WHERE WHAT IT READS IS OF BULK AT MOST 1048576: true; the input reads as it did. -/
def infraBackUptoRow : OpenClaim := { program := "ytcnjbbgecopjmaa", sum := "63f20e654cd43352a35879a5fae1e3d35ffa643faacd0b62d19195ea8794dff5", func := "ostiary/ostiarylaw1.InfraBack", spec := "infraBack", inPlace := ["internal/bytealg.IndexByteString"], apart := false, narrowed := true }
def InfraBackUptoSaid : Prop := infraBackUptoRow.holds Try.pinned (OpenSpec.upto infraBackSpec)

/-- 'ostiarylaw1.InfraKept', WHERE WHAT IT READS IS OF BULK AT MOST 1048576: true; the input reads as it did. -/
def infraKeptUptoRow : OpenClaim := { program := "ytcnjbbgecopjmaa", sum := "63f20e654cd43352a35879a5fae1e3d35ffa643faacd0b62d19195ea8794dff5", func := "ostiary/ostiarylaw1.InfraKept", spec := "infraKept", inPlace := ["internal/bytealg.IndexByteString"], unfollowed := true, recurses := true, apart := false, narrowed := true }
def InfraKeptUptoSaid : Prop := infraKeptUptoRow.holds Try.pinned (OpenSpec.upto infraKeptSpec)

/-- 'ostiarylaw1.InfraNumerals', WHERE WHAT IT READS IS OF BULK AT MOST 1048576: true; the input reads as it did. -/
def infraNumeralsUptoRow : OpenClaim := { program := "ytcnjbbgecopjmaa", sum := "63f20e654cd43352a35879a5fae1e3d35ffa643faacd0b62d19195ea8794dff5", func := "ostiary/ostiarylaw1.InfraNumerals", spec := "infraNumerals", inPlace := ["internal/bytealg.IndexByteString"], apart := false, narrowed := true }
def InfraNumeralsUptoSaid : Prop := infraNumeralsUptoRow.holds Try.pinned (OpenSpec.upto infraNumeralsSpec)

end Rows
end Go.Proofs.Ytcnjbbgecopjmaa
