/-
  No cell of these rows narrows 'for every input' (looked for: loops, veiled, ifaces, maps, wideKeys, modest, calm, conditions, laid).
  DERIVED. THE GIVEN ROWS OF THIS SEAT. 5 by the template 'for every input the law returns true; each argument reads behind the call as it read before'; 0 by the template 'total and deterministic' (their statements: YtfbifmgaehgcmaaTotals.lean).
  GIVEN WITH THE SEED: the statements are not yours to turn. If you find one false, say at which input.
  Laid BY PROGRAM, IN A SANDBOX (cutbox-rows.mjs): the forced cells as the released guide's own fill.sh prints them over the translation f16ba71148e583fa… (all of the seat's roots in one cut). By AI agents, Wed Nov 11 2026. No macro, syntax, notation, axiom, sorry.
-/
import Derived.Test.YtfbifmgaehgcmaaChecked
import GoSem.Claim
import GoSem.ClaimJoined
import GoSem.ClaimMapViews
import Derived.JoinedTies
import Derived.KernelRfl
namespace Go.Proofs.Ytfbifmgaehgcmaa
/- THE CELL 'sum', in the pinned program and in every row, IS THE sha256 OF THE DUMP (.gsa) THAT YtfbifmgaehgcmaaProg.lean LOADS. Nothing in Lean hashes anything: it is a label: what it is worth is what the hold of that sum in a sandbox is worth. -/
noncomputable def Try.pinned : Pinned := { name := "ytfbifmgaehgcmaa", sum := "f16ba71148e583fa6ab7446d334d8ecec0c35207b75ce258b52997c9ee2fb461", checked := Try.checked }
namespace Rows
def none {H : Type} : Left H := { results := [], args := [] }

/-- 'ostiarylaw24.RhythmAdds': WHATEVER THE INPUT: true; the input reads as it did. -/
def rhythmAddsSpec : ChangeSpec := { name := "rhythmAdds", fn := fun _ => fun
  | [d1, d2] => { results := [.lit (.bool true)], args := [d1, d2] }
  | _ => none }
def rhythmAddsRow : OpenClaim := { program := "ytfbifmgaehgcmaa", sum := "f16ba71148e583fa6ab7446d334d8ecec0c35207b75ce258b52997c9ee2fb461", func := "ostiary/ostiarylaw24.RhythmAdds", spec := "rhythmAdds", apart := false }
def RhythmAddsSaid : Prop := rhythmAddsRow.holds Try.pinned (OpenSpec.ofChange rhythmAddsSpec)

/-- ITS FALSE NEIGHBOUR: 'it returns false'. Refute it at one input. -/
def rhythmAddsWrong : ChangeSpec := { name := "rhythmAdds", fn := fun _ => fun
  | [d1, d2] => { results := [.lit (.bool false)], args := [d1, d2] }
  | _ => none }
def RhythmAddsWrongFalsely : Prop := rhythmAddsRow.holds Try.pinned (OpenSpec.ofChange rhythmAddsWrong)

/-- 'ostiarylaw24.RhythmFolds': WHATEVER THE INPUT: true; the input reads as it did. -/
def rhythmFoldsSpec : ChangeSpec := { name := "rhythmFolds", fn := fun _ => fun
  | [d1, d2] => { results := [.lit (.bool true)], args := [d1, d2] }
  | _ => none }
def rhythmFoldsRow : OpenClaim := { program := "ytfbifmgaehgcmaa", sum := "f16ba71148e583fa6ab7446d334d8ecec0c35207b75ce258b52997c9ee2fb461", func := "ostiary/ostiarylaw24.RhythmFolds", spec := "rhythmFolds", inPlace := ["math.Float64bits", "math.Float64frombits", "math/bits.Add64"], unfollowed := true, recurses := true, apart := false }
def RhythmFoldsSaid : Prop := rhythmFoldsRow.holds Try.pinned (OpenSpec.ofChange rhythmFoldsSpec)

/-- ITS FALSE NEIGHBOUR: 'it returns false'. Refute it at one input. -/
def rhythmFoldsWrong : ChangeSpec := { name := "rhythmFolds", fn := fun _ => fun
  | [d1, d2] => { results := [.lit (.bool false)], args := [d1, d2] }
  | _ => none }
def RhythmFoldsWrongFalsely : Prop := rhythmFoldsRow.holds Try.pinned (OpenSpec.ofChange rhythmFoldsWrong)

/-- 'ostiarylaw24.RhythmBack': WHATEVER THE INPUT: true; the input reads as it did. -/
def rhythmBackSpec : ChangeSpec := { name := "rhythmBack", fn := fun _ => fun
  | [d1, d2, d3] => { results := [.lit (.bool true)], args := [d1, d2, d3] }
  | _ => none }
def rhythmBackRow : OpenClaim := { program := "ytfbifmgaehgcmaa", sum := "f16ba71148e583fa6ab7446d334d8ecec0c35207b75ce258b52997c9ee2fb461", func := "ostiary/ostiarylaw24.RhythmBack", spec := "rhythmBack", inPlace := ["math.archTrunc", "math.Float64bits", "math.Float64frombits"], apart := false }
def RhythmBackSaid : Prop := rhythmBackRow.holds Try.pinned (OpenSpec.ofChange rhythmBackSpec)

/-- ITS FALSE NEIGHBOUR: 'it returns false'. Refute it at one input. -/
def rhythmBackWrong : ChangeSpec := { name := "rhythmBack", fn := fun _ => fun
  | [d1, d2, d3] => { results := [.lit (.bool false)], args := [d1, d2, d3] }
  | _ => none }
def RhythmBackWrongFalsely : Prop := rhythmBackRow.holds Try.pinned (OpenSpec.ofChange rhythmBackWrong)

/-- 'ostiarylaw24.RhythmNumbers': WHATEVER THE INPUT: true; the input reads as it did. -/
def rhythmNumbersSpec : ChangeSpec := { name := "rhythmNumbers", fn := fun _ => fun
  | [] => { results := [.lit (.bool true)], args := [] }
  | _ => none }
def rhythmNumbersRow : OpenClaim := { program := "ytfbifmgaehgcmaa", sum := "f16ba71148e583fa6ab7446d334d8ecec0c35207b75ce258b52997c9ee2fb461", func := "ostiary/ostiarylaw24.RhythmNumbers", spec := "rhythmNumbers", inPlace := ["math.archTrunc", "math.Float64bits", "math.Float64frombits", "math/bits.Add64"], unfollowed := true, recurses := true, apart := false }
def RhythmNumbersSaid : Prop := rhythmNumbersRow.holds Try.pinned (OpenSpec.ofChange rhythmNumbersSpec)

/-- ITS FALSE NEIGHBOUR: 'it returns false'. Refute it at one input. -/
def rhythmNumbersWrong : ChangeSpec := { name := "rhythmNumbers", fn := fun _ => fun
  | [] => { results := [.lit (.bool false)], args := [] }
  | _ => none }
def RhythmNumbersWrongFalsely : Prop := rhythmNumbersRow.holds Try.pinned (OpenSpec.ofChange rhythmNumbersWrong)

/-- 'ostiarylaw24.RhythmSpectra': WHATEVER THE INPUT: true; the input reads as it did. -/
def rhythmSpectraSpec : ChangeSpec := { name := "rhythmSpectra", fn := fun _ => fun
  | [d1, d2, d3, d4, d5] => { results := [.lit (.bool true)], args := [d1, d2, d3, d4, d5] }
  | _ => none }
def rhythmSpectraRow : OpenClaim := { program := "ytfbifmgaehgcmaa", sum := "f16ba71148e583fa6ab7446d334d8ecec0c35207b75ce258b52997c9ee2fb461", func := "ostiary/ostiarylaw24.RhythmSpectra", spec := "rhythmSpectra", inPlace := ["math.archTrunc", "math.Float64bits", "math.Float64frombits", "math/bits.Add64"], unfollowed := true, recurses := true, apart := false }
def RhythmSpectraSaid : Prop := rhythmSpectraRow.holds Try.pinned (OpenSpec.ofChange rhythmSpectraSpec)

/-- ITS FALSE NEIGHBOUR: 'it returns false'. Refute it at one input. -/
def rhythmSpectraWrong : ChangeSpec := { name := "rhythmSpectra", fn := fun _ => fun
  | [d1, d2, d3, d4, d5] => { results := [.lit (.bool false)], args := [d1, d2, d3, d4, d5] }
  | _ => none }
def RhythmSpectraWrongFalsely : Prop := rhythmSpectraRow.holds Try.pinned (OpenSpec.ofChange rhythmSpectraWrong)

/- THE SECOND FORM. 'bulk': how many values and letters a reading holds, each counted each time it is reached (what is shared counts as often as it is met; a slice's spare places count too). A statement '..UptoSaid' is the law's where the arguments, and the package variables that the reading takes, are together of bulk at most 1048576: NARROWER than '..Said'. Prove '..Said' where nothing that the law and all that it calls make is longer than what came in: it says more and counts as full. Else prove '..UptoSaid'. A law counts once. -/
mutual
def uptoBulk {H : Type} : DataW H → Nat
  | .lit (.string bytes) => bytes.length + 1
  | .lit _ => 1
  | .nil => 1
  | .ptr d => uptoBulk d + 1
  | .slice elems spare => uptoBulkAll elems + uptoBulkAll spare + 1
  | .agg parts => uptoBulkAll parts + 1
  | .iface _ d => uptoBulk d + 1
  | .map entries => uptoBulkEntries entries + 1
  | .held _ => 1
def uptoBulkAll {H : Type} : List (DataW H) → Nat
  | [] => 0
  | d :: r => uptoBulk d + uptoBulkAll r
def uptoBulkEntries {H : Type} : List (Lit × DataW H) → Nat
  | [] => 0
  | x :: r => uptoBulkEntry x + uptoBulkEntries r
def uptoBulkEntry {H : Type} : Lit × DataW H → Nat
  | (.string bytes, d) => bytes.length + uptoBulk d + 1
  | (_, d) => uptoBulk d + 1
 end
def uptoSmall : (H : Type) → List (DataW H) → Bool := fun _ ds => decide (uptoBulkAll ds ≤ 1048576)
def OpenSpec.upto (s : _root_.Go.ChangeSpec) : _root_.Go.OpenSpec := { _root_.Go.OpenSpec.ofChange s with cond := some uptoSmall }

/-- 'ostiarylaw24.RhythmAdds', WHERE WHAT IT READS IS OF BULK AT MOST 1048576: true; the input reads as it did. -/
def rhythmAddsUptoRow : OpenClaim := { program := "ytfbifmgaehgcmaa", sum := "f16ba71148e583fa6ab7446d334d8ecec0c35207b75ce258b52997c9ee2fb461", func := "ostiary/ostiarylaw24.RhythmAdds", spec := "rhythmAdds", apart := false, narrowed := true }
def RhythmAddsUptoSaid : Prop := rhythmAddsUptoRow.holds Try.pinned (OpenSpec.upto rhythmAddsSpec)

/-- 'ostiarylaw24.RhythmFolds', WHERE WHAT IT READS IS OF BULK AT MOST 1048576: true; the input reads as it did. -/
def rhythmFoldsUptoRow : OpenClaim := { program := "ytfbifmgaehgcmaa", sum := "f16ba71148e583fa6ab7446d334d8ecec0c35207b75ce258b52997c9ee2fb461", func := "ostiary/ostiarylaw24.RhythmFolds", spec := "rhythmFolds", inPlace := ["math.Float64bits", "math.Float64frombits", "math/bits.Add64"], unfollowed := true, recurses := true, apart := false, narrowed := true }
def RhythmFoldsUptoSaid : Prop := rhythmFoldsUptoRow.holds Try.pinned (OpenSpec.upto rhythmFoldsSpec)

/-- 'ostiarylaw24.RhythmBack', WHERE WHAT IT READS IS OF BULK AT MOST 1048576: true; the input reads as it did. -/
def rhythmBackUptoRow : OpenClaim := { program := "ytfbifmgaehgcmaa", sum := "f16ba71148e583fa6ab7446d334d8ecec0c35207b75ce258b52997c9ee2fb461", func := "ostiary/ostiarylaw24.RhythmBack", spec := "rhythmBack", inPlace := ["math.archTrunc", "math.Float64bits", "math.Float64frombits"], apart := false, narrowed := true }
def RhythmBackUptoSaid : Prop := rhythmBackUptoRow.holds Try.pinned (OpenSpec.upto rhythmBackSpec)

/-- 'ostiarylaw24.RhythmNumbers', WHERE WHAT IT READS IS OF BULK AT MOST 1048576: true; the input reads as it did. -/
def rhythmNumbersUptoRow : OpenClaim := { program := "ytfbifmgaehgcmaa", sum := "f16ba71148e583fa6ab7446d334d8ecec0c35207b75ce258b52997c9ee2fb461", func := "ostiary/ostiarylaw24.RhythmNumbers", spec := "rhythmNumbers", inPlace := ["math.archTrunc", "math.Float64bits", "math.Float64frombits", "math/bits.Add64"], unfollowed := true, recurses := true, apart := false, narrowed := true }
def RhythmNumbersUptoSaid : Prop := rhythmNumbersUptoRow.holds Try.pinned (OpenSpec.upto rhythmNumbersSpec)

/-- 'ostiarylaw24.RhythmSpectra', WHERE WHAT IT READS IS OF BULK AT MOST 1048576: true; the input reads as it did. -/
def rhythmSpectraUptoRow : OpenClaim := { program := "ytfbifmgaehgcmaa", sum := "f16ba71148e583fa6ab7446d334d8ecec0c35207b75ce258b52997c9ee2fb461", func := "ostiary/ostiarylaw24.RhythmSpectra", spec := "rhythmSpectra", inPlace := ["math.archTrunc", "math.Float64bits", "math.Float64frombits", "math/bits.Add64"], unfollowed := true, recurses := true, apart := false, narrowed := true }
def RhythmSpectraUptoSaid : Prop := rhythmSpectraUptoRow.holds Try.pinned (OpenSpec.upto rhythmSpectraSpec)

end Rows
end Go.Proofs.Ytfbifmgaehgcmaa
