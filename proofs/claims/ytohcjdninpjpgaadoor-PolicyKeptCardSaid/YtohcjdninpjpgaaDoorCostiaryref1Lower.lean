/- A contract: ref1.Lower. -/
import Derived.Test.YtohcjdninpjpgaaDoorLow
namespace Go.Proofs.YtohcjdninpjpgaaDoor.Own
open Go.RowKit Go.Proofs.YtohcjdninpjpgaaDoor.Pl Go.Proofs.YtohcjdninpjpgaaDoorW.PrintWords Go.Proofs.YtohcjdninpjpgaaDoorW.PrintLast Go.Proofs.YtohcjdninpjpgaaDoorW.PrintMore

def ostiaryref1_Lower.f (a0 : ByteArray) : Option ByteArray := if a0.size < 100000000 then some (strOfNums (low (bytesOf a0))) else none

theorem ostiaryref1_Lower.calls (a0 r : ByteArray) (w : World) (h : ostiaryref1_Lower.f a0 = some r) :
    Calls Tryd.prog 38 #[.string a0] w fun e w' => e = .returned (.string r) ∧ Below w.heap.size w w' := by
  unfold ostiaryref1_Lower.f at h
  split at h
  · rename_i hs
    injection h with h
    subst h
    exact rlower_any a0 hs w
  · exact nomatch h

end Go.Proofs.YtohcjdninpjpgaaDoor.Own
