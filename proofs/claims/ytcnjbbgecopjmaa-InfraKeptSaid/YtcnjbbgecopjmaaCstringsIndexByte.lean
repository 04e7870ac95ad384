/- strings.IndexByte by the shelf's contract, in the form in which the printed texts call it. -/
import Derived.Test.YtcnjbbgecopjmaaShelf
import Derived.Test.YtcnjbbgecopjmaaWWords
namespace Go.Proofs.Ytcnjbbgecopjmaa.Own
open Go.RowKit Go.Proofs.YtcnjbbgecopjmaaW.PrintWords

def strings_IndexByte.f (a0 : ByteArray) (a1 : Int) : Option Int := some (Lib.indexByte a0.data.toList a1.toNat.toUInt8)

theorem strings_IndexByte.calls (a0 : ByteArray) (a1 : Int) (r : Int) (w : World) (h : strings_IndexByte.f a0 a1 = some r) :
    Calls Try.prog 26 #[.string a0, .int .u8 a1] w fun e w' => e = .returned (.int .i64 r) ∧ Drawn0 w w' :=
  (Try.strings_IndexByte a0 a1 w).mono fun e w' ⟨he, hw⟩ => ⟨by rw [he, Option.some.inj h], by rw [hw]; exact Drawn0.refl w⟩

end Go.Proofs.Ytcnjbbgecopjmaa.Own
