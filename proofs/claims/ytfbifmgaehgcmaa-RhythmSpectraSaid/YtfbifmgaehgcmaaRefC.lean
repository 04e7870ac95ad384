/- A part as a complex number. -/
import Derived.Test.YtfbifmgaehgcmaaRefP
import Derived.Test.YtfbifmgaehgcmaaTurn
namespace Go.Proofs.Ytfbifmgaehgcmaa.Own
open Go.RowKit Go.Proofs.Ytfbifmgaehgcmaa.PX Go.Proofs.YtfbifmgaehgcmaaW.PrintWords

set_option maxHeartbeats 1000000 in
theorem cpart_any (x y : Int) (w : World) : Calls Try.prog 18 #[.agg #[.int .i64 x, .int .i64 y]] w fun e w' => e = .returned (.complex .f64 (floatOfInt .f64 x) (floatOfInt .f64 y)) ∧ Below w.heap.size w w' := by
  have hu41 := Try.underlying41
  go_enter Try.func18, Try.ntmps18
  go_wp2
  go_ret
  exact ⟨rfl, below_alloc (Below.refl _ _) _⟩

/-- Four parts: eight cells. -/
def cells8 (X : Nat → Int × Int) : Array Value := #[.int .i64 (X 0).1, .int .i64 (X 0).2, .int .i64 (X 1).1, .int .i64 (X 1).2, .int .i64 (X 2).1, .int .i64 (X 2).2, .int .i64 (X 3).1, .int .i64 (X 3).2]

def fit62 (X : Int × Int) : Prop := (-4611686018427387904 ≤ X.1 ∧ X.1 ≤ 4611686018427387904) ∧ (-4611686018427387904 ≤ X.2 ∧ X.2 ≤ 4611686018427387904)

end Go.Proofs.Ytfbifmgaehgcmaa.Own
