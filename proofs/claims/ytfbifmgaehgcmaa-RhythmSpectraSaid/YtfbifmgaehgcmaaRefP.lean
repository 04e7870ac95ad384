/- The reference's parts: turned, plus. -/
import Derived.Test.YtfbifmgaehgcmaaPXx1
import Derived.Test.YtfbifmgaehgcmaaSpec
namespace Go.Proofs.Ytfbifmgaehgcmaa.Own
open Go.RowKit Go.Proofs.Ytfbifmgaehgcmaa.PX Go.Proofs.YtfbifmgaehgcmaaW.PrintWords

theorem wrap_fit {x : Int} (h : -9223372036854775808 ≤ x ∧ x < 9223372036854775808) : wrap64 x = x := by
  unfold wrap64
  omega

theorem rturn_f (x y n : Int) (hx : -4611686018427387904 ≤ x ∧ x ≤ 4611686018427387904) (hy : -4611686018427387904 ≤ y ∧ y ≤ 4611686018427387904) : ostiaryref24_Part_turned.f 5 x y n = some (turnI x y ((-n) % 4)) := by
  have hm : Int.tmod (wrap64 ((Int.tmod n 4) + 4)) 4 = n % 4 := by
    have h1 := Int.tmod_lt_of_pos n (show (0 : Int) < 4 by decide)
    have h2 := Int.lt_tmod_of_pos n (show (0 : Int) < 4 by decide)
    have h3 := Int.tmod_add_mul_tdiv n 4
    rw [wrap_fit (by omega), Int.tmod_eq_emod_of_nonneg (by omega)]
    omega
  unfold ostiaryref24_Part_turned.f
  rw [hm]
  have hneg : (-n) % 4 = if n % 4 = 0 then 0 else 4 - n % 4 := by split <;> omega
  rw [hneg]
  have wx : wrap64 (-x) = -x := wrap_fit (by omega)
  have wy : wrap64 (-y) = -y := wrap_fit (by omega)
  have w0 : wrap64 0 = 0 := wrap_fit (by decide)
  have w1 : wrap64 1 = 1 := wrap_fit (by decide)
  have w2 : wrap64 2 = 2 := wrap_fit (by decide)
  have wxx : wrap64 x = x := wrap_fit (by omega)
  have wyy : wrap64 y = y := wrap_fit (by omega)
  rcases (by omega : n % 4 = 0 ∨ n % 4 = 1 ∨ n % 4 = 2 ∨ n % 4 = 3) with e | e | e | e
  · rw [e]
    simp [ostiaryref24_Part_turned.l0, turnI]
  · rw [e]
    simp [ostiaryref24_Part_turned.l0, turnI, w0, wy]
  · rw [e]
    simp [ostiaryref24_Part_turned.l0, turnI, w0, w1, wx, wy]
  · rw [e]
    simp [ostiaryref24_Part_turned.l0, turnI, w0, w1, w2, wx, wy, wyy]

theorem rturn_any (x y n : Int) (hx : -4611686018427387904 ≤ x ∧ x ≤ 4611686018427387904) (hy : -4611686018427387904 ≤ y ∧ y ≤ 4611686018427387904) (w : World) :
    Calls Try.prog 29 #[.agg #[.int .i64 x, .int .i64 y], .int .i64 n] w fun e w' => e = .returned (.agg #[.int .i64 (turnI x y ((-n) % 4)).1, .int .i64 (turnI x y ((-n) % 4)).2]) ∧ Below w.heap.size w w' :=
  ostiaryref24_Part_turned.calls 5 x y n _ _ w (rturn_f x y n hx hy)

theorem rplus_any (a b c d : Int) (h1 : -9223372036854775808 ≤ a + c ∧ a + c < 9223372036854775808) (h2 : -9223372036854775808 ≤ b + d ∧ b + d < 9223372036854775808) (w : World) :
    Calls Try.prog 28 #[.agg #[.int .i64 a, .int .i64 b], .agg #[.int .i64 c, .int .i64 d]] w fun e w' => e = .returned (.agg #[.int .i64 (a + c), .int .i64 (b + d)]) ∧ Below w.heap.size w w' :=
  ostiaryref24_Part_plus.calls a b c d _ _ w (by unfold ostiaryref24_Part_plus.f; rw [wrap_fit h1, wrap_fit h2])

end Go.Proofs.Ytfbifmgaehgcmaa.Own
