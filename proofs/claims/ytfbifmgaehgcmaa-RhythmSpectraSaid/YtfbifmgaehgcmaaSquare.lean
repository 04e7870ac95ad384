/- Walks: math.Abs, the part of a square, square and Beat by their contracts. -/
import Derived.Test.YtfbifmgaehgcmaaKnown
import Derived.Test.YtfbifmgaehgcmaaShelf
import Derived.Laws.Externs
import Derived.Deep.QuietTactic
import Derived.BigQuiet
import Derived.RegionTactic
namespace Go.Proofs.Ytfbifmgaehgcmaa
open Go.RowKit Fl

theorem call_float64bits (b : Nat) (w : World) : (callFunc 37 #[.float .f64 b]).run Try.prog w = .ok (.value (.int .u64 b)) w := by
  rw [run_callFunc_extern Try.func37 (by kernel_rfl) (by kernel_rfl) (by kernel_rfl) (e := Extern.MathFloatBits.float64bits) (by kernel_rfl)]
  rfl
theorem call_float64frombits (n : Int) (w : World) : (callFunc 36 #[.int .u64 n]).run Try.prog w = .ok (.value (.float .f64 n.toNat)) w := by
  rw [run_callFunc_extern Try.func36 (by kernel_rfl) (by kernel_rfl) (by kernel_rfl) (e := Extern.MathFloatBits.float64frombits) (by kernel_rfl)]
  rfl
theorem call_add64 (x y c : Nat) (hc : c ≤ 1) (w : World) : (callFunc 33 #[.int .u64 x, .int .u64 y, .int .u64 c]).run Try.prog w =
    .ok (.value (.tuple #[.int .u64 (((x + y + c) % 18446744073709551616 : Nat) : Int), .int .u64 (((x + y + c) / 18446744073709551616 : Nat) : Int)])) w := by
  rw [run_callFunc_extern Try.func33 (by kernel_rfl) (by kernel_rfl) (by kernel_rfl) (e := add64Entry) (by kernel_rfl), run_add64 x y c (by omega) (by omega) (by omega) (by omega)]
  simp only [Result.andThen]
  congr 5 <;> omega

theorem andNot_sign (b : Nat) (h : b < 18446744073709551616) : bits .andNot .u64 (b : Int) 9223372036854775808 = ((b % 9223372036854775808 : Nat) : Int) := by
  rw [u64_andNot _ _ (by omega) (by omega) (by omega) (by omega)]
  rw [Int.toNat_natCast, show (18446744073709551615 - (9223372036854775808 : Int).toNat) = 2 ^ 63 - 1 from by decide, Nat.and_two_pow_sub_one_eq_mod]

set_option maxHeartbeats 400000 in
theorem abs_any (b : Nat) (hb : b < 18446744073709551616) (w : World) :
    Calls Try.prog 27 #[.float .f64 b] w fun e w' => e = .returned (.float .f64 (b % 9223372036854775808)) ∧ w = w' := by
  have f1 := call_float64bits b
  have f2 : ∀ w, (callFunc 36 #[.int .u64 ((b : Int) % 9223372036854775808)]).run Try.prog w = .ok (.value (.float .f64 (b % 9223372036854775808))) w := fun w => by
    rw [call_float64frombits]
    congr 3
  have f3 := andNot_sign b hb
  go_enter Try.func27, Try.ntmps27
  go_wp2
  go_ret
  exact ⟨rfl, rfl⟩

theorem rep_big : Rep 0 4886405595696988160 4611686018427387904 := by
  have hb := big_eq
  refine ⟨by decide, false, 4503599627370496, 10, by decide, by omega, by decide, ?_⟩
  rw [signed_eq, Int.pow_zero, Int.mul_one]
  simp only [Bool.false_eq_true, if_false]
  rw [show ((10 : Int) + big).toNat = 10 + big from by omega, Int.pow_add, ← Int.mul_assoc]
  rfl

/-- What square's closure gives: the size of a whole number. -/
theorem part_any (b : Nat) (x : Int) (h : Rep 0 b x) (hx : x.natAbs < 4611686018427387904) (w : World) :
    Calls Try.prog 31 #[.float .f64 b] w fun e w' => e = .returned (.int .u64 ((x.natAbs : Nat) : Int)) ∧ w = w' := by
  have hb := h.1
  have ha := rep_abs h
  obtain ⟨c, hc⟩ : ∃ c, b % 9223372036854775808 = c := ⟨_, rfl⟩
  rw [hc] at ha
  have hcall := fun w => abs_any b hb w
  rw [hc] at hcall
  have hmin : ∀ ts t w, (Builtin.min_ ts t #[.float .f64 c, .float .f64 4886405595696988160]).run Try.prog w = .ok (.float .f64 c) w := fun ts t w => by
    have ho : FloatKind.f64.format.order c 4886405595696988160 = some .lt := by
      have := rep_order ha rep_big
      rw [Int.pow_zero, Int.mul_one, Int.mul_one] at this
      refine Eq.trans this (congrArg some ?_)
      simp only [compare, compareOfLessAndEq]
      rw [if_pos (by omega)]
    simp [Builtin.min_, Builtin.min2, ho]
  have hconv : ∀ w, (convert 36 53 (.float .f64 c)).run Try.prog w = .ok (.int .u64 ((x.natAbs : Nat) : Int)) w := fun w =>
    run_convert_float_int w 36 53 .f64 .u64 c _ (by rw [Try.underlying36]; rfl) Try.underlying53 (by
      unfold floatToIntVal
      rw [rep_toInt ha]
      simp only
      rw [if_pos]
      simp [IntKind.min, IntKind.max, IntKind.signed, IntKind.bits]
      omega)
  clear hc
  go_enter Try.func31, Try.ntmps31
  go_wp2_with (go_at_call 27; refine (hcall _).mono ?_; rintro e w' ⟨rfl, rfl⟩)
  go_ret
  exact ⟨rfl, rfl⟩

/-- The square of a size. -/
def sq (X : Int × Int) : Nat := X.1.natAbs * X.1.natAbs + X.2.natAbs * X.2.natAbs

theorem sq_lt (X : Int × Int) (hx : X.1.natAbs < 4611686018427387904) (hy : X.2.natAbs < 4611686018427387904) : sq X < 340282366920938463463374607431768211456 := by
  unfold sq
  have h1 : X.1.natAbs * X.1.natAbs ≤ 4611686018427387904 * 4611686018427387904 := Nat.mul_le_mul (by omega) (by omega)
  have h2 : X.2.natAbs * X.2.natAbs ≤ 4611686018427387904 * 4611686018427387904 := Nat.mul_le_mul (by omega) (by omega)
  omega

set_option maxHeartbeats 400000 in
theorem square_any (re im : Nat) (X : Int × Int) (h1 : Rep 0 re X.1) (h2 : Rep 0 im X.2) (hx : X.1.natAbs < 4611686018427387904) (hy : X.2.natAbs < 4611686018427387904) (w : World) :
    Calls Try.prog 25 #[.complex .f64 re im] w fun e w' =>
      e = .returned (.tuple #[.int .u64 ((sq X / 18446744073709551616 : Nat) : Int), .int .u64 ((sq X % 18446744073709551616 : Nat) : Int)]) ∧ w = w' := by
  obtain ⟨S, hS⟩ : ∃ S, sq X = S := ⟨_, rfl⟩
  have hSl := sq_lt X hx hy
  rw [hS] at hSl ⊢
  unfold sq at hS
  have p1 := fun w => part_any re X.1 h1 hx w
  have p2 := fun w => part_any im X.2 h2 hy w
  generalize X.1.natAbs = a at *
  generalize X.2.natAbs = b at *
  have m1 := fun w => Try.bits_Mul64 a a (by omega) (by omega) w
  have m2 := fun w => Try.bits_Mul64 b b (by omega) (by omega) w
  generalize a * a = aa at *
  generalize b * b = bb at *
  obtain ⟨ah, hah⟩ : ∃ n, aa / 18446744073709551616 = n := ⟨_, rfl⟩
  obtain ⟨al, hal⟩ : ∃ n, aa % 18446744073709551616 = n := ⟨_, rfl⟩
  obtain ⟨bh, hbh⟩ : ∃ n, bb / 18446744073709551616 = n := ⟨_, rfl⟩
  obtain ⟨bl, hbl⟩ : ∃ n, bb % 18446744073709551616 = n := ⟨_, rfl⟩
  rw [hah, hal] at m1
  rw [hbh, hbl] at m2
  have k1 : ∀ w, (callFunc 33 #[.int .u64 al, .int .u64 bl, .int .u64 0]).run Try.prog w =
      .ok (.value (.tuple #[.int .u64 (((al + bl + 0) % 18446744073709551616 : Nat) : Int), .int .u64 (((al + bl + 0) / 18446744073709551616 : Nat) : Int)])) w := fun w => call_add64 al bl 0 (by omega) w
  have k2 := fun w => call_add64 ah bh ((al + bl + 0) / 18446744073709551616) (by omega) w
  obtain ⟨lo, hlo⟩ : ∃ n, (al + bl + 0) % 18446744073709551616 = n := ⟨_, rfl⟩
  obtain ⟨c, hc⟩ : ∃ n, (al + bl + 0) / 18446744073709551616 = n := ⟨_, rfl⟩
  rw [hlo, hc] at k1
  rw [hc] at k2
  obtain ⟨hi, hhi⟩ : ∃ n, (ah + bh + c) % 18446744073709551616 = n := ⟨_, rfl⟩
  obtain ⟨z, hz⟩ : ∃ n, (ah + bh + c) / 18446744073709551616 = n := ⟨_, rfl⟩
  rw [hhi, hz] at k2
  have r1 : S / 18446744073709551616 = hi := by omega
  have r2 : S % 18446744073709551616 = lo := by omega
  rw [r1, r2]
  clear r1 r2 hz hhi hc hlo hbl hbh hal hah hS hSl h1 h2 hx hy
  go_enter Try.func25, Try.ntmps25
  go_wp2_with fail
  refine (p1 _).mono ?_
  rintro e w' ⟨rfl, rfl⟩
  go_wp2_with fail
  refine (p1 _).mono ?_
  rintro e w' ⟨rfl, rfl⟩
  go_wp2_with fail
  refine (m1 _).mono ?_
  rintro e w' ⟨rfl, rfl⟩
  go_wp2_with fail
  refine (p2 _).mono ?_
  rintro e w' ⟨rfl, rfl⟩
  go_wp2_with fail
  refine (p2 _).mono ?_
  rintro e w' ⟨rfl, rfl⟩
  go_wp2_with fail
  refine (m2 _).mono ?_
  rintro e w' ⟨rfl, rfl⟩
  go_wp2_with fail
  go_ret2
  exact ⟨rfl, rfl⟩

end Go.Proofs.Ytfbifmgaehgcmaa
