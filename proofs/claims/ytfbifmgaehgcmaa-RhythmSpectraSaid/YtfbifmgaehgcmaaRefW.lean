/- The reference's square of a whole number in two halves. -/
import Derived.Test.YtfbifmgaehgcmaaRefP
import Derived.Test.YtfbifmgaehgcmaaSquare
import Derived.Laws.Bits64b
namespace Go.Proofs.Ytfbifmgaehgcmaa.Own
open Go.RowKit Go.Proofs.Ytfbifmgaehgcmaa.PX Go.Proofs.YtfbifmgaehgcmaaW.PrintWords

theorem u64_wrap (n : Nat) : IntKind.u64.wrap (n : Int) = ((n % 18446744073709551616 : Nat) : Int) := by
  unfold IntKind.wrap
  simp [IntKind.bits, IntKind.signed]

theorem pair_low (B lo m hi q mm : Nat) (h : mm = q * B + m) : (hi + q) * B + (lo + m) = hi * B + lo + mm := by
  rw [h, Nat.add_mul]
  generalize hi * B = P
  generalize q * B = Q
  omega

theorem pair_high (B lo m hi q mm : Nat) (h : mm = q * B + m) (hc : B ≤ lo + m) : (hi + 1 + q) * B + (lo + m - B) = hi * B + lo + mm := by
  rw [h, Nat.add_mul, Nat.add_mul, Nat.one_mul]
  generalize hi * B = P
  generalize q * B = Q
  omega

/-- One of the two rounds: mid * 2^32 is added to the pair. -/
theorem wide_step (lo mid hi : Nat) (hlo : lo < 18446744073709551616) (hmid : mid < 4611686018427387904) (hhi : hi < 4611686018427387904) (i : Nat) (hi2 : i < 2) (K : Nat) :
    ∃ lo' hi' : Nat, lo' < 18446744073709551616 ∧ hi' * 18446744073709551616 + lo' = hi * 18446744073709551616 + lo + mid * 4294967296 ∧
      ostiaryref24_wide.l0 (K + 1) (lo : Int) (mid : Int) (hi : Int) (i : Int) = ostiaryref24_wide.l0 K (lo' : Int) (mid : Int) (hi' : Int) ((i + 1 : Nat) : Int) := by
  have hw : wrap64 ((i : Int) + 1) = ((i + 1 : Nat) : Int) := by rw [wrap_fit (by omega)]; omega
  have e1 : IntKind.u64.wrap ((mid : Int) * 4294967296) = ((mid * 4294967296 % 18446744073709551616 : Nat) : Int) := by
    have := u64_wrap (mid * 4294967296)
    rwa [Int.natCast_mul] at this
  obtain ⟨m, hm⟩ : ∃ m, mid * 4294967296 % 18446744073709551616 = m := ⟨_, rfl⟩
  obtain ⟨q, hq⟩ : ∃ q, mid / 4294967296 = q := ⟨_, rfl⟩
  have hmq : mid * 4294967296 = q * 18446744073709551616 + m := by omega
  have hml : m < 18446744073709551616 := by omega
  have e2 : IntKind.u64.wrap ((lo : Int) + (m : Int)) = (((lo + m) % 18446744073709551616 : Nat) : Int) := by
    have := u64_wrap (lo + m)
    rwa [Int.natCast_add] at this
  have e3 : ((mid : Int) / 4294967296) = ((q : Nat) : Int) := by rw [← hq]; omega
  have e4 : IntKind.u64.wrap ((hi : Int) + 1) = ((hi + 1 : Nat) : Int) := by
    have := u64_wrap (hi + 1)
    rw [Nat.mod_eq_of_lt (by omega)] at this
    simpa using this
  have e5 : IntKind.u64.wrap (((hi + 1 : Nat) : Int) + (q : Int)) = ((hi + 1 + q : Nat) : Int) := by
    have := u64_wrap (hi + 1 + q)
    rw [Nat.mod_eq_of_lt (by omega)] at this
    simpa using this
  have e6 : IntKind.u64.wrap ((hi : Int) + (q : Int)) = ((hi + q : Nat) : Int) := by
    have := u64_wrap (hi + q)
    rw [Nat.mod_eq_of_lt (by omega)] at this
    simpa using this
  rw [ostiaryref24_wide.l0, if_pos (by omega), e1, hm, e2, hw, e3, e4, e5, e6]
  by_cases hc : lo + m < 18446744073709551616
  · rw [Nat.mod_eq_of_lt hc, if_neg (by omega)]
    exact ⟨lo + m, hi + q, hc, pair_low _ lo m hi q _ hmq, rfl⟩
  · have : (lo + m) % 18446744073709551616 = lo + m - 18446744073709551616 := by omega
    rw [this, if_pos (by omega)]
    exact ⟨lo + m - 18446744073709551616, hi + 1 + q, by omega, pair_high _ lo m hi q _ hmq (Nat.le_of_not_lt hc), rfl⟩

theorem mask32 (x : Nat) (h : x < 18446744073709551616) : Go.bits .and .u64 (x : Int) 4294967295 = ((x % 4294967296 : Nat) : Int) := by
  have h1 := bits_and_u64_nat x 4294967295 h (by decide)
  have h2 : x &&& 4294967295 = x % 4294967296 := by
    have := Nat.and_two_pow_sub_one_eq_mod x 32
    simpa using this
  rw [h2] at h1
  exact h1

theorem split_sq (B a b : Nat) : a * a * (B * B) + b * b + a * b * B + a * b * B = (a * B + b) * (a * B + b) := by
  rw [Nat.add_mul, Nat.mul_add, Nat.mul_add]
  have e1 : a * B * (a * B) = a * a * (B * B) := by rw [Nat.mul_mul_mul_comm]
  have e2 : a * B * b = a * b * B := by rw [Nat.mul_right_comm]
  have e3 : b * (a * B) = a * b * B := by rw [Nat.mul_comm b, e2]
  rw [e1, e2, e3]
  generalize a * a * (B * B) = P
  generalize a * b * B = Q
  omega

theorem wide_j0 (x : Nat) (hx : x < 4611686018427387904) (K : Nat) : ∃ hi lo : Nat, lo < 18446744073709551616 ∧ hi * 18446744073709551616 + lo = x * x ∧ ostiaryref24_wide.j0 (K + 4) (x : Int) = some ((hi : Int), (lo : Int)) := by
  obtain ⟨b, hb⟩ : ∃ b, x % 4294967296 = b := ⟨_, rfl⟩
  obtain ⟨a, ha⟩ : ∃ a, x / 4294967296 = a := ⟨_, rfl⟩
  have hxe : x = a * 4294967296 + b := by omega
  have hb1 : b ≤ 4294967295 := by omega
  have ha1 : a ≤ 1073741823 := by omega
  have hbb : b * b ≤ 4294967295 * 4294967295 := Nat.mul_le_mul hb1 hb1
  have hab : a * b ≤ 1073741823 * 4294967295 := Nat.mul_le_mul ha1 hb1
  have haa : a * a ≤ 1073741823 * 1073741823 := Nat.mul_le_mul ha1 ha1
  have ea : ((x : Int) / 4294967296) = (a : Int) := by rw [← ha]; omega
  have w : ∀ n : Nat, n < 18446744073709551616 → IntKind.u64.wrap (n : Int) = (n : Int) := fun n hn => by rw [u64_wrap, Nat.mod_eq_of_lt hn]
  have wbb : IntKind.u64.wrap ((b : Int) * (b : Int)) = ((b * b : Nat) : Int) := by rw [← Int.natCast_mul]; exact w _ (Nat.lt_of_le_of_lt hbb (by decide))
  have wab : IntKind.u64.wrap ((a : Int) * (b : Int)) = ((a * b : Nat) : Int) := by rw [← Int.natCast_mul]; exact w _ (Nat.lt_of_le_of_lt hab (by decide))
  have waa : IntKind.u64.wrap ((a : Int) * (a : Int)) = ((a * a : Nat) : Int) := by rw [← Int.natCast_mul]; exact w _ (Nat.lt_of_le_of_lt haa (by decide))
  obtain ⟨l1, h1, hl1, he1, hs1⟩ := wide_step (b * b) (a * b) (a * a) (Nat.lt_of_le_of_lt hbb (by decide)) (Nat.lt_of_le_of_lt hab (by decide)) (Nat.lt_of_le_of_lt haa (by decide)) 0 (by decide) (K + 2)
  have hh1 : h1 < 4611686018427387904 := by
    have q1 : h1 * 18446744073709551616 ≤ 1073741823 * 1073741823 * 18446744073709551616 + 4294967295 * 4294967295 + 1073741823 * 4294967295 * 4294967296 := by
      refine Nat.le_trans (Nat.le_add_right _ l1) ?_
      rw [he1]
      exact Nat.add_le_add (Nat.add_le_add (Nat.mul_le_mul_right _ haa) hbb) (Nat.mul_le_mul_right _ hab)
    have q2 : 1073741823 * 1073741823 * 18446744073709551616 + 4294967295 * 4294967295 + 1073741823 * 4294967295 * 4294967296 < 4611686018427387904 * 18446744073709551616 := by decide
    exact Nat.lt_of_mul_lt_mul_right (Nat.lt_of_le_of_lt q1 q2)
  obtain ⟨l2, h2, hl2, he2, hs2⟩ := wide_step l1 (a * b) h1 hl1 (Nat.lt_of_le_of_lt hab (by decide)) hh1 1 (by decide) (K + 1)
  refine ⟨h2, l2, hl2, ?_, ?_⟩
  · rw [he2, he1, hxe, ← split_sq 4294967296 a b]
  · rw [ostiaryref24_wide.j0, mask32 x (by omega), hb, ea, wbb, wab, waa]
    have hs1' : ostiaryref24_wide.l0 (K + 3) ((b * b : Nat) : Int) ((a * b : Nat) : Int) ((a * a : Nat) : Int) 0 = _ := hs1
    rw [hs1', hs2, ostiaryref24_wide.l0, if_neg (by decide)]

theorem wide_f (n : Int) (hn : n.natAbs < 4611686018427387904) : ∃ hi lo : Nat, lo < 18446744073709551616 ∧ hi * 18446744073709551616 + lo = n.natAbs * n.natAbs ∧ ostiaryref24_wide.f 4 n = some ((hi : Int), (lo : Int)) := by
  obtain ⟨hi, lo, h1, h2, h3⟩ := wide_j0 n.natAbs hn 0
  refine ⟨hi, lo, h1, h2, ?_⟩
  have hw : IntKind.u64.wrap ((n.natAbs : Nat) : Int) = ((n.natAbs : Nat) : Int) := by rw [u64_wrap, Nat.mod_eq_of_lt (by omega)]
  unfold ostiaryref24_wide.f
  by_cases hneg : n < 0
  · have e : wrap64 (-n) = ((n.natAbs : Nat) : Int) := by rw [wrap_fit (by omega)]; omega
    rw [if_pos hneg, e, hw]
    exact h3
  · have e : n = ((n.natAbs : Nat) : Int) := by omega
    rw [if_neg hneg]
    have : IntKind.u64.wrap n = ((n.natAbs : Nat) : Int) := by rw [← hw]; rw [← e]
    rw [this]
    exact h3

theorem pair_unique (B hi lo S : Nat) (hB : lo < B) (h : hi * B + lo = S) : hi = S / B ∧ lo = S % B := by
  subst h
  have hp : 0 < B := by omega
  constructor
  · rw [Nat.mul_comm, Nat.mul_add_div hp, Nat.div_eq_of_lt hB, Nat.add_zero]
  · rw [Nat.mul_comm, Nat.mul_add_mod, Nat.mod_eq_of_lt hB]

theorem hi_small {hi lo x : Nat} (h : hi * 18446744073709551616 + lo = x * x) (hx : x < 4611686018427387904) : hi < 1152921504606846976 := by
  have h1 : hi * 18446744073709551616 ≤ x * x := by rw [← h]; exact Nat.le_add_right _ _
  have h2 : x * x ≤ 4611686018427387903 * 4611686018427387903 := Nat.mul_le_mul (by omega) (by omega)
  have h3 : 4611686018427387903 * 4611686018427387903 < 1152921504606846976 * 18446744073709551616 := by decide
  exact Nat.lt_of_mul_lt_mul_right (Nat.lt_of_le_of_lt (Nat.le_trans h1 h2) h3)

theorem add_pairs (B h1 l1 h2 l2 P Q : Nat) (e1 : h1 * B + l1 = P) (e2 : h2 * B + l2 = Q) : (h1 + h2) * B + (l1 + l2) = P + Q := by
  rw [← e1, ← e2, Nat.add_mul]
  generalize h1 * B = X
  generalize h2 * B = Y
  omega

theorem add_pairs' (B h1 l1 h2 l2 P Q : Nat) (e1 : h1 * B + l1 = P) (e2 : h2 * B + l2 = Q) (hc : B ≤ l1 + l2) : (h1 + h2 + 1) * B + (l1 + l2 - B) = P + Q := by
  rw [← e1, ← e2, Nat.add_mul, Nat.add_mul, Nat.one_mul]
  generalize h1 * B = X
  generalize h2 * B = Y
  omega

theorem rsquare_f (X : Int × Int) (hx : X.1.natAbs < 4611686018427387904) (hy : X.2.natAbs < 4611686018427387904) :
    ostiaryref24_square.f 4 X.1 X.2 = some (((sq X / 18446744073709551616 : Nat) : Int), ((sq X % 18446744073709551616 : Nat) : Int)) := by
  obtain ⟨h1, l1, b1, e1, f1⟩ := wide_f X.1 hx
  obtain ⟨h2, l2, b2, e2, f2⟩ := wide_f X.2 hy
  have s1 := hi_small e1 hx
  have s2 := hi_small e2 hy
  have elo : IntKind.u64.wrap ((l1 : Int) + (l2 : Int)) = (((l1 + l2) % 18446744073709551616 : Nat) : Int) := by
    have := u64_wrap (l1 + l2)
    rwa [Int.natCast_add] at this
  have ehi : IntKind.u64.wrap ((h1 : Int) + (h2 : Int)) = ((h1 + h2 : Nat) : Int) := by
    have := u64_wrap (h1 + h2)
    rw [Nat.mod_eq_of_lt (by omega)] at this
    simpa using this
  have ehi1 : IntKind.u64.wrap (((h1 + h2 : Nat) : Int) + 1) = ((h1 + h2 + 1 : Nat) : Int) := by
    have := u64_wrap (h1 + h2 + 1)
    rw [Nat.mod_eq_of_lt (by omega)] at this
    simpa using this
  unfold ostiaryref24_square.f
  rw [f1, Option.bind_some, f2, Option.bind_some]
  simp only
  rw [elo, ehi, ehi1]
  have hS : sq X = X.1.natAbs * X.1.natAbs + X.2.natAbs * X.2.natAbs := rfl
  by_cases hc : l1 + l2 < 18446744073709551616
  · have hp := pair_unique 18446744073709551616 (h1 + h2) (l1 + l2) (sq X) hc (by rw [hS]; exact add_pairs _ h1 l1 h2 l2 _ _ e1 e2)
    rw [Nat.mod_eq_of_lt hc, if_neg (by omega), ← hp.1, ← hp.2]
  · have hm : (l1 + l2) % 18446744073709551616 = l1 + l2 - 18446744073709551616 := by omega
    have hp := pair_unique 18446744073709551616 (h1 + h2 + 1) (l1 + l2 - 18446744073709551616) (sq X) (by omega) (by rw [hS]; exact add_pairs' _ h1 l1 h2 l2 _ _ e1 e2 (by omega))
    rw [hm, if_pos (by omega), ← hp.1, ← hp.2]

theorem rsquare_any (X : Int × Int) (hx : X.1.natAbs < 4611686018427387904) (hy : X.2.natAbs < 4611686018427387904) (w : World) :
    Calls Try.prog 30 #[.agg #[.int .i64 X.1, .int .i64 X.2]] w fun e w' =>
      e = .returned (.tuple #[.int .u64 ((sq X / 18446744073709551616 : Nat) : Int), .int .u64 ((sq X % 18446744073709551616 : Nat) : Int)]) ∧ Below w.heap.size w w' :=
  ostiaryref24_square.calls 4 X.1 X.2 _ _ w (rsquare_f X hx hy)

end Go.Proofs.Ytfbifmgaehgcmaa.Own
