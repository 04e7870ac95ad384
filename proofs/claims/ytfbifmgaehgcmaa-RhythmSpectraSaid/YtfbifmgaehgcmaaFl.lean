/- Plain law on float64 words: whole numbers below 2^53 are added, negated, compared exactly by the words' own arithmetic; a quarter of a whole number too. -/
import Derived.Laws.ComplexArith
import Derived.Laws.FloatBits
namespace Go.Proofs.Ytfbifmgaehgcmaa.Fl
open Ieee

/-- The least place, turned round; kept behind a name, so that no power of two of it is ever reckoned. -/
@[irreducible] def big : Nat := 1074
theorem big_eq : (big : Int) = 1074 := by unfold big; rfl
theorem sub_toNat (a b : Int) (h : a ≤ b) : a = b - ((b - a).toNat : Int) := by omega
theorem exp_split (E e : Int) (B : Nat) (h : e ≤ E) (h2 : -(B : Int) ≤ e) : (E + B).toNat = (E - e).toNat + (e + B).toNat := by omega
theorem natAbs_neg_eq {c : Int} (h : c < 0) : -(c.natAbs : Int) = c := by omega
theorem natAbs_pos_eq {c : Int} (h : ¬ c < 0) : (c.natAbs : Int) = c := by omega
theorem add_toNat (a b : Int) (h : b ≤ a) : a = b + ((a - b).toNat : Int) := by omega

theorem least : double.leastPlace = -(big : Int) := by rw [big_eq]; decide
theorem signW : double.signWeight = 9223372036854775808 := by decide
theorem binW : double.binade = 4503599627370496 := by decide
theorem infR : double.infRung = 9218868437227405312 := by decide
theorem frac : double.fractionBits = 52 := rfl

/-- The word b stands for a / 2^k. -/
def Rep (k : Nat) (b : Nat) (a : Int) : Prop :=
  b < 18446744073709551616 ∧ ∃ (s : Bool) (m : Nat) (e : Int), double.read b = .number s m e ∧ -(big : Int) ≤ e ∧ m < 9007199254740992 ∧
    signed s m (e + big).toNat * 2 ^ k = a * 2 ^ big

theorem word_eq (s : Bool) (r : Nat) : double.word s r = if s then 9223372036854775808 + r else r := by
  unfold Format.word; rw [signW]

theorem number_congr {s : Bool} {m m' : Nat} {e e' : Int} (h : m = m') (h' : e = e') : Datum.number s m e = .number s m' e' := by rw [h, h']

theorem read_word (s : Bool) (M : Nat) (E : Int) (h1 : 4503599627370496 ≤ M) (h2 : M < 9007199254740992) (h3 : -1074 ≤ E) (h4 : E ≤ 900) :
    double.read (double.word s ((E + big).toNat * 4503599627370496 + M)) = .number s M E := by
  have hb := big_eq
  obtain ⟨t, ht⟩ : ∃ t : Nat, (E + big).toNat = t := ⟨_, rfl⟩
  have ht' : (t : Int) = E + 1074 := by omega
  rw [ht, word_eq]
  unfold Format.read
  rw [signW, binW, infR, least]
  cases s
  · have q1 : (t * 4503599627370496 + M) / 9223372036854775808 = 0 := by omega
    have q2 : (t * 4503599627370496 + M) % 9223372036854775808 = t * 4503599627370496 + M := by omega
    simp only [Bool.false_eq_true, if_false, q1, q2]
    rw [if_neg (by omega), if_pos (by omega)]
    have q3 : (t * 4503599627370496 + M) % 4503599627370496 = M - 4503599627370496 := by omega
    have q4 : (t * 4503599627370496 + M) / 4503599627370496 = t + 1 := by omega
    rw [q3, q4]
    exact number_congr (by omega) (by omega)
  · have q1 : (9223372036854775808 + (t * 4503599627370496 + M)) / 9223372036854775808 = 1 := by omega
    have q2 : (9223372036854775808 + (t * 4503599627370496 + M)) % 9223372036854775808 = t * 4503599627370496 + M := by omega
    simp only [if_true, q1, q2]
    rw [if_neg (by omega), if_pos (by omega)]
    have q3 : (t * 4503599627370496 + M) % 4503599627370496 = M - 4503599627370496 := by omega
    have q4 : (t * 4503599627370496 + M) / 4503599627370496 = t + 1 := by omega
    rw [q3, q4]
    exact number_congr (by omega) (by omega)

theorem read_zero (s : Bool) : double.read (double.word s 0) = .number s 0 (-(big : Int)) := by
  rw [big_eq]; cases s <;> decide

theorem word_small (s : Bool) (r : Nat) (h : r < 9223372036854775808) : double.word s r < 18446744073709551616 := by
  rw [word_eq]; split <;> omega

/-- What is read has a magnitude below 2^53, and its place is no less than the least. -/
theorem read_bound {b : Nat} {s : Bool} {m : Nat} {e : Int} (h : double.read b = .number s m e) : m < 9007199254740992 ∧ -(big : Int) ≤ e := by
  unfold Format.read at h
  rw [signW, binW, infR, least] at h
  simp only at h
  split at h
  · injection h with h1 h2 h3; omega
  · split at h
    · injection h with h1 h2 h3; omega
    · split at h <;> cases h

theorem log2_pow (M k : Nat) (h1 : 4503599627370496 ≤ M) (h2 : M < 9007199254740992) : (M * 2 ^ k).log2 = 52 + k := by
  have hp : 0 < 2 ^ k := Nat.two_pow_pos k
  have hne : M * 2 ^ k ≠ 0 := by
    intro h
    rcases Nat.mul_eq_zero.1 h with h | h <;> omega
  rw [Nat.log2_eq_iff hne, Nat.pow_add, show 52 + k + 1 = 53 + k from by omega, Nat.pow_add]
  exact ⟨Nat.mul_le_mul_right _ (by omega), Nat.mul_lt_mul_of_pos_right (by omega) hp⟩

theorem cut_even_exact (s : Bool) (low k : Nat) (h : k ≤ (low * 2 ^ k).log2 + 2) : Toward.even.cut s (low * 2 ^ k) k = low := by
  have hp : 0 < 2 ^ k := Nat.two_pow_pos k
  unfold Toward.cut
  rw [Nat.min_eq_left h, Nat.shiftLeft_eq, Nat.one_mul]
  simp only [Nat.mul_div_cancel _ hp, Nat.mul_mod_left]
  simp

/-- The nearest word of a magnitude that has one: by its normal form M * 2^E. -/
theorem nearest_eq (s : Bool) (m : Nat) (e : Int) (M : Nat) (E : Int) (h1 : 4503599627370496 ≤ M) (h2 : M < 9007199254740992) (h3 : -1074 ≤ E) (h4 : E ≤ 900)
    (h : (∃ k : Nat, m = M * 2 ^ k ∧ e = E - k) ∨ (∃ k : Nat, M = m * 2 ^ k ∧ e = E + k)) :
    double.nearest s m e = double.word s ((E + big).toNat * 4503599627370496 + M) := by
  have hb := big_eq
  have hm0 : m ≠ 0 := by
    rintro rfl
    rcases h with ⟨k, hk, _⟩ | ⟨k, hk, _⟩
    · have hp : 0 < 2 ^ k := Nat.two_pow_pos k
      rcases Nat.mul_eq_zero.1 hk.symm with h | h <;> omega
    · omega
  unfold Format.nearest
  rw [if_neg hm0, frac, least, binW, infR]
  have hmin : ∀ kept, kept = M → (min ((E - -(big : Int)).toNat * 4503599627370496 + kept) 9218868437227405312) = (E + big).toNat * 4503599627370496 + M := by
    rintro kept rfl
    have : E - -(big : Int) = E + big := by omega
    rw [this]
    omega
  rcases h with ⟨k, rfl, rfl⟩ | ⟨k, rfl, rfl⟩
  · rw [log2_pow M k h1 h2]
    have hl : max (E - (k : Int) + ((52 + k : Nat) : Int) - 52) (-(big : Int)) = E := by omega
    have hl' : max (E - (k : Int) + ((52 + k : Nat) : Int) - (52 : Nat)) (-(big : Int)) = E := hl
    rw [hl']
    dsimp only
    rw [show (E - (k : Int) - E).toNat = 0 from by omega, show (E - (E - (k : Int))).toNat = k from by omega, Nat.shiftLeft_zero, cut_even_exact s M k (by rw [log2_pow M k h1 h2]; omega), hmin M rfl]
  · have hlog : m.log2 + k = 52 := by
      have := log2_pow (m * 2 ^ k) 0 h1 h2
      simp only [Nat.pow_zero, Nat.mul_one, Nat.add_zero] at this
      rw [Nat.log2_eq_iff (by intro h; omega)] at this
      have hm := (Nat.log2_eq_iff hm0 (k := m.log2)).1 rfl
      have hp : 0 < 2 ^ k := Nat.two_pow_pos k
      have a1 : 2 ^ (m.log2 + k) ≤ m * 2 ^ k := by rw [Nat.pow_add]; exact Nat.mul_le_mul_right _ hm.1
      have a2 : m * 2 ^ k < 2 ^ (m.log2 + 1 + k) := by rw [Nat.pow_add 2 (m.log2 + 1) k]; exact Nat.mul_lt_mul_of_pos_right hm.2 hp
      have b1 : m.log2 + k < 53 := (Nat.pow_lt_pow_iff_right (a := 2) (by omega)).1 (Nat.lt_of_le_of_lt a1 this.2)
      have b2 : 52 < m.log2 + 1 + k := (Nat.pow_lt_pow_iff_right (a := 2) (by omega)).1 (Nat.lt_of_le_of_lt this.1 a2)
      omega
    have hl : max (E + (k : Int) + (m.log2 : Int) - 52) (-(big : Int)) = E := by omega
    have hl' : max (E + (k : Int) + (m.log2 : Int) - (52 : Nat)) (-(big : Int)) = E := hl
    rw [hl']
    dsimp only
    rw [show (E + (k : Int) - E).toNat = k from by omega, show (E - (E + (k : Int))).toNat = 0 from by omega, Nat.shiftLeft_eq]
    have := cut_even_exact s (m * 2 ^ k) 0 (by omega)
    rw [Nat.pow_zero, Nat.mul_one] at this
    rw [this, hmin _ rfl]

theorem signed_eq (s : Bool) (m u : Nat) : signed s m u = (if s then -(m : Int) else m) * 2 ^ u := by
  unfold signed
  rw [Nat.shiftLeft_eq]
  split <;> push_cast
  · rw [Int.neg_mul]
  · rfl

theorem signed_natAbs (s : Bool) (m u : Nat) : (signed s m u).natAbs = m * 2 ^ u := by
  rw [signed_eq, Int.natAbs_mul, Int.natAbs_pow]
  congr 1
  split <;> omega

theorem pow_pos (n : Nat) : (0 : Int) < 2 ^ n := Int.pow_pos (by omega)

/-- WHAT IS WRITTEN of a number that is c / 2^k, c below 2^53. -/
theorem rep_write (k : Nat) (hk : k ≤ 1000) (s : Bool) (m : Nat) (e : Int) (he : -(big : Int) ≤ e) (c : Int) (hc : c.natAbs < 9007199254740992)
    (hv : m * 2 ^ (e + big).toNat * 2 ^ k = c.natAbs * 2 ^ big) (hs : c ≠ 0 → s = decide (c < 0)) :
    Rep k (double.nearest s m e) c := by
  have hb := big_eq
  by_cases h0 : c = 0
  · subst h0
    have hm : m = 0 := by
      rw [Int.natAbs_zero, Nat.zero_mul] at hv
      rcases Nat.mul_eq_zero.1 hv with h | h
      · rcases Nat.mul_eq_zero.1 h with h | h
        · exact h
        · exact absurd h (Nat.ne_of_gt (Nat.two_pow_pos _))
      · exact absurd h (Nat.ne_of_gt (Nat.two_pow_pos _))
    subst hm
    have hn : double.nearest s 0 e = double.word s 0 := by unfold Format.nearest; rw [if_pos rfl]
    rw [hn]
    refine ⟨word_small _ _ (by omega), s, 0, _, read_zero s, Int.le_refl _, by omega, ?_⟩
    rw [signed_eq]
    cases s <;> simp
  · have hcn : c.natAbs ≠ 0 := by omega
    obtain ⟨L, hL⟩ : ∃ L, c.natAbs.log2 = L := ⟨_, rfl⟩
    have hl := (Nat.log2_eq_iff hcn).1 hL
    have hL52 : L ≤ 52 := by
      have : 2 ^ L < 2 ^ 53 := Nat.lt_of_le_of_lt hl.1 (by omega)
      have := (Nat.pow_lt_pow_iff_right (a := 2) (by omega)).1 this
      omega
    obtain ⟨M, hM⟩ : ∃ M, c.natAbs * 2 ^ (52 - L) = M := ⟨_, rfl⟩
    have hM1 : 4503599627370496 ≤ M := by
      have : 2 ^ L * 2 ^ (52 - L) ≤ c.natAbs * 2 ^ (52 - L) := Nat.mul_le_mul_right _ hl.1
      rw [← Nat.pow_add, show L + (52 - L) = 52 from by omega] at this
      omega
    have hM2 : M < 9007199254740992 := by
      have : c.natAbs * 2 ^ (52 - L) < 2 ^ (L + 1) * 2 ^ (52 - L) := Nat.mul_lt_mul_of_pos_right hl.2 (Nat.two_pow_pos _)
      rw [← Nat.pow_add, show L + 1 + (52 - L) = 53 from by omega] at this
      omega
    obtain ⟨E, hE⟩ : ∃ E : Int, E = L - 52 - k := ⟨_, rfl⟩
    have hE1 : -1074 ≤ E := by omega
    have hE2 : E ≤ 900 := by omega
    -- M * 2^(E + big) * 2^k = |c| * 2^big
    have hME : M * 2 ^ (E + big).toNat * 2 ^ k = c.natAbs * 2 ^ big := by
      rw [← hM, Nat.mul_assoc, Nat.mul_assoc, ← Nat.pow_add, ← Nat.pow_add]
      congr 2
      omega
    have hmM : m * 2 ^ (e + big).toNat = M * 2 ^ (E + big).toNat := Nat.eq_of_mul_eq_mul_right (Nat.two_pow_pos k) (hv.trans hME.symm)
    have hcase : (∃ k : Nat, m = M * 2 ^ k ∧ e = E - k) ∨ (∃ k : Nat, M = m * 2 ^ k ∧ e = E + k) := by
      by_cases hle : e ≤ E
      · left
        refine ⟨(E - e).toNat, ?_, sub_toNat e E hle⟩
        refine Nat.eq_of_mul_eq_mul_right (Nat.two_pow_pos (e + big).toNat) ?_
        rw [hmM, Nat.mul_assoc, ← Nat.pow_add, exp_split E e big hle he]
      · right
        refine ⟨(e - E).toNat, ?_, add_toNat e E (Int.le_of_lt (Int.not_le.1 hle))⟩
        refine Nat.eq_of_mul_eq_mul_right (Nat.two_pow_pos (E + big).toNat) ?_
        rw [← hmM, Nat.mul_assoc, ← Nat.pow_add, exp_split e E big (Int.le_of_lt (Int.not_le.1 hle)) (by rw [hb]; exact hE1)]
    rw [nearest_eq s m e M E hM1 hM2 hE1 hE2 hcase]
    refine ⟨word_small _ _ (by omega), s, M, E, read_word s M E hM1 hM2 hE1 hE2, by omega, hM2, ?_⟩
    have hs' := hs h0
    have hz : (M : Int) * 2 ^ (E + big).toNat * 2 ^ k = (c.natAbs : Int) * 2 ^ big := by exact_mod_cast hME
    rw [signed_eq]
    by_cases hneg : c < 0
    · rw [hs', decide_eq_true hneg, if_pos rfl, Int.neg_mul, Int.neg_mul, hz, ← Int.neg_mul, natAbs_neg_eq hneg]
    · rw [hs', decide_eq_false hneg]
      simp only [Bool.false_eq_true, if_false]
      rw [hz, natAbs_pos_eq hneg]

/-- float64(n). -/
theorem rep_ofInt (n : Int) (h : n.natAbs < 9007199254740992) : Rep 0 (floatOfInt .f64 n) n := by
  have hb := big_eq
  refine rep_write 0 (by omega) _ _ _ (by omega) n h ?_ (fun _ => rfl)
  rw [Nat.pow_zero, Nat.mul_one, Int.zero_add, Int.toNat_natCast]

/-- The sum. -/
theorem rep_add {a b : Nat} {x y : Int} (ha : Rep 0 a x) (hb : Rep 0 b y) (h : (x + y).natAbs < 9007199254740992) :
    ∃ r, double.add a b = some r ∧ Rep 0 r (x + y) := by
  obtain ⟨_, s, m, i, ra, hi, _, va⟩ := ha
  obtain ⟨_, t, n, j, rb, hj, _, vb⟩ := hb
  unfold Format.add
  rw [ra, rb]
  simp only [Datum.sum, Option.map_some, Format.write]
  obtain ⟨base, hbase⟩ : ∃ base, min i j = base := ⟨_, rfl⟩
  rw [hbase]
  obtain ⟨T, hT⟩ : ∃ T, signed s m (i - base).toNat + signed t n (j - base).toNat = T := ⟨_, rfl⟩
  rw [hT]
  have hT2 : T * 2 ^ (base + big).toNat = (x + y) * 2 ^ big := by
    rw [Int.pow_zero, Int.mul_one] at va vb
    rw [← hT, Int.add_mul, Int.add_mul, ← va, ← vb]
    simp only [signed_eq]
    rw [Int.mul_assoc, Int.mul_assoc, ← Int.pow_add, ← Int.pow_add]
    congr 3 <;> omega
  refine ⟨_, rfl, rep_write 0 (by omega) _ _ _ (by omega) (x + y) h ?_ ?_⟩
  · have := congrArg Int.natAbs hT2
    rw [Int.natAbs_mul, Int.natAbs_mul, Int.natAbs_pow, Int.natAbs_pow] at this
    rw [Nat.pow_zero, Nat.mul_one]
    exact this
  · intro hne
    have hT0 : T ≠ 0 := by
      rintro rfl
      rw [Int.zero_mul] at hT2
      rcases Int.mul_eq_zero.1 hT2.symm with h | h
      · exact hne h
      · exact absurd h (Int.ne_of_gt (pow_pos _))
    rw [if_neg hT0]
    congr 1
    refine propext ⟨fun hlt => ?_, fun hlt => ?_⟩
    · have := Int.mul_neg_of_neg_of_pos hlt (pow_pos (base + big).toNat)
      rw [hT2] at this
      exact Int.not_le.1 fun hge => absurd (Int.mul_nonneg hge (Int.le_of_lt (pow_pos big))) (by omega)
    · have := Int.mul_neg_of_neg_of_pos hlt (pow_pos big)
      rw [← hT2] at this
      exact Int.not_le.1 fun hge => absurd (Int.mul_nonneg hge (Int.le_of_lt (pow_pos (base + big).toNat))) (by omega)

theorem mul_lt_mul_iff (a b : Int) (n : Nat) : a * 2 ^ n < b * 2 ^ n ↔ a < b :=
  ⟨fun h => Int.not_le.1 fun hge => absurd (Int.mul_le_mul_of_nonneg_right hge (Int.le_of_lt (pow_pos n))) (by omega), fun h => Int.mul_lt_mul_of_pos_right h (pow_pos n)⟩

theorem mul_eq_mul_iff (a b : Int) (n : Nat) : a * 2 ^ n = b * 2 ^ n ↔ a = b :=
  ⟨fun h => Int.eq_of_mul_eq_mul_right (Int.ne_of_gt (pow_pos n)) h, fun h => by rw [h]⟩

theorem compare_scale (a b : Int) (n : Nat) : compare (a * 2 ^ n) (b * 2 ^ n) = compare a b := by
  simp only [compare, compareOfLessAndEq, mul_lt_mul_iff, mul_eq_mul_iff]

/-- How two words stand to each other. -/
theorem rep_order {j k a b : Nat} {x y : Int} (ha : Rep j a x) (hb : Rep k b y) : double.order a b = some (compare (x * 2 ^ k) (y * 2 ^ j)) := by
  obtain ⟨_, s, m, p, ra, hp, _, va⟩ := ha
  obtain ⟨_, t, n, q, rb, hq, _, vb⟩ := hb
  unfold Format.order
  rw [ra, rb]
  simp only [Datum.order]
  obtain ⟨base, hbase⟩ : ∃ base, min p q = base := ⟨_, rfl⟩
  rw [hbase]
  congr 1
  rw [← compare_scale (signed s m (p - base).toNat) _ (base + big).toNat, ← compare_scale (signed s m (p - base).toNat * 2 ^ (base + big).toNat) _ (j + k)]
  rw [← compare_scale (x * 2 ^ k) _ big]
  have e1 : signed s m (p - base).toNat * 2 ^ (base + big).toNat * 2 ^ (j + k) = x * 2 ^ k * 2 ^ big := by
    rw [Int.mul_right_comm x, ← va, signed_eq, signed_eq, Int.pow_add, ← Int.mul_assoc]
    rw [Int.mul_assoc (if s then -(m : Int) else m) (2 ^ _) (2 ^ _), ← Int.pow_add]
    congr 4
    omega
  have e2 : signed t n (q - base).toNat * 2 ^ (base + big).toNat * 2 ^ (j + k) = y * 2 ^ j * 2 ^ big := by
    rw [Int.mul_right_comm y, ← vb, signed_eq, signed_eq, Int.pow_add, Int.mul_comm (2 ^ j) (2 ^ k), ← Int.mul_assoc]
    rw [Int.mul_assoc (if t then -(n : Int) else n) (2 ^ _) (2 ^ _), ← Int.pow_add]
    congr 4
    omega
  rw [e1, e2]

theorem compare_eq (x y : Int) : (some (compare x y) == some Ordering.eq) = decide (x = y) := by
  simp only [compare, compareOfLessAndEq]
  by_cases h1 : x < y
  · rw [if_pos h1, decide_eq_false (by omega)]; rfl
  · rw [if_neg h1]
    by_cases h2 : x = y
    · rw [if_pos h2, decide_eq_true h2]; rfl
    · rw [if_neg h2, decide_eq_false h2]; rfl
theorem compare_gt (x y : Int) : (some (compare x y) == some Ordering.gt) = decide (y < x) := by
  simp only [compare, compareOfLessAndEq]
  by_cases h1 : x < y
  · rw [if_pos h1, decide_eq_false (by omega)]; rfl
  · rw [if_neg h1]
    by_cases h2 : x = y
    · rw [if_pos h2, decide_eq_false (by omega)]; rfl
    · rw [if_neg h2, decide_eq_true (by omega)]; rfl

/-- Equal words. -/
theorem rep_eq {a b : Nat} {x y : Int} (ha : Rep 0 a x) (hb : Rep 0 b y) : (FloatKind.f64.format.order a b == some .eq) = decide (x = y) := by
  show (double.order a b == some .eq) = _
  rw [rep_order ha hb, Int.pow_zero, Int.mul_one, Int.mul_one, compare_eq]

theorem f64_add {a b r : Nat} (h : double.add a b = some r) : floatBits .add .f64 a b = some r := h


/-- The sign of what stands for a number that is not nought. -/
theorem sign_of {k : Nat} {s : Bool} {m u : Nat} {x : Int} (h : signed s m u * 2 ^ k = x * 2 ^ big) (hx : x ≠ 0) : s = decide (x < 0) := by
  have hp := pow_pos k
  have hq := pow_pos big
  rw [signed_eq, Int.mul_assoc, ← Int.pow_add] at h
  have hr := pow_pos (u + k)
  cases s
  · simp only [Bool.false_eq_true, if_false] at h
    have h1 : 0 ≤ x * 2 ^ big := by rw [← h]; exact Int.mul_nonneg (by omega) (Int.le_of_lt hr)
    have : ¬ x < 0 := fun hn => absurd (Int.mul_neg_of_neg_of_pos hn hq) (by omega)
    rw [decide_eq_false this]
  · simp only [if_true] at h
    have h1 : x * 2 ^ big ≤ 0 := by rw [← h, Int.neg_mul]; have := Int.mul_nonneg (Int.natCast_nonneg m) (Int.le_of_lt hr); omega
    have : x < 0 := by
      refine Int.not_le.1 fun hn => ?_
      have hx' : 0 < x := by omega
      have := Int.mul_pos hx' hq
      omega
    rw [decide_eq_true this]

/-- The sign bit turned: the opposite number. -/
theorem xor_sign (b : Nat) (h : b < 18446744073709551616) : b ^^^ 9223372036854775808 = if b < 9223372036854775808 then b + 9223372036854775808 else b - 9223372036854775808 := by
  have e : (9223372036854775808 : Nat) = 2 ^ 63 := by decide
  split
  · rename_i hlt
    refine Nat.eq_of_testBit_eq fun i => ?_
    rw [Nat.testBit_xor, e, Nat.add_comm]
    by_cases hi : i = 63
    · subst hi
      rw [Nat.testBit_two_pow_add_eq, Nat.testBit_two_pow_self, Bool.xor_true]
    · by_cases hi2 : i < 63
      · rw [Nat.testBit_two_pow_add_gt hi2, Nat.testBit_two_pow_of_ne (by omega), Bool.xor_false]
      · have h1 : b < 2 ^ i := Nat.lt_of_lt_of_le (by rw [← e]; exact hlt) (Nat.pow_le_pow_right (by omega) (show 63 ≤ i by omega))
        have h2 : 2 ^ 63 + b < 2 ^ i := Nat.lt_of_lt_of_le (by rw [← e]; omega : 2 ^ 63 + b < 2 ^ 64) (Nat.pow_le_pow_right (by omega) (show 64 ≤ i by omega))
        rw [Nat.testBit_two_pow_of_ne (by omega), Nat.testBit_lt_two_pow h1, Nat.testBit_lt_two_pow h2]; rfl
  · rename_i hge
    obtain ⟨c, rfl⟩ : ∃ c, b = c + 9223372036854775808 := ⟨b - 9223372036854775808, by omega⟩
    have hc : c < 9223372036854775808 := by omega
    rw [Nat.add_sub_cancel]
    refine Nat.eq_of_testBit_eq fun i => ?_
    rw [Nat.testBit_xor, e, Nat.add_comm]
    by_cases hi : i = 63
    · subst hi
      rw [Nat.testBit_two_pow_add_eq, Nat.testBit_two_pow_self, Bool.xor_true, Bool.not_not]
    · by_cases hi2 : i < 63
      · rw [Nat.testBit_two_pow_add_gt hi2, Nat.testBit_two_pow_of_ne (by omega), Bool.xor_false]
      · have h1 : c < 2 ^ i := Nat.lt_of_lt_of_le (by rw [← e]; exact hc) (Nat.pow_le_pow_right (by omega) (show 63 ≤ i by omega))
        have h2 : 2 ^ 63 + c < 2 ^ i := Nat.lt_of_lt_of_le (by rw [← e]; omega : 2 ^ 63 + c < 2 ^ 64) (Nat.pow_le_pow_right (by omega) (show 64 ≤ i by omega))
        rw [Nat.testBit_two_pow_of_ne (by omega), Nat.testBit_lt_two_pow h1, Nat.testBit_lt_two_pow h2]; rfl

theorem read_low (b : Nat) (h : b < 9223372036854775808) : ∃ d : Datum, (∀ s, double.read (if s then b + 9223372036854775808 else b) = (match d with | .number _ m e => .number s m e | .infinity _ => .infinity s | .nan _ f => .nan s f)) := by
  refine ⟨double.read b, fun s => ?_⟩
  unfold Format.read
  rw [signW, binW, infR, least]
  have q1 : b % 9223372036854775808 = b := by omega
  have q2 : b / 9223372036854775808 = 0 := by omega
  cases s
  · simp only [Bool.false_eq_true, if_false, q1, q2]
    split
    · rfl
    · split
      · rfl
      · split <;> rfl
  · have q3 : (b + 9223372036854775808) % 9223372036854775808 = b := by omega
    have q4 : (b + 9223372036854775808) / 9223372036854775808 = 1 := by omega
    simp only [if_true, q1, q2, q3, q4]
    split
    · rfl
    · split
      · rfl
      · split <;> rfl

/-- A word and its sign bit. -/
theorem read_parts {b : Nat} {s : Bool} {m : Nat} {e : Int} (hb : b < 18446744073709551616) (h : double.read b = .number s m e) :
    ∃ c, c < 9223372036854775808 ∧ b = (if s then c + 9223372036854775808 else c) ∧ ∀ t, double.read (if t then c + 9223372036854775808 else c) = .number t m e := by
  by_cases hlt : b < 9223372036854775808
  · obtain ⟨d, hd⟩ := read_low b hlt
    have h0 := hd false
    simp only [Bool.false_eq_true, if_false] at h0
    rw [h] at h0
    cases d <;> simp only at h0 <;> first | (cases h0; done) | skip
    injection h0 with a1 a2 a3
    subst a1 a2 a3
    exact ⟨b, hlt, rfl, fun t => hd t⟩
  · obtain ⟨c, rfl⟩ : ∃ c, b = c + 9223372036854775808 := ⟨b - 9223372036854775808, by omega⟩
    have hc : c < 9223372036854775808 := by omega
    obtain ⟨d, hd⟩ := read_low c hc
    have h0 := hd true
    simp only [if_true] at h0
    rw [h] at h0
    cases d <;> simp only at h0 <;> first | (cases h0; done) | skip
    injection h0 with a1 a2 a3
    subst a1 a2 a3
    exact ⟨c, hc, rfl, fun t => hd t⟩

theorem negFloat_eq (b : Nat) : Op.negFloat .f64 b = b ^^^ 9223372036854775808 := rfl

theorem rep_neg {k b : Nat} {x : Int} (h : Rep k b x) : Rep k (Op.negFloat .f64 b) (-x) := by
  obtain ⟨hb, s, m, e, hr, he, hm, hv⟩ := h
  obtain ⟨c, hc, rfl, hrd⟩ := read_parts hb hr
  rw [negFloat_eq, xor_sign _ hb]
  have hnew : (if (if s then c + 9223372036854775808 else c) < 9223372036854775808 then (if s then c + 9223372036854775808 else c) + 9223372036854775808 else (if s then c + 9223372036854775808 else c) - 9223372036854775808) = (if !s then c + 9223372036854775808 else c) := by
    cases s
    · simp only [Bool.false_eq_true, if_false, Bool.not_false, if_true]; rw [if_pos hc]
    · simp only [if_true, Bool.not_true, Bool.false_eq_true, if_false]; rw [if_neg (by omega)]; omega
  rw [hnew]
  refine ⟨by split <;> omega, !s, m, e, hrd (!s), he, hm, ?_⟩
  rw [signed_eq] at hv ⊢
  rw [Int.neg_mul x, ← hv]
  cases s <;> simp [Int.neg_mul]

theorem rep_abs {k b : Nat} {x : Int} (h : Rep k b x) : Rep k (b % 9223372036854775808) (x.natAbs : Int) := by
  obtain ⟨hb, s, m, e, hr, he, hm, hv⟩ := h
  obtain ⟨c, hc, rfl, hrd⟩ := read_parts hb hr
  have hnew : (if s then c + 9223372036854775808 else c) % 9223372036854775808 = c := by cases s <;> simp <;> omega
  rw [hnew]
  have h0 := hrd false
  simp only [Bool.false_eq_true, if_false] at h0
  refine ⟨by omega, false, m, e, h0, he, hm, ?_⟩
  have := congrArg Int.natAbs hv
  rw [Int.natAbs_mul, Int.natAbs_mul, signed_natAbs, Int.natAbs_pow, Int.natAbs_pow] at this
  rw [signed_eq]
  simp only [Bool.false_eq_true, if_false]
  exact_mod_cast this

/-- The word of 4. -/
theorem read_four : double.read 4616189618054758400 = .number false 4503599627370496 (-50) := by decide

theorem log2_lt {m : Nat} (h : m < 9007199254740992) : m.log2 ≤ 52 := by
  by_cases h0 : m = 0
  · subst h0; simp
  · have hl := (Nat.log2_eq_iff h0 (k := m.log2)).1 rfl
    have : 2 ^ m.log2 < 2 ^ 53 := Nat.lt_of_le_of_lt hl.1 (by omega)
    have := (Nat.pow_lt_pow_iff_right (a := 2) (by omega)).1 this
    omega

/-- A quarter. -/
theorem rep_quarter {b : Nat} {x : Int} (h : Rep 0 b x) (hx : x.natAbs < 9007199254740992) : ∃ r, double.div b 4616189618054758400 = some r ∧ Rep 2 r x := by
  have hbig := big_eq
  obtain ⟨hb, s, m, e, hr, he, hm, hv⟩ := h
  unfold Format.div
  rw [hr, read_four]
  have hlm := log2_lt hm
  have hl4 : (4503599627370496 : Nat).log2 = 52 := by decide
  simp only [Datum.quotient, frac, hl4]
  rw [if_neg (by omega)]
  obtain ⟨more, hmore⟩ : ∃ more, 52 + 2 + 52 - m.log2 = more := ⟨_, rfl⟩
  rw [hmore, Nat.shiftLeft_eq]
  have hq : m * 2 ^ more = (m * 2 ^ (more - 52)) * 4503599627370496 := by
    rw [show (4503599627370496 : Nat) = 2 ^ 52 from by decide, Nat.mul_assoc, ← Nat.pow_add]
    congr 2
    omega
  rw [hq, Nat.mul_div_cancel _ (by omega), Nat.mul_mod_left]
  simp only [bne_self_eq_false, Bool.toNat_false, Nat.add_zero, Option.map_some, Format.write]
  have hva : m * 2 ^ (e + big).toNat = x.natAbs * 2 ^ big := by
    have := congrArg Int.natAbs hv
    rw [Int.natAbs_mul, Int.natAbs_mul, signed_natAbs, Int.natAbs_pow, Int.natAbs_pow, Nat.pow_zero, Nat.mul_one] at this
    exact this
  have hsg : x ≠ 0 → (s ^^ false) = decide (x < 0) := fun hx0 => by
    rw [Bool.xor_false]
    exact sign_of hv hx0
  by_cases h0 : m = 0
  · subst h0
    have hx0 : x.natAbs = 0 := by
      rw [Nat.zero_mul] at hva
      rcases Nat.mul_eq_zero.1 hva.symm with h | h
      · exact h
      · exact absurd h (Nat.ne_of_gt (Nat.two_pow_pos _))
    have hn : ∀ p, double.nearest (s ^^ false) (2 * (0 * 2 ^ (more - 52))) p = double.nearest (s ^^ false) 0 0 := fun p => by
      rw [Nat.zero_mul, Nat.mul_zero]; unfold Format.nearest; rw [if_pos rfl, if_pos rfl]
    rw [hn]
    exact ⟨_, rfl, rep_write 2 (by omega) _ _ _ (by omega) x hx (by rw [hx0]; simp) hsg⟩
  · have hx0 : x.natAbs ≠ 0 := by
      intro hz
      rw [hz, Nat.zero_mul] at hva
      rcases Nat.mul_eq_zero.1 hva with h | h
      · exact h0 h
      · exact absurd h (Nat.ne_of_gt (Nat.two_pow_pos _))
    have he2 : -53 ≤ e := by
      have hl : 2 ^ big ≤ m * 2 ^ (e + big).toNat := by rw [hva]; exact Nat.le_mul_of_pos_left _ (by omega)
      have hl2 : m * 2 ^ (e + big).toNat < 2 ^ 53 * 2 ^ (e + big).toNat := Nat.mul_lt_mul_of_pos_right (by omega) (Nat.two_pow_pos _)
      rw [← Nat.pow_add] at hl2
      have := (Nat.pow_lt_pow_iff_right (a := 2) (by omega)).1 (Nat.lt_of_le_of_lt hl hl2)
      omega
    refine ⟨_, rfl, rep_write 2 (by omega) _ _ _ (by omega) x hx ?_ hsg⟩
    rw [← hva, show 2 * (m * 2 ^ (more - 52)) = m * 2 ^ (more - 52 + 1) from by rw [Nat.pow_succ, Nat.mul_comm 2, Nat.mul_assoc], Nat.mul_assoc, Nat.mul_assoc, ← Nat.pow_add, ← Nat.pow_add]
    congr 2
    omega

/-- x / 2^e of a word, towards zero. -/
theorem cut_zero (s : Bool) (n drop : Nat) : Toward.zero.cut s n drop = n / 2 ^ drop := by
  unfold Toward.cut
  rw [Nat.shiftLeft_eq, Nat.one_mul]
  simp only [Bool.toNat_false, Nat.add_zero]
  by_cases h : drop ≤ n.log2 + 2
  · rw [Nat.min_eq_left h]
  · rw [Nat.min_eq_right (by omega)]
    have h1 : n < 2 ^ (n.log2 + 2) := Nat.lt_of_lt_of_le Nat.lt_log2_self (Nat.pow_le_pow_right (by omega) (by omega))
    have h2 : n < 2 ^ drop := Nat.lt_of_lt_of_le h1 (Nat.pow_le_pow_right (by omega) (by omega))
    rw [Nat.div_eq_of_lt h1, Nat.div_eq_of_lt h2]

/-- The magnitude, cut towards zero. -/
theorem cut_rep {k m a : Nat} {e : Int} (he : -(big : Int) ≤ e) (hv : m * 2 ^ (e + big).toNat * 2 ^ k = a * 2 ^ big) : (m <<< e.toNat) / 2 ^ (-e).toNat = a / 2 ^ k := by
  rw [Nat.shiftLeft_eq]
  by_cases h : 0 ≤ e
  · have h1 : m * 2 ^ e.toNat * 2 ^ k = a := by
      refine Nat.eq_of_mul_eq_mul_right (Nat.two_pow_pos big) ?_
      rw [← hv, Nat.mul_right_comm, Nat.mul_assoc m, ← Nat.pow_add]
      congr 3
      omega
    rw [show (-e).toNat = 0 from by omega, Nat.pow_zero, Nat.div_one, ← h1, Nat.mul_div_cancel _ (Nat.two_pow_pos k)]
  · have h1 : m * 2 ^ k = a * 2 ^ (-e).toNat := by
      refine Nat.eq_of_mul_eq_mul_right (Nat.two_pow_pos (e + big).toNat) ?_
      rw [Nat.mul_right_comm, hv, Nat.mul_assoc, ← Nat.pow_add]
      congr 2
      omega
    rw [show e.toNat = 0 from by omega, Nat.pow_zero, Nat.mul_one, ← Nat.mul_div_mul_right m _ (Nat.two_pow_pos k), h1, Nat.mul_comm (2 ^ _) (2 ^ k), Nat.mul_div_mul_right _ _ (Nat.two_pow_pos _)]

theorem rep_toInt {b : Nat} {x : Int} (h : Rep 0 b x) : (FloatKind.f64.decode b).toInt .zero = some x := by
  obtain ⟨hb, s, m, e, hr, he, hm, hv⟩ := h
  show (double.read b).toInt .zero = _
  rw [hr]
  have hva : m * 2 ^ (e + big).toNat * 2 ^ 0 = x.natAbs * 2 ^ big := by
    have := congrArg Int.natAbs hv
    rw [Int.natAbs_mul, Int.natAbs_mul, signed_natAbs, Int.natAbs_pow, Int.natAbs_pow] at this
    exact this
  simp only [Datum.toInt, Datum.integral]
  rw [cut_zero, cut_rep he hva, Nat.pow_zero, Nat.div_one]
  congr 1
  rw [signed_eq, Int.pow_zero, Int.mul_one]
  by_cases hx : x = 0
  · subst hx; cases s <;> rfl
  · rw [sign_of hv hx]
    by_cases hn : x < 0
    · rw [decide_eq_true hn, if_pos rfl]; omega
    · rw [decide_eq_false hn]; simp only [Bool.false_eq_true, if_false]; omega

theorem natAbs_tdiv4 (x : Int) : (x.tdiv 4).natAbs = x.natAbs / 4 := by
  rw [Int.natAbs_tdiv]; rfl

/-- A quarter, cut towards zero, as a word. -/
theorem rep_trunc {b : Nat} {x : Int} (h : Rep 2 b x) (hx : x.natAbs < 9007199254740992) :
    Rep 0 (FloatKind.f64.encode ((FloatKind.f64.decode b).integral .zero)) (x.tdiv 4) ∧ (∃ s m e, FloatKind.f64.decode b = .number s m e) := by
  have hbig := big_eq
  obtain ⟨hb, s, m, e, hr, he, hm, hv⟩ := h
  have hva : m * 2 ^ (e + big).toNat * 2 ^ 2 = x.natAbs * 2 ^ big := by
    have := congrArg Int.natAbs hv
    rw [Int.natAbs_mul, Int.natAbs_mul, signed_natAbs, Int.natAbs_pow, Int.natAbs_pow] at this
    exact this
  refine ⟨?_, s, m, e, hr⟩
  show Rep 0 (double.write ((double.read b).integral .zero)) _
  rw [hr]
  simp only [Datum.integral, Format.write]
  rw [cut_zero, cut_rep he hva]
  refine rep_write 0 (by omega) _ _ _ (by omega) _ ?_ ?_ ?_
  · rw [natAbs_tdiv4]; omega
  · rw [natAbs_tdiv4, Nat.pow_zero, Nat.mul_one, Int.zero_add, Int.toNat_natCast]
  · intro hne
    have hx0 : x ≠ 0 := by rintro rfl; exact hne (by decide)
    rw [sign_of hv hx0]
    congr 1
    refine propext ?_
    have h1 := Int.mul_tdiv_add_tmod x 4
    have h2 := Int.tmod_lt_of_pos x (show (0:Int) < 4 by decide)
    have h3 := Int.lt_tmod_of_pos x (show (0:Int) < 4 by decide)
    by_cases hp : 0 ≤ x
    · have := Int.tmod_nonneg (b := 4) hp
      have := Int.tdiv_nonneg hp (show (0:Int) ≤ 4 by decide)
      omega
    · omega

end Go.Proofs.Ytfbifmgaehgcmaa.Fl
