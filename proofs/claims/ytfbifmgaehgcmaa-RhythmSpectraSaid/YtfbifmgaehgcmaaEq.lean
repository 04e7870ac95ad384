/- Equality of two arrays of four: what the operation answers; the walk of known. -/
import Derived.Test.YtfbifmgaehgcmaaFold
import Derived.ChangeKeysEq
namespace Go.Proofs.Ytfbifmgaehgcmaa
open Go.RowKit Fl

theorem cells23 : Try.prog.cellsOf 23 = 1 := by kernel_rfl
theorem cells2 : Try.prog.cellsOf 2 = 1 := by kernel_rfl
theorem info23 : (Try.prog.info? 23).isSome = true := by kernel_rfl
theorem info2 : (Try.prog.info? 2).isSome = true := by kernel_rfl

theorem run_part_one {P : Program} {e : TypeId} {d : TypeDesc} (he : P.underlying e = some d) (hd : (match d with | .struct _ | .array _ _ => false | _ => true) = true) {xs : Array Value} {off : Nat} {v : Value} (hx : xs[off]? = some v) (w : World) :
    (part e xs off).run P w = .ok v w := by
  unfold part isAgg
  rw [Sem.run_bind, Sem.run_bind, run_underlying he w]
  cases d <;> simp_all

theorem run_equalIn_complex (d : Nat) (a b c e : Nat) (w : World) :
    (Op.equalIn (d + 1) 23 (.complex .f64 a b) (.complex .f64 c e)).run Try.prog w = .ok (Op.floatEq .f64 a c && Op.floatEq .f64 b e) w := by
  simp [Op.equalIn, run_underlying Try.underlying23]

theorem run_equalIn_i64 (d : Nat) (m n : Int) (w : World) :
    (Op.equalIn (d + 1) 2 (.int .i64 m) (.int .i64 n)).run Try.prog w = .ok (m == n) w := by
  simp [Op.equalIn, run_underlying Try.underlying2]

theorem eqItems_c {X Y : Nat → Int × Int} {cs ds : Array Value} (hX : Row4 X cs) (hY : Row4 Y ds) (d : Nat) (w : World) : ∀ is : List Nat, (∀ i ∈ is, i < 4) →
    (Op.eqItems (d + 1) 23 1 cs ds is).run Try.prog w = .ok (is.all fun i => decide (X i = Y i)) w
  | [], _ => by simp [Op.eqItems]
  | i :: is, h => by
    obtain ⟨a, b, e1, r1, r2⟩ := hX.2 i (h i (by simp))
    obtain ⟨a', b', e2, r3, r4⟩ := hY.2 i (h i (by simp))
    have ih := eqItems_c hX hY d w is (fun j hj => h j (by simp [hj]))
    have hq : (Op.floatEq .f64 a a' && Op.floatEq .f64 b b') = decide (X i = Y i) := by
      unfold Op.floatEq
      rw [rep_eq r1 r3, rep_eq r2 r4, ← Bool.decide_and]
      congr 1
      exact propext ⟨fun h => Prod.ext h.1 h.2, fun h => by rw [h]; exact ⟨rfl, rfl⟩⟩
    simp only [Op.eqItems, Nat.mul_one, Sem.run_bind, run_part_one Try.underlying23 rfl e1, run_part_one Try.underlying23 rfl e2, Result.andThen_ok, run_equalIn_complex, hq]
    rw [List.all_cons]
    by_cases hxy : X i = Y i
    · rw [decide_eq_true hxy]
      simp only [Bool.not_true, Bool.false_eq_true, if_false, Bool.true_and]
      exact ih
    · rw [decide_eq_false hxy]
      simp

theorem eqItems_i {X Y : Nat → Int} {cs ds : Array Value} (hX : RowI X cs) (hY : RowI Y ds) (d : Nat) (w : World) : ∀ is : List Nat, (∀ i ∈ is, i < 4) →
    (Op.eqItems (d + 1) 2 1 cs ds is).run Try.prog w = .ok (is.all fun i => decide (X i = Y i)) w
  | [], _ => by simp [Op.eqItems]
  | i :: is, h => by
    have e1 := hX.2 i (h i (by simp))
    have e2 := hY.2 i (h i (by simp))
    have ih := eqItems_i hX hY d w is (fun j hj => h j (by simp [hj]))
    have hq : (X i == Y i) = decide (X i = Y i) := by rw [Bool.eq_iff_iff]; simp
    simp only [Op.eqItems, Nat.mul_one, Sem.run_bind, run_part_one Try.underlying2 rfl e1, run_part_one Try.underlying2 rfl e2, Result.andThen_ok, run_equalIn_i64, hq]
    rw [List.all_cons]
    by_cases hxy : X i = Y i
    · rw [decide_eq_true hxy]
      simp only [Bool.not_true, Bool.false_eq_true, if_false, Bool.true_and]
      exact ih
    · rw [decide_eq_false hxy]
      simp

/-- Are the first four alike? -/
def alike4 {α : Type} [DecidableEq α] (X Y : Nat → α) : Bool := (List.range 4).all fun i => decide (X i = Y i)

theorem alike4_true {α : Type} [DecidableEq α] {X Y : Nat → α} (h : ∀ i, i < 4 → X i = Y i) : alike4 X Y = true := by
  unfold alike4
  rw [List.all_eq_true]
  intro i hi
  exact decide_eq_true (h i (List.mem_range.1 hi))

theorem run_equal24 {X Y : Nat → Int × Int} {cs ds : Array Value} (hX : Row4 X cs) (hY : Row4 Y ds) (w : World) : (Op.equal 24 (.agg cs) (.agg ds)).run Try.prog w = .ok (alike4 X Y) w := by
  obtain ⟨i, hi⟩ := Option.isSome_iff_exists.1 info23
  rw [show Op.equal 24 (.agg cs) (.agg ds) = Op.equalIn (9999 + 1) 24 (.agg cs) (.agg ds) from rfl, run_equalIn_array w 9999 cs ds Try.underlying24 hi, cells23]
  exact eqItems_c hX hY 9998 w _ fun i hi => List.mem_range.1 hi

theorem run_equal22 {X Y : Nat → Int} {cs ds : Array Value} (hX : RowI X cs) (hY : RowI Y ds) (w : World) : (Op.equal 22 (.agg cs) (.agg ds)).run Try.prog w = .ok (alike4 X Y) w := by
  obtain ⟨i, hi⟩ := Option.isSome_iff_exists.1 info2
  rw [show Op.equal 22 (.agg cs) (.agg ds) = Op.equalIn (9999 + 1) 22 (.agg cs) (.agg ds) from rfl, run_equalIn_array w 9999 cs ds Try.underlying22 hi, cells2]
  exact eqItems_i hX hY 9998 w _ fun i hi => List.mem_range.1 hi

theorem run_eql24 {X Y : Nat → Int × Int} {cs ds : Array Value} (hX : Row4 X cs) (hY : Row4 Y ds) (w : World) : (binOp .eql 24 (.agg cs) (.agg ds)).run Try.prog w = .ok (.bool (alike4 X Y)) w := by
  simp only [binOp]
  simp [run_equal24 hX hY w]
theorem run_eql22 {X Y : Nat → Int} {cs ds : Array Value} (hX : RowI X cs) (hY : RowI Y ds) (w : World) : (binOp .eql 22 (.agg cs) (.agg ds)).run Try.prog w = .ok (.bool (alike4 X Y)) w := by
  simp only [binOp]
  simp [run_equal22 hX hY w]
theorem run_neq22 {X Y : Nat → Int} {cs ds : Array Value} (hX : RowI X cs) (hY : RowI Y ds) (w : World) : (binOp .neq 22 (.agg cs) (.agg ds)).run Try.prog w = .ok (.bool (!alike4 X Y)) w := by
  simp only [binOp]
  simp [run_equal22 hX hY w]

/-- A constant word, told by its reading. -/
theorem rep_const {b : Nat} {s : Bool} {m : Nat} {e : Int} (hb : b < 18446744073709551616) (h : Ieee.double.read b = .number s m e) (c : Int) (he : -1074 ≤ e) (hv : (if s then -(m : Int) else m) = c * 2 ^ (-e).toNat) (he0 : e ≤ 0) : Rep 0 b c := by
  have hbg := big_eq
  obtain ⟨h1, _⟩ := read_bound h
  refine ⟨hb, s, m, e, h, by omega, h1, ?_⟩
  rw [signed_eq, hv, Int.pow_zero, Int.mul_one, Int.mul_assoc, ← Int.pow_add]
  congr 2
  omega

theorem rep_10 : Rep 0 4621819117588971520 10 := rep_const (by decide) (by decide : _ = Ieee.Datum.number false 5629499534213120 (-49)) 10 (by decide) (by decide) (by decide)
theorem rep_m2 : Rep 0 13835058055282163712 (-2) := rep_const (by decide) (by decide : _ = Ieee.Datum.number true 4503599627370496 (-51)) (-2) (by decide) (by decide) (by decide)
theorem rep_2 : Rep 0 4611686018427387904 2 := rep_const (by decide) (by decide : _ = Ieee.Datum.number false 4503599627370496 (-51)) 2 (by decide) (by decide) (by decide)

theorem known_row : Row4 (fun k => psum (q4 1 2 3 4) k 4) #[.complex .f64 4621819117588971520 0, .complex .f64 13835058055282163712 4611686018427387904, .complex .f64 13835058055282163712 0, .complex .f64 13835058055282163712 13835058055282163712] := by
  refine ⟨rfl, fun i hi => ?_⟩
  rcases (by omega : i = 0 ∨ i = 1 ∨ i = 2 ∨ i = 3) with rfl | rfl | rfl | rfl
  · exact ⟨_, _, rfl, rep_10, rep_zero⟩
  · exact ⟨_, _, rfl, rep_m2, rep_2⟩
  · exact ⟨_, _, rfl, rep_m2, rep_zero⟩
  · exact ⟨_, _, rfl, rep_m2, rep_m2⟩

end Go.Proofs.Ytfbifmgaehgcmaa
