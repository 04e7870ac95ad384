/- Walks: math.Trunc, rhythm.Back by their contracts. -/
import Derived.Test.YtfbifmgaehgcmaaSquare
namespace Go.Proofs.Ytfbifmgaehgcmaa
open Go.RowKit Fl

/-- The sum that gives the j-th number back, four times it; its first k parts. -/
def bsum (X : Nat → Int × Int) (j : Nat) : Nat → Int × Int
  | 0 => (0, 0)
  | k + 1 => ((bsum X j k).1 + (turnI (X k).1 (X k).2 ((-(j : Int) * (k : Int)) % 4)).1, (bsum X j k).2 + (turnI (X k).1 (X k).2 ((-(j : Int) * (k : Int)) % 4)).2)

theorem bsum_bound (X : Nat → Int × Int) (j : Nat) (B : Int) (hX : ∀ k, k < 4 → (-B ≤ (X k).1 ∧ (X k).1 ≤ B) ∧ (-B ≤ (X k).2 ∧ (X k).2 ≤ B)) (k : Nat) (hk : k ≤ 4) :
    (-(k * B) ≤ (bsum X j k).1 ∧ (bsum X j k).1 ≤ k * B) ∧ (-(k * B) ≤ (bsum X j k).2 ∧ (bsum X j k).2 ≤ k * B) := by
  induction k with
  | zero => simp [bsum]
  | succ k ih =>
    have h := hX k (by omega)
    have := turnI_bound (X k).1 (X k).2 ((-(j : Int) * (k : Int)) % 4) B h.1 h.2
    have := ih (by omega)
    simp only [bsum]
    have e : ((k + 1 : Nat) : Int) * B = k * B + B := by push_cast; rw [Int.add_mul, Int.one_mul]
    omega

/-- A quarter of a whole number, cut towards nought, as an integer. -/
theorem rep_toInt4 {b : Nat} {x : Int} (h : Rep 2 b x) : (FloatKind.f64.decode b).toInt .zero = some (x.tdiv 4) := by
  obtain ⟨hb, s, m, e, hr, he, hm, hv⟩ := h
  show (Ieee.double.read b).toInt .zero = _
  rw [hr]
  have hva : m * 2 ^ (e + big).toNat * 2 ^ 2 = x.natAbs * 2 ^ big := by
    have := congrArg Int.natAbs hv
    rw [Int.natAbs_mul, Int.natAbs_mul, signed_natAbs, Int.natAbs_pow, Int.natAbs_pow] at this
    exact this
  simp only [Ieee.Datum.toInt, Ieee.Datum.integral]
  rw [cut_zero, cut_rep he hva]
  congr 1
  rw [signed_eq, Int.pow_zero, Int.mul_one]
  have h1 := Int.mul_tdiv_add_tmod x 4
  have h2 := Int.tmod_lt_of_pos x (show (0:Int) < 4 by decide)
  have h3 := Int.lt_tmod_of_pos x (show (0:Int) < 4 by decide)
  have hq := natAbs_tdiv4 x
  rw [show x.natAbs / 2 ^ 2 = (x.tdiv 4).natAbs from by rw [hq]]
  by_cases hx : x = 0
  · subst hx; cases s <;> rfl
  · rw [sign_of hv hx]
    by_cases hn : x < 0
    · rw [decide_eq_true hn, if_pos rfl]
      have : x.tdiv 4 ≤ 0 := by omega
      omega
    · rw [decide_eq_false hn]
      simp only [Bool.false_eq_true, if_false]
      have := Int.tdiv_nonneg (show 0 ≤ x by omega) (show (0:Int) ≤ 4 by decide)
      omega

theorem call_trunc (b : Nat) {s : Bool} {m : Nat} {e : Int} (h : FloatKind.f64.decode b = .number s m e) (w : World) :
    (callFunc 34 #[.float .f64 b]).run Try.prog w = .ok (.value (.float .f64 (FloatKind.f64.encode ((FloatKind.f64.decode b).integral .zero)))) w := by
  rw [run_callFunc_extern Try.func34 (by kernel_rfl) (by kernel_rfl) (by kernel_rfl) (e := Extern.MathFloor.toIntegral "math.archTrunc" .zero) (by kernel_rfl)]
  have key : (Extern.MathFloor.toIntegral "math.archTrunc" .zero #[.float .f64 b]).run Try.prog w = .ok (.float .f64 (FloatKind.f64.encode ((FloatKind.f64.decode b).integral .zero))) w := by
    conv => lhs; arg 2; whnf
    simp only [h]
    rfl
  rw [key]
  rfl

theorem trunc_any (b : Nat) (x : Int) (h : Rep 2 b x) (hx : x.natAbs < 9007199254740992) (w : World) :
    Calls Try.prog 26 #[.float .f64 b] w fun e w' => (∃ t, e = .returned (.float .f64 t) ∧ Rep 0 t (x.tdiv 4)) ∧ w = w' := by
  obtain ⟨h1, s, m, e, hd⟩ := rep_trunc h hx
  have hc := call_trunc b hd
  generalize FloatKind.f64.encode ((FloatKind.f64.decode b).integral .zero) = t at *
  clear hd
  go_enter Try.func26, Try.ntmps26
  go_wp2
  go_ret
  exact ⟨⟨t, rfl, h1⟩, rfl⟩

/-- Is the j-th number whole, and without an imaginary part? -/
def Good (X : Nat → Int × Int) (j : Nat) : Prop := (bsum X j 4).2 = 0 ∧ (bsum X j 4).1 % 4 = 0

def BackIs (X : Nat → Int × Int) (e : Ending) : Prop :=
  ((∀ j, j < 4 → Good X j) ∧ ∃ cs, e = .returned (.tuple #[.agg cs, .bool true]) ∧ RowI (fun j => (bsum X j 4).1.tdiv 4) cs) ∨
  ((∃ j, j < 4 ∧ ¬ Good X j) ∧ e = .returned (.tuple #[.agg #[.int .i64 0, .int .i64 0, .int .i64 0, .int .i64 0], .bool false]))

/-- Behind each round of Back. -/
def HeldB (N : Nat) (A : Array Value) (C : Nat → Int) (w wr : World) : Prop :=
  wr.heap[N]? = some (.cells A 24 (0, 0)) ∧ wr.heap[N + 1]? = some (.cells #[.int .i64 0, .int .i64 0, .int .i64 0, .int .i64 0] 22 (0, 0)) ∧
    (∃ cs, wr.heap[N + 1 + 1]? = some (.cells cs 22 (0, 0)) ∧ RowI C cs) ∧ Below N w wr

theorem HeldB.congr {N : Nat} {A : Array Value} {X Y : Nat → Int} {w wr : World} (h : HeldB N A X w wr) (e : ∀ i, i < 4 → X i = Y i) : HeldB N A Y w wr :=
  ⟨h.1, h.2.1, by obtain ⟨cs, h1, h2⟩ := h.2.2.1; exact ⟨cs, h1, h2.congr e⟩, h.2.2.2⟩

theorem HeldB.store {N : Nat} {A : Array Value} {C : Nat → Int} {w wr : World} (h : HeldB N A C w wr) (k : Nat) (hk : k < 4) (x : Int) :
    HeldB N A (fun i => if i = k then x else C i) w (wr.setCell ⟨N + 1 + 1, k, none⟩ (.int .i64 x)) := by
  obtain ⟨h1, h2, ⟨cs, h3, h4⟩, h5⟩ := h
  refine ⟨?_, ?_, ⟨_, Joins.block_setCell h3 _, h4.set k x hk⟩, h5.setCell (by simp; omega) _⟩
  · rw [heap_setCell_other _ _ _ _ (by simp; omega)]; exact h1
  · rw [heap_setCell_other _ _ _ _ (by simp)]; exact h2

theorem HeldB.start (w : World) (A : Array Value) : HeldB w.heap.size A (fun _ => 0) w
    (((w.alloc (.cells A 24)).alloc (.cells #[.int .i64 0, .int .i64 0, .int .i64 0, .int .i64 0] 22)).alloc (.cells #[.int .i64 0, .int .i64 0, .int .i64 0, .int .i64 0] 22)) := by
  refine ⟨?_, ?_, ⟨_, ?_, (rowI_of 0 0 0 0).congr fun i hi => by rcases (by omega : i = 0 ∨ i = 1 ∨ i = 2 ∨ i = 3) with rfl | rfl | rfl | rfl <;> rfl⟩, ?_⟩
  · rw [heap_alloc_old _ _ (by simp; omega), heap_alloc_old _ _ (by simp)]; exact heap_alloc_new w _
  · rw [heap_alloc_old _ _ (by simp)]
    have := heap_alloc_new (w.alloc (.cells A 24)) (.cells #[.int .i64 0, .int .i64 0, .int .i64 0, .int .i64 0] 22)
    rwa [World.size_alloc] at this
  · have := heap_alloc_new ((w.alloc (.cells A 24)).alloc (.cells #[.int .i64 0, .int .i64 0, .int .i64 0, .int .i64 0] 22)) (.cells #[.int .i64 0, .int .i64 0, .int .i64 0, .int .i64 0] 22)
    rwa [World.size_alloc, World.size_alloc] at this
  · exact (((Below.refl _ _).alloc (Nat.le_refl _) _).alloc (by simp) _).alloc (by simp; omega) _

theorem cells4_of {w : World} {g : Nat} {a b c d : Value} {t : TypeId} (h : w.heap[g]? = some (.cells #[a, b, c, d] t (0, 0))) :
    (w.cell? ⟨g, 0, none⟩ = some a ∧ w.cell? ⟨g, 1, none⟩ = some b ∧ w.cell? ⟨g, 2, none⟩ = some c ∧ w.cell? ⟨g, 3, none⟩ = some d) ∧
    (w.frozen? ⟨g, 0, none⟩ = false ∧ w.frozen? ⟨g, 1, none⟩ = false ∧ w.frozen? ⟨g, 2, none⟩ = false ∧ w.frozen? ⟨g, 3, none⟩ = false) :=
  ⟨⟨Joins.cell_of_block h 0, Joins.cell_of_block h 1, Joins.cell_of_block h 2, Joins.cell_of_block h 3⟩, Joins.unfrozen_of_block h 0, Joins.unfrozen_of_block h 1, Joins.unfrozen_of_block h 2, Joins.unfrozen_of_block h 3⟩

theorem zeros_set {w : World} {g : Nat} (h : w.heap[g]? = some (.cells #[.int .i64 0, .int .i64 0, .int .i64 0, .int .i64 0] 22 (0, 0))) :
    ((((w.setCell ⟨g, 0, none⟩ (.int .i64 0)).setCell ⟨g, 1, none⟩ (.int .i64 0)).setCell ⟨g, 2, none⟩ (.int .i64 0)).setCell ⟨g, 3, none⟩ (.int .i64 0)).heap[g]? = some (.cells #[.int .i64 0, .int .i64 0, .int .i64 0, .int .i64 0] 22 (0, 0)) :=
  Joins.block_setCell (Joins.block_setCell (Joins.block_setCell (Joins.block_setCell h _) _) _) _

theorem results_row_tmp {P : Program} {fn : Func} {p u : Tmp} {ty : TypeId} (h : fn.results = #[.cell p ty, .tmp u]) (tmps : Array Value) (w : World) (g : Nat) (t : TypeId) (cs : Array Value) (fr : Nat × Nat) (d : TypeDesc)
    (hp : tmps.getD p undef = .pointer (some ⟨g, 0, none⟩)) (hg : w.heap[g]? = some (.cells cs t fr))
    (hu : P.underlying ty = some d) (hd : (match d with | .struct _ | .array _ _ => true | _ => false) = true) (hi : (P.info? ty).map (·.size) = some cs.size) :
    (results fn tmps).run P w = .ok (.tuple #[.agg cs, tmps.getD u undef]) w := by
  rw [results_cell_tmp h, hp]
  simp [asAddr, run_loadVar_row w g t ty cs fr d hg hu hd hi, Result.andThen]

/-- The tests of Back, at a sum that is known. -/
theorem quarter_facts {a : Nat} {x : Int} (ha : Rep 0 a x) (hx : x.natAbs < 4503599627370496) : ∃ r, r < 18446744073709551616 ∧
    (∀ w, (binOp .quo 36 (.float .f64 a) (.float .f64 4616189618054758400)).run Try.prog w = .ok (.float .f64 r) w) ∧
    (∀ w : World, Calls Try.prog 26 #[.float .f64 r] w fun e w' => (∃ t, e = .returned (.float .f64 t) ∧ (FloatKind.f64.format.order r t != some Ordering.eq) = decide (x % 4 ≠ 0)) ∧ w = w') ∧
    (FloatKind.f64.format.order (r % 9223372036854775808) 4886405595696988160 == some Ordering.gt) = false ∧
    (∀ w, (convert 36 2 (.float .f64 r)).run Try.prog w = .ok (.int .i64 (x.tdiv 4)) w) := by
  obtain ⟨r, hr1, hr2⟩ := rep_quarter ha (by omega)
  have h1 := Int.mul_tdiv_add_tmod x 4
  have h2 := Int.tmod_lt_of_pos x (show (0:Int) < 4 by decide)
  have h3 := Int.lt_tmod_of_pos x (show (0:Int) < 4 by decide)
  refine ⟨r, hr2.1, fun w => run_float_arith w .quo 36 .f64 a _ r hr1, fun w => ?_, ?_, fun w => ?_⟩
  · refine (trunc_any r x hr2 (by omega) w).mono fun e w' ⟨⟨t, he, ht⟩, hw⟩ => ⟨⟨t, he, ?_⟩, hw⟩
    have ho := rep_order hr2 ht
    have hbe : (FloatKind.f64.format.order r t == some Ordering.eq) = decide (x * 2 ^ 0 = x.tdiv 4 * 2 ^ 2) := by
      rw [show FloatKind.f64.format.order r t = _ from ho]; exact compare_eq _ _
    rw [bne, hbe, Int.pow_zero, Int.mul_one, show (2 : Int) ^ 2 = 4 from rfl, ← decide_not]
    congr 1
    refine propext (not_congr ⟨fun h => by omega, fun h => ?_⟩)
    have : x.tmod 4 = 0 := by omega
    omega
  · have ho := rep_order (rep_abs hr2) rep_big
    rw [show FloatKind.f64.format.order (r % 9223372036854775808) 4886405595696988160 = _ from ho, compare_gt, Int.pow_zero, Int.mul_one, show (2 : Int) ^ 2 = 4 from rfl]
    exact decide_eq_false (by omega)
  · refine run_convert_float_int w 36 2 .f64 .i64 r _ (by rw [Try.underlying36]; rfl) Try.underlying2 ?_
    unfold floatToIntVal
    rw [rep_toInt4 hr2]
    simp only
    rw [if_pos]
    simp [IntKind.min, IntKind.max, IntKind.signed, IntKind.bits]
    omega

set_option maxHeartbeats 2000000 in
theorem back_any {X : Nat → Int × Int} {A : Array Value} (hA : Row4 X A) (hX : ∀ k, k < 4 → (-70368744177664 ≤ (X k).1 ∧ (X k).1 ≤ 70368744177664) ∧ (-70368744177664 ≤ (X k).2 ∧ (X k).2 ≤ 70368744177664)) (w : World) :
    Calls Try.prog 13 #[.agg A] w fun e w' => BackIs X e ∧ Below w.heap.size w w' := by
  have hidx : ∀ k : Nat, k < 4 → ∃ a b, (∀ w, (Instr.index 24 (.agg A) (.int .i64 (k : Int))).run Try.prog w = .ok (.complex .f64 a b) w) ∧ Rep 0 a (X k).1 ∧ Rep 0 b (X k).2 := by
    obtain ⟨a0, b0, a1, b1, a2, b2, a3, b3, rfl, r0, r1, r2, r3⟩ := hA.form
    intro k hk
    rcases (by omega : k = 0 ∨ k = 1 ∨ k = 2 ∨ k = 3) with rfl | rfl | rfl | rfl
    · exact ⟨a0, b0, fun _ => by kernel_rfl, r0⟩
    · exact ⟨a1, b1, fun _ => by kernel_rfl, r1⟩
    · exact ⟨a2, b2, fun _ => by kernel_rfl, r2⟩
    · exact ⟨a3, b3, fun _ => by kernel_rfl, r3⟩
  have hsz : (Try.prog.info? 24).map (·.size) = some A.size := by rw [hA.1]; kernel_rfl
  clear hA
  have HI := Lib.hid hidx
  have HXb := Lib.hid hX
  clear hidx hX
  go_enter Try.func13, Try.ntmps13
  go_wp2
  go_loopw [10] (fun v wr => ∃ j : Nat, j ≤ 4 ∧ v = .int .i64 j ∧ (∀ i, i < j → Good X i) ∧ HeldB w.heap.size A (fun i => if i < j then (bsum X i 4).1.tdiv 4 else 0) w wr) (fun v _ => 4 - (intOf v).toNat)
  case atStart => exact ⟨0, by omega, rfl, fun i hi => by omega, (HeldB.start w A).congr fun i _ => by rw [if_neg (by omega)]⟩
  case round =>
    obtain ⟨j, hj, rfl, hgood, hh⟩ := hrel
    by_cases hlt : j < 4
    · have h1 := hh.1
      go_wp2_with (refine wpList_load_row rfl 24 _ rfl w.heap.size rfl 24 _ (0, 0) _ h1 Try.underlying24 rfl hsz ?_)
      clear h1
      have HG := Lib.hid hgood
      clear hgood
      go_loop [6, 14] (fun v6 v14 => ∃ k : Nat, k ≤ 4 ∧ v14 = .int .i64 k ∧ ∃ a b, v6 = .complex .f64 a b ∧ Rep 0 a (bsum X j k).1 ∧ Rep 0 b (bsum X j k).2) (fun _ v14 => 4 - (intOf v14).toNat)
      case atStart => exact ⟨0, by omega, rfl, 0, 0, rfl, rep_zero, rep_zero⟩
      case round =>
        obtain ⟨k, hk, rfl, a, b, rfl, ra, rb⟩ := hrel
        have bb := bsum_bound X j 70368744177664 HXb.out k hk
        by_cases hkt : k < 4
        · obtain ⟨xa, xb, hi, rxa, rxb⟩ := HI.out k hkt
          have tb := turnI_bound (X k).1 (X k).2 ((-(j : Int) * (k : Int)) % 4) 70368744177664 (HXb.out k hkt).1 (HXb.out k hkt).2
          obtain ⟨rc, rd⟩ := turn_rep rxa rxb ((-(j : Int) * (k : Int)) % 4)
          have kb : (k : Int) * 70368744177664 ≤ 281474976710656 := by omega
          obtain ⟨re, he1, he2⟩ := rep_add ra rc (by omega)
          obtain ⟨im, hm1, hm2⟩ := rep_add rb rd (by omega)
          have hwr : wrap64 (-(j : Int) * (k : Int)) = -(j : Int) * (k : Int) := by
            have : j * k ≤ 3 * 3 := Nat.mul_le_mul (by omega) (by omega)
            have e : -(j : Int) * (k : Int) = -((j * k : Nat) : Int) := by rw [Int.natCast_mul, Int.neg_mul]
            rw [e]
            exact IntWalk.wrap64_in _ ⟨by omega, by omega⟩
          have hcall : ∀ w, Calls Try.prog 24 #[.complex .f64 xa xb, .int .i64 (wrap64 (-(j : Int) * (k : Int)))] w fun e w' =>
              e = .returned (.complex .f64 (turnW xa xb ((-(j : Int) * (k : Int)) % 4)).1 (turnW xa xb ((-(j : Int) * (k : Int)) % 4)).2) ∧ w = w' := fun w => by
            rw [hwr]; exact turned_any xa xb _ w
          clear hwr
          obtain ⟨c, hc⟩ : ∃ c, (turnW xa xb ((-(j : Int) * (k : Int)) % 4)).1 = c := ⟨_, rfl⟩
          obtain ⟨d, hd⟩ : ∃ d, (turnW xa xb ((-(j : Int) * (k : Int)) % 4)).2 = d := ⟨_, rfl⟩
          rw [hc, hd] at hcall
          rw [hc] at he1
          rw [hd] at hm1
          have hadd : ∀ w, (binOp .add 23 (.complex .f64 a b) (.complex .f64 c d)).run Try.prog w = .ok (.complex .f64 re im) w := fun w =>
            run_complex_sum w .add (.inl rfl) 23 .f64 a b c d re im (by unfold cSumBits floatBits; simp only; rw [show FloatKind.f64.format = Ieee.double from rfl, he1, hm1]; rfl)
          clear hc hd he1 hm1 bb tb kb rc rd ra rb
          go_wp2_with fail
          refine (hcall _).mono ?_
          rintro e w' ⟨rfl, rfl⟩
          go_wp2
          go_round
          case rel => exact ⟨k + 1, by omega, by go_num, re, im, rfl, he2, hm2⟩
          case measure => simp [intOf]; omega
        · have e4 : k = 4 := by omega
          subst e4
          obtain ⟨h1, h2, ⟨cs, h3, h4⟩, h5⟩ := hh
          obtain ⟨r, hrl, hquo, htr, hgt, hcv⟩ := quarter_facts ra (by omega)
          have hSr : (bsum X j 4).1 % 4 = (bsum X j 4).1 % 4 := rfl
          obtain ⟨S, hS⟩ : ∃ S, (bsum X j 4).1 = S := ⟨_, rfl⟩
          obtain ⟨I, hI⟩ : ∃ I, (bsum X j 4).2 = I := ⟨_, rfl⟩
          rw [hS] at ra htr hcv
          rw [hI] at rb
          have hsz2 : (Try.prog.info? 22).map (·.size) = some (#[Value.int .i64 0, .int .i64 0, .int .i64 0, .int .i64 0] : Array Value).size := by kernel_rfl
          have hne : (FloatKind.f64.format.order b 0 != some Ordering.eq) = decide (I ≠ 0) := by
            have := rep_eq rb rep_zero
            rw [bne, this, ← decide_not]
          have hgoodj : Good X j ↔ (I = 0 ∧ S % 4 = 0) := by unfold Good; rw [hS, hI]
          have HGJ := Lib.hid hgoodj
          have HHS := Lib.hid hS
          clear hS hI hSr hgoodj bb
          by_cases hI0 : I = 0
          · rw [decide_eq_false (by simpa using hI0)] at hne
            by_cases hS4 : S % 4 = 0
            · rw [decide_eq_false (by simpa using hS4)] at htr
              have hgj : Hid (Good X j) := HGJ.out.2 ⟨hI0, hS4⟩
              clear HGJ
              have hab := abs_any r hrl
              have J0 : (0 : Int) ≤ (j : Int) := by omega
              have J1 : (j : Int) < 4 := by omega
              have hcell : ∃ u, wr.cell? ⟨w.heap.size + 1 + 1, j, none⟩ = some u := ⟨_, by rw [Joins.cell_of_block h3]; exact h4.2 j hlt⟩
              obtain ⟨u, hcell⟩ := hcell
              have hfz : wr.frozen? ⟨w.heap.size + 1 + 1, j, none⟩ = false := Joins.unfrozen_of_block h3 j
              have HN : Hid (HeldB w.heap.size A (fun i => if i < j + 1 then (bsum X i 4).1.tdiv 4 else 0) w (wr.setCell ⟨w.heap.size + 1 + 1, j, none⟩ (.int .i64 (S.tdiv 4)))) := by
                refine (HeldB.store ⟨h1, h2, ⟨cs, h3, h4⟩, h5⟩ j hlt (S.tdiv 4)).congr fun i hi4 => ?_
                by_cases e1 : i = j
                · subst e1
                  rw [if_pos rfl, if_pos (by omega), HHS.out]
                · rw [if_neg e1]
                  by_cases e2 : i < j
                  · rw [if_pos e2, if_pos (by omega)]
                  · rw [if_neg e2, if_neg (by omega)]
              clear h1 h2 h3 h4 HHS hsz2 ra rb
              go_wp2_with fail
              refine (htr _).mono ?_
              rintro e w' ⟨⟨t, rfl, ht⟩, rfl⟩
              go_wp2_with fail
              refine (hab _).mono ?_
              rintro e w' ⟨rfl, rfl⟩
              go_wp2
              go_roundw
              case rel => exact ⟨j + 1, by omega, by go_num, fun i hi => by
                by_cases e1 : i = j
                · subst e1; exact hgj
                · exact HG.out i (by omega), HN.out⟩
              case measure => simp [intOf]; omega
            · rw [decide_eq_true hS4] at htr
              have hbad : Hid (∃ j, j < 4 ∧ ¬ Good X j) := ⟨j, hlt, fun h => hS4 (HGJ.out.1 h).2⟩
              clear hgt hcv HGJ HHS ra rb h3 h4
              obtain ⟨⟨z0, z1, z2, z3⟩, g0, g1, g2, g3⟩ := cells4_of h2
              have ZS := Lib.hid (zeros_set h2)
              clear h2
              go_wp2_with fail
              refine (htr _).mono ?_
              rintro e w' ⟨⟨t, rfl, ht⟩, rfl⟩
              go_wp2
              refine bodyPost_ret (results_row_tmp rfl _ _ (w.heap.size + 1) 22 _ (0, 0) _ rfl ZS.out Try.underlying22 rfl hsz2) rfl ⟨.inr ⟨hbad, rfl⟩, (((h5.setCell (by simp) _).setCell (by simp) _).setCell (by simp) _).setCell (by simp) _⟩
          · rw [decide_eq_true hI0] at hne
            have hbad : Hid (∃ j, j < 4 ∧ ¬ Good X j) := ⟨j, hlt, fun h => hI0 (HGJ.out.1 h).1⟩
            clear htr hgt hcv HGJ HHS ra rb h3 h4
            obtain ⟨⟨z0, z1, z2, z3⟩, g0, g1, g2, g3⟩ := cells4_of h2
            have ZS := Lib.hid (zeros_set h2)
            clear h2
            go_wp2
            refine bodyPost_ret (results_row_tmp rfl _ _ (w.heap.size + 1) 22 _ (0, 0) _ rfl ZS.out Try.underlying22 rfl hsz2) rfl ⟨.inr ⟨hbad, rfl⟩, (((h5.setCell (by simp) _).setCell (by simp) _).setCell (by simp) _).setCell (by simp) _⟩
    · have e4 : j = 4 := by omega
      subst e4
      obtain ⟨h1, h2, ⟨cs, h3, h4⟩, h5⟩ := hh
      have hone : cs.all (·.oneCell') = true := h4.oneCell
      have hs4 : (Try.prog.info? 22).map (·.size) = some cs.size := by rw [h4.1]; kernel_rfl
      have hold : (#[Value.int .i64 0, .int .i64 0, .int .i64 0, .int .i64 0] : Array Value).size = cs.size := by rw [h4.1]; rfl
      have HG := Lib.hid hgood
      have H4 := Lib.hid h4
      clear hgood h4
      go_wp2_with (first | (refine wpList_load_row rfl 22 _ rfl (w.heap.size + 1 + 1) rfl 22 _ (0, 0) _ h3 Try.underlying22 rfl hs4 ?_) | (refine wpList_store_row rfl 22 _ _ rfl (w.heap.size + 1) cs rfl rfl 22 _ h2 hs4 hold hone ?_))
      refine bodyPost_ret (results_row_tmp rfl _ _ (w.heap.size + 1) 22 cs (0, 0) _ rfl (setRow_heap wr _ _ _ _ _ h2) Try.underlying22 rfl hs4) rfl ⟨.inl ⟨HG.out, cs, rfl, H4.out.congr fun i hi => by rw [if_pos hi]⟩, below_setRow h5 (by omega) _⟩

end Go.Proofs.Ytfbifmgaehgcmaa
