/- RhythmAdds: the walk. -/
import Derived.Test.YtfbifmgaehgcmaaKnown
import Derived.LoopN
import Derived.Handy
import Derived.RegionTactic
import Derived.BigRegion
import Derived.Deep.QuietTactic
import Derived.BigQuiet
namespace Go.Proofs.Ytfbifmgaehgcmaa
open Go.RowKit Fl

theorem heap_at_new (w : World) (o : Obj) (n : Nat) (h : n = w.heap.size) : (w.alloc o).heap[n]? = some o := by subst h; exact heap_alloc_new w o
theorem heap_at_old (w : World) (o : Obj) (n : Nat) (h : n < w.heap.size) : (w.alloc o).heap[n]? = w.heap[n]? := heap_alloc_old w o h
theorem heap_at_drew (w : World) : w.drew.heap = w.heap := rfl

theorem four_cells {w : World} {g : Nat} {a b c d : Value} {t : TypeId} {fr : Nat × Nat} (h : w.heap[g]? = some (.cells #[a, b, c, d] t fr)) :
    w.cell? ⟨g, 0, none⟩ = some a ∧ w.cell? ⟨g, 1, none⟩ = some b ∧ w.cell? ⟨g, 2, none⟩ = some c ∧ w.cell? ⟨g, 3, none⟩ = some d :=
  ⟨Joins.cell_of_block h 0, Joins.cell_of_block h 1, Joins.cell_of_block h 2, Joins.cell_of_block h 3⟩

theorem tmod_bd (a : Int) : -274877906943 ≤ a.tmod 274877906944 ∧ a.tmod 274877906944 ≤ 274877906943 := by
  have h2 := Int.tmod_lt_of_pos a (show (0:Int) < 274877906944 by decide)
  have h3 := Int.lt_tmod_of_pos a (show (0:Int) < 274877906944 by decide)
  omega

theorem q4_bd (n0 n1 n2 n3 B : Int) (h0 : -B ≤ n0 ∧ n0 ≤ B) (h1 : -B ≤ n1 ∧ n1 ≤ B) (h2 : -B ≤ n2 ∧ n2 ≤ B) (h3 : -B ≤ n3 ∧ n3 ≤ B) (hB : B ≤ 17592186044416) :
    ∀ j, -17592186044416 ≤ q4 n0 n1 n2 n3 j ∧ q4 n0 n1 n2 n3 j ≤ 17592186044416 := by
  intro j; unfold q4; split
  · omega
  · split
    · omega
    · split <;> omega

theorem turnI_add (x y r : Int) : turnI (x + y) 0 r = ((turnI x 0 r).1 + (turnI y 0 r).1, (turnI x 0 r).2 + (turnI y 0 r).2) := by
  unfold turnI
  split
  · exact Prod.ext (by simp) (by simp; omega)
  · split
    · exact Prod.ext (by simp; omega) (by simp)
    · split
      · exact Prod.ext (by simp) (by simp)
      · exact Prod.ext (by simp) (by simp)

theorem psum_add (A B C : Nat → Int) (h : ∀ j, C j = A j + B j) (k j : Nat) : psum C k j = ((psum A k j).1 + (psum B k j).1, (psum A k j).2 + (psum B k j).2) := by
  induction j with
  | zero => rfl
  | succ j ih =>
    simp only [psum]
    rw [ih, h, turnI_add]
    exact Prod.ext (by simp only; omega) (by simp only; omega)

theorem q4_add (a0 a1 a2 a3 b0 b1 b2 b3 : Int) (j : Nat) : q4 (a0 + b0) (a1 + b1) (a2 + b2) (a3 + b3) j = q4 a0 a1 a2 a3 j + q4 b0 b1 b2 b3 j := by
  unfold q4; split
  · rfl
  · split
    · rfl
    · split <;> rfl

/-- A sum of two and a third that is it. -/
theorem add_neq {a b c d p q : Nat} {x y u v : Int} (ha : Rep 0 a x ∧ Rep 0 b y) (hc : Rep 0 c u ∧ Rep 0 d v) (hp : Rep 0 p (x + u) ∧ Rep 0 q (y + v)) (h1 : (x + u).natAbs < 9007199254740992) (h2 : (y + v).natAbs < 9007199254740992) :
    ∃ re im, (∀ w, (binOp .add 23 (.complex .f64 a b) (.complex .f64 c d)).run Try.prog w = .ok (.complex .f64 re im) w) ∧
      (∀ w, (binOp .neq 23 (.complex .f64 p q) (.complex .f64 re im)).run Try.prog w = .ok (.bool false) w) := by
  obtain ⟨re, he1, he2⟩ := rep_add ha.1 hc.1 h1
  obtain ⟨im, hm1, hm2⟩ := rep_add ha.2 hc.2 h2
  refine ⟨re, im, fun w => run_complex_sum w .add (.inl rfl) 23 .f64 a b c d re im (by unfold cSumBits floatBits; simp only; rw [show FloatKind.f64.format = Ieee.double from rfl, he1, hm1]; rfl), fun w => ?_⟩
  rw [run_neq_complex, rep_eq hp.1 he2, rep_eq hp.2 hm2]
  simp

theorem adds_fact {A B C : Nat → Int} (h : ∀ j, C j = A j + B j) (hA : ∀ j, -17592186044416 ≤ A j ∧ A j ≤ 17592186044416) (hB : ∀ j, -17592186044416 ≤ B j ∧ B j ≤ 17592186044416) (k : Nat) {a b c d p q : Nat}
    (hx : Rep 0 a (psum A k 4).1 ∧ Rep 0 b (psum A k 4).2) (hy : Rep 0 c (psum B k 4).1 ∧ Rep 0 d (psum B k 4).2) (hz : Rep 0 p (psum C k 4).1 ∧ Rep 0 q (psum C k 4).2) :
    ∃ re im, (∀ w, (binOp .add 23 (.complex .f64 a b) (.complex .f64 c d)).run Try.prog w = .ok (.complex .f64 re im) w) ∧
      (∀ w, (binOp .neq 23 (.complex .f64 p q) (.complex .f64 re im)).run Try.prog w = .ok (.bool false) w) := by
  rw [psum_add A B C h] at hz
  have ba := psum_bound A k 17592186044416 hA (by omega) 4
  have bb := psum_bound B k 17592186044416 hB (by omega) 4
  exact add_neq hx hy hz (by omega) (by omega)

theorem eql_zero {a b : Nat} (h : Rep 0 a 0 ∧ Rep 0 b 0) (w : World) : (binOp .eql 23 (.complex .f64 a b) (.complex .f64 0 0)).run Try.prog w = .ok (.bool true) w := by
  rw [run_eql_complex, rep_eq h.1 rep_zero, rep_eq h.2 rep_zero]
  rfl

theorem rep_at {a b : Nat} {X : Int × Int} (h : Rep 0 a X.1 ∧ Rep 0 b X.2) (e : X = (0, 0)) : Rep 0 a 0 ∧ Rep 0 b 0 := by subst e; exact h

theorem twice_zero (a b : Int) (k : Nat) (hk : k = 1 ∨ k = 3) : psum (q4 a b a b) k 4 = (0, 0) := by
  rcases hk with rfl | rfl
  · simp [psum, turnI, q4]; omega
  · simp [psum, turnI, q4]; omega

set_option maxHeartbeats 4000000 in
theorem adds_any (a0 a1 a2 a3 b0 b1 b2 b3 : Int) (w : World) :
    Calls Try.prog 3 #[.agg #[.int .i64 a0, .int .i64 a1, .int .i64 a2, .int .i64 a3], .agg #[.int .i64 b0, .int .i64 b1, .int .i64 b2, .int .i64 b3]] w
      fun e w' => e = .returned (.bool true) ∧ Below w.heap.size w w' := by
  have ta0 := tmod_bd a0
  have ta1 := tmod_bd a1
  have ta2 := tmod_bd a2
  have ta3 := tmod_bd a3
  have tb0 := tmod_bd b0
  have tb1 := tmod_bd b1
  have tb2 := tmod_bd b2
  have tb3 := tmod_bd b3
  go_enter Try.func3, Try.ntmps3
  go_wp2
  refine wp_loop_rounds 5 ?_
  rw [rounds_succ]
  go_wp2
  go_region
  go_wp2
  rw [rounds_succ]
  go_wp2
  go_region
  go_wp2
  rw [rounds_succ]
  go_wp2
  go_region
  go_wp2
  rw [rounds_succ]
  go_wp2
  go_region
  go_wp2
  rw [rounds_succ]
  go_wp2_with fail
  refine (spectrum_any _ _ _ _ _ (q4_bd _ _ _ _ 274877906943 ta0 ta1 ta2 ta3 (by omega))).mono ?_
  rintro e w1 ⟨⟨cx, rfl, hx⟩, hb1⟩
  obtain ⟨x0, y0, x1, y1, x2, y2, x3, y3, rfl, rx0, rx1, rx2, rx3⟩ := hx.form
  have f1 := hb1.block (w.heap.size + 1) (by simp)
  have f2 := hb1.block (w.heap.size + 1 + 1) (by simp)
  have f3 := hb1.block (w.heap.size + 1 + 1 + 1) (by simp)
  simp (disch := (simp; try omega)) only [heap_at_drew, heap_at_new, heap_at_old] at f1 f2 f3
  have hz := hb1.size
  simp at hz
  have hW : Below w.heap.size w w1 := Below.trans (by go_grown) (hb1.mono (by simp; omega))
  clear hb1
  obtain ⟨l0, l1, l2, l3⟩ := four_cells f1
  have s1 : w.heap.size + 1 < w1.heap.size := by omega
  go_wp2_with fail
  refine (spectrum_any _ _ _ _ _ (q4_bd _ _ _ _ 274877906943 tb0 tb1 tb2 tb3 (by omega))).mono ?_
  rintro e w2 ⟨⟨cy, rfl, hy⟩, hb2⟩
  obtain ⟨u0, v0, u1, v1, u2, v2, u3, v3, rfl, ry0, ry1, ry2, ry3⟩ := hy.form
  have g2 := (hb2.block (w.heap.size + 1 + 1) (by simp; omega)).trans ((heap_at_old _ _ _ (by omega)).trans f2)
  have g3 := (hb2.block (w.heap.size + 1 + 1 + 1) (by simp; omega)).trans ((heap_at_old _ _ _ (by omega)).trans f3)
  have gx := (hb2.block w1.heap.size (by simp)).trans (heap_at_new _ _ _ rfl)
  have hz2 := hb2.size
  simp at hz2
  have hW2 : Below w.heap.size w w2 := (hW.alloc (by omega) _).trans (hb2.mono (by simp; omega))
  clear hb2 f1 f2 f3 hW
  clear l0 l1 l2 l3
  obtain ⟨l0, l1, l2, l3⟩ := four_cells g2
  have s2 : w.heap.size + 1 + 1 < w2.heap.size := by omega
  go_wp2_with fail
  refine (spectrum_any _ _ _ _ _ (q4_bd _ _ _ _ 549755813886 (by omega) (by omega) (by omega) (by omega) (by omega))).mono ?_
  rintro e w3 ⟨⟨cz, rfl, hzz⟩, hb3⟩
  obtain ⟨p0, q0, p1, q1, p2, q2, p3, q3, rfl, rz0, rz1, rz2, rz3⟩ := hzz.form
  have g3' := (hb3.block (w.heap.size + 1 + 1 + 1) (by simp; omega)).trans ((heap_at_old _ _ _ (by omega)).trans g3)
  have gx' := (hb3.block w1.heap.size (by simp; omega)).trans ((heap_at_old _ _ _ (by omega)).trans gx)
  have gy := (hb3.block w2.heap.size (by simp)).trans (heap_at_new _ _ _ rfl)
  have hz3 := hb3.size
  simp at hz3
  have hW3 : Below w.heap.size w w3 := (hW2.alloc (by omega) _).trans (hb3.mono (by simp; omega))
  clear hb3 g2 g3 gx hW2 l0 l1 l2 l3
  have qa := q4_bd _ _ _ _ 274877906943 ta0 ta1 ta2 ta3 (by omega)
  have qb := q4_bd _ _ _ _ 274877906943 tb0 tb1 tb2 tb3 (by omega)
  have hD : ∀ k, k < 4 → ∃ a b c d p q re im, (#[Value.complex .f64 x0 y0, .complex .f64 x1 y1, .complex .f64 x2 y2, .complex .f64 x3 y3] : Array Value)[k]? = some (.complex .f64 a b) ∧
      (#[Value.complex .f64 u0 v0, .complex .f64 u1 v1, .complex .f64 u2 v2, .complex .f64 u3 v3] : Array Value)[k]? = some (.complex .f64 c d) ∧
      (#[Value.complex .f64 p0 q0, .complex .f64 p1 q1, .complex .f64 p2 q2, .complex .f64 p3 q3] : Array Value)[k]? = some (.complex .f64 p q) ∧
      (∀ w, (binOp .add 23 (.complex .f64 a b) (.complex .f64 c d)).run Try.prog w = .ok (.complex .f64 re im) w) ∧
      (∀ w, (binOp .neq 23 (.complex .f64 p q) (.complex .f64 re im)).run Try.prog w = .ok (.bool false) w) := fun k hk => by
    obtain ⟨a, b, e1, r1⟩ := hx.2 k hk
    obtain ⟨c, d, e2, r2⟩ := hy.2 k hk
    obtain ⟨p, q, e3, r3⟩ := hzz.2 k hk
    obtain ⟨re, im, f1, f2⟩ := adds_fact (q4_add _ _ _ _ _ _ _ _) qa qb k r1 r2 r3
    exact ⟨a, b, c, d, p, q, re, im, e1, e2, e3, f1, f2⟩
  clear qa qb rx0 rx1 rx2 rx3 ry0 ry1 ry2 ry3 rz0 rz1 rz2 rz3 hx hy hzz
  go_wp2
  generalize hW4 : w3.alloc (.cells #[.complex .f64 p0 q0, .complex .f64 p1 q1, .complex .f64 p2 q2, .complex .f64 p3 q3] 24) = W4
  have hb4 : Below w.heap.size w W4 := by rw [← hW4]; exact hW3.alloc (by omega) _
  have gz := heap_alloc_new w3 (.cells #[.complex .f64 p0 q0, .complex .f64 p1 q1, .complex .f64 p2 q2, .complex .f64 p3 q3] 24)
  have hx4 := (heap_at_old w3 (.cells #[.complex .f64 p0 q0, .complex .f64 p1 q1, .complex .f64 p2 q2, .complex .f64 p3 q3] 24) w1.heap.size (by omega)).trans gx'
  have hy4 := (heap_at_old w3 (.cells #[.complex .f64 p0 q0, .complex .f64 p1 q1, .complex .f64 p2 q2, .complex .f64 p3 q3] 24) w2.heap.size (by omega)).trans gy
  have ht4 := (heap_at_old w3 (.cells #[.complex .f64 p0 q0, .complex .f64 p1 q1, .complex .f64 p2 q2, .complex .f64 p3 q3] 24) (w.heap.size + 1 + 1 + 1) (by omega)).trans g3'
  rw [hW4] at gz hx4 hy4 ht4
  have GZ := Lib.hid gz
  have GX := Lib.hid hx4
  have GY := Lib.hid hy4
  have GT := Lib.hid ht4
  have HD := Lib.hid hD
  clear gz hx4 hy4 ht4 hW4 gx' gy g3' hW3 hz hz2 hz3 s1 s2 hD
  have hsz : w.heap.size ≤ W4.heap.size := hb4.size
  generalize w1.heap.size = g1 at *
  generalize w2.heap.size = g2 at *
  generalize w3.heap.size = g3 at *
  go_loopw [11] (fun v wr => ∃ k : Nat, k ≤ 4 ∧ v = .int .i64 k ∧ ∃ nq, wr = W4.drewN nq) (fun v _ => 4 - (intOf v).toNat)
  case atStart => exact ⟨0, by omega, rfl, 0, rfl⟩
  case round =>
    obtain ⟨k, hk, rfl, nq, rfl⟩ := hrel
    by_cases hlt : k < 4
    · obtain ⟨a, b, c, d, p, q, re, im, e1, e2, e3, f1, f2⟩ := HD.out k hlt
      have c1 : W4.cell? ⟨g1, k, none⟩ = some (.complex .f64 a b) := by rw [Joins.cell_of_block GX.out]; exact e1
      have c2 : W4.cell? ⟨g2, k, none⟩ = some (.complex .f64 c d) := by rw [Joins.cell_of_block GY.out]; exact e2
      have c3 : W4.cell? ⟨g3, k, none⟩ = some (.complex .f64 p q) := by rw [Joins.cell_of_block GZ.out]; exact e3
      have K0 : (0 : Int) ≤ (k : Int) := by omega
      have K1 : (k : Int) < 4 := by omega
      clear e1 e2 e3
      go_wp2
      go_quiet (fail)
      go_wp2
      go_roundw
      case rel => exact ⟨k + 1, by omega, by go_num, _, rfl⟩
      case measure => simp [intOf]; omega
    · have e4 : k = 4 := by omega
      subst e4
      obtain ⟨m0, m1, m2, m3⟩ := four_cells GT.out
      go_wp2_with fail
      refine (spectrum_any _ _ _ _ _ (q4_bd _ _ _ _ 274877906943 ta0 ta1 ta0 ta1 (by omega))).mono ?_
      rintro e w5 ⟨⟨cw, rfl, hw⟩, hb5⟩
      obtain ⟨c0, d0, c1, d1, c2, d2, c3, d3, rfl, rw0, rw1, rw2, rw3⟩ := hw.form
      have e1 := fun w => eql_zero (rep_at rw1 (twice_zero (a0.tmod 274877906944) (a1.tmod 274877906944) 1 (.inl rfl))) w
      have e3 := fun w => eql_zero (rep_at rw3 (twice_zero (a0.tmod 274877906944) (a1.tmod 274877906944) 3 (.inr rfl))) w
      have hW5 : Below w.heap.size w w5 := (hb4.trans (Joins.below_draws _ W4 nq)).trans (hb5.mono hsz)
      have z5 := hW5.size
      clear hb5 hw rw0 rw1 rw2 rw3 m0 m1 m2 m3
      go_wp2_with fail
      refine (known_any _).mono ?_
      rintro e w6 ⟨rfl, hb6⟩
      have hW6 : Below w.heap.size w w6 := (hW5.alloc z5 _).trans (hb6.mono (by simp; omega))
      clear hb6 hW5 hb4
      go_wp2_with fail
      go_ret
      exact ⟨rfl, hW6⟩

end Go.Proofs.Ytfbifmgaehgcmaa
