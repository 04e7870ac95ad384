/- Walks: mosts, Within, rhythm.Turn by their contracts. -/
import Derived.Test.YtfbifmgaehgcmaaKnown
import Derived.LoopN
import Derived.Handy
namespace Go.Proofs.Ytfbifmgaehgcmaa
open Go.RowKit Fl

theorem mosts_any (n0 n1 n2 n3 : Int) (w : World) :
    Calls Try.prog 12 #[.agg #[.int .i64 n0, .int .i64 n1, .int .i64 n2, .int .i64 n3]] w
      fun e w' => e = .returned (.agg #[.int .i64 (n0.tmod 1099511627776), .int .i64 (n1.tmod 1099511627776), .int .i64 (n2.tmod 1099511627776), .int .i64 (n3.tmod 1099511627776)]) ∧ Below w.heap.size w w' := by
  go_enter Try.func12, Try.ntmps12
  go_wp2
  go_rounds 5
  go_returns
  exact ⟨rfl, by go_grown⟩

theorem within_any (n : Int) (w : World) : Calls Try.prog 14 #[.int .i64 n, .int .i64 0, .int .i64 50] w fun e w' => e = .returned (.int .i64 (n % 51)) ∧ w = w' := by
  have h2 := Int.tmod_lt_of_pos n (show (0:Int) < 51 by decide)
  have h3 := Int.lt_tmod_of_pos n (show (0:Int) < 51 by decide)
  have h1 := Int.mul_tdiv_add_tmod n 51
  by_cases h : n.tmod 51 < 0
  · have e : n % 51 = n.tmod 51 + 50 + 1 := by omega
    rw [e]
    go_enter Try.func14, Try.ntmps14
    go_wp2
    go_ret
    exact ⟨rfl, rfl⟩
  · have e : n % 51 = n.tmod 51 := by omega
    rw [e]
    go_enter Try.func14, Try.ntmps14
    go_wp2
    go_ret
    exact ⟨rfl, rfl⟩

theorem idx24 (a0 b0 a1 b1 a2 b2 a3 b3 : Nat) :
    (∀ w, (Instr.index 24 (.agg #[.complex .f64 a0 b0, .complex .f64 a1 b1, .complex .f64 a2 b2, .complex .f64 a3 b3]) (.int .i64 0)).run Try.prog w = .ok (.complex .f64 a0 b0) w) ∧
    (∀ w, (Instr.index 24 (.agg #[.complex .f64 a0 b0, .complex .f64 a1 b1, .complex .f64 a2 b2, .complex .f64 a3 b3]) (.int .i64 1)).run Try.prog w = .ok (.complex .f64 a1 b1) w) ∧
    (∀ w, (Instr.index 24 (.agg #[.complex .f64 a0 b0, .complex .f64 a1 b1, .complex .f64 a2 b2, .complex .f64 a3 b3]) (.int .i64 2)).run Try.prog w = .ok (.complex .f64 a2 b2) w) ∧
    (∀ w, (Instr.index 24 (.agg #[.complex .f64 a0 b0, .complex .f64 a1 b1, .complex .f64 a2 b2, .complex .f64 a3 b3]) (.int .i64 3)).run Try.prog w = .ok (.complex .f64 a3 b3) w) :=
  ⟨fun _ => by kernel_rfl, fun _ => by kernel_rfl, fun _ => by kernel_rfl, fun _ => by kernel_rfl⟩

set_option maxHeartbeats 1000000 in
theorem turn_any {X : Nat → Int × Int} {cs : Array Value} (h : Row4 X cs) (by' : Int) (w : World) :
    Calls Try.prog 15 #[.agg cs, .int .i64 by'] w
      fun e w' => (∃ ds, e = .returned (.agg ds) ∧ Row4 (fun k => turnI (X k).1 (X k).2 (((k : Int) * (by' % 4)) % 4)) ds) ∧ Below w.heap.size w w' := by
  obtain ⟨a0, b0, a1, b1, a2, b2, a3, b3, rfl, r0, r1, r2, r3⟩ := h.form
  have hand := and3 by'
  have m0 : 0 ≤ by' % 4 := by omega
  have m4 : by' % 4 ≤ 3 := by omega
  generalize by' % 4 = m at *
  obtain ⟨x0, x1, x2, x3⟩ := idx24 a0 b0 a1 b1 a2 b2 a3 b3
  go_enter Try.func15, Try.ntmps15
  go_wp2
  refine wp_loop_rounds 5 ?_
  rw [rounds_succ]
  go_wp2_with (go_at_call 24; refine (turned_any _ _ _ _).mono ?_; rintro e w' ⟨rfl, rfl⟩)
  rw [rounds_succ]
  go_wp2_with (go_at_call 24; refine (turned_any _ _ _ _).mono ?_; rintro e w' ⟨rfl, rfl⟩)
  rw [rounds_succ]
  go_wp2_with (go_at_call 24; refine (turned_any _ _ _ _).mono ?_; rintro e w' ⟨rfl, rfl⟩)
  rw [rounds_succ]
  go_wp2_with (go_at_call 24; refine (turned_any _ _ _ _).mono ?_; rintro e w' ⟨rfl, rfl⟩)
  rw [rounds_succ]
  go_wp2
  go_returns
  refine ⟨⟨_, rfl, rfl, fun i hi => ?_⟩, by go_grown⟩
  rcases (by omega : i = 0 ∨ i = 1 ∨ i = 2 ∨ i = 3) with rfl | rfl | rfl | rfl
  · refine ⟨_, _, rfl, ?_⟩
    show Rep 0 _ (turnI (X 0).1 (X 0).2 (((0 : Nat) : Int) * m % 4)).1 ∧ Rep 0 _ (turnI (X 0).1 (X 0).2 (((0 : Nat) : Int) * m % 4)).2
    rw [show ((0 : Nat) : Int) * m % 4 = 0 from by simp]
    exact turn_rep r0.1 r0.2 _
  · refine ⟨_, _, rfl, ?_⟩
    show Rep 0 _ (turnI (X 1).1 (X 1).2 (((1 : Nat) : Int) * m % 4)).1 ∧ Rep 0 _ (turnI (X 1).1 (X 1).2 (((1 : Nat) : Int) * m % 4)).2
    rw [show ((1 : Nat) : Int) * m % 4 = m % 4 from by simp]
    exact turn_rep r1.1 r1.2 _
  · exact ⟨_, _, rfl, turn_rep r2.1 r2.2 _⟩
  · exact ⟨_, _, rfl, turn_rep r3.1 r3.2 _⟩

end Go.Proofs.Ytfbifmgaehgcmaa
