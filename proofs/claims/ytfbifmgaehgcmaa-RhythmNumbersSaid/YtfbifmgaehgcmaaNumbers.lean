/- RhythmNumbers: the walk. -/
import Derived.Test.YtfbifmgaehgcmaaBack
import Derived.Test.YtfbifmgaehgcmaaBeat
import Derived.Test.YtfbifmgaehgcmaaKnown
namespace Go.Proofs.Ytfbifmgaehgcmaa
open Go.RowKit Fl

theorem rep_1 : Rep 0 4607182418800017408 1 := rep_const (by decide) (by decide : _ = Ieee.Datum.number false 4503599627370496 (-52)) 1 (by decide) (by decide) (by decide)
theorem rep_4 : Rep 0 4616189618054758400 4 := rep_const (by decide) (by decide : _ = Ieee.Datum.number false 4503599627370496 (-50)) 4 (by decide) (by decide) (by decide)

/-- One part and three noughts. -/
def one4 (p : Int × Int) (k : Nat) : Int × Int := if k = 0 then p else (0, 0)

theorem row_one {a b : Nat} {x y : Int} (ha : Rep 0 a x) (hb : Rep 0 b y) : Row4 (one4 (x, y)) #[.complex .f64 a b, .complex .f64 0 0, .complex .f64 0 0, .complex .f64 0 0] := by
  refine ⟨rfl, fun i hi => ?_⟩
  rcases (by omega : i = 0 ∨ i = 1 ∨ i = 2 ∨ i = 3) with rfl | rfl | rfl | rfl
  · exact ⟨_, _, rfl, ha, hb⟩
  · exact ⟨_, _, rfl, rep_zero, rep_zero⟩
  · exact ⟨_, _, rfl, rep_zero, rep_zero⟩
  · exact ⟨_, _, rfl, rep_zero, rep_zero⟩

theorem one_bd (x y : Int) (hx : -4 ≤ x ∧ x ≤ 4) (hy : -4 ≤ y ∧ y ≤ 4) : ∀ k, k < 4 → (-70368744177664 ≤ (one4 (x, y) k).1 ∧ (one4 (x, y) k).1 ≤ 70368744177664) ∧ (-70368744177664 ≤ (one4 (x, y) k).2 ∧ (one4 (x, y) k).2 ≤ 70368744177664) := by
  intro k _
  unfold one4
  split
  · simp only; omega
  · simp only; omega

theorem bad_one (e : Ending) (h : BackIs (one4 (1, 0)) e) : e = .returned (.tuple #[.agg #[.int .i64 0, .int .i64 0, .int .i64 0, .int .i64 0], .bool false]) := by
  rcases h with ⟨hg, _⟩ | ⟨_, he⟩
  · exact absurd (hg 0 (by omega)) (by unfold Good; decide)
  · exact he

theorem bad_four (e : Ending) (h : BackIs (one4 (0, 4)) e) : e = .returned (.tuple #[.agg #[.int .i64 0, .int .i64 0, .int .i64 0, .int .i64 0], .bool false]) := by
  rcases h with ⟨hg, _⟩ | ⟨_, he⟩
  · exact absurd (hg 0 (by omega)) (by unfold Good; decide)
  · exact he

theorem good_four (e : Ending) (h : BackIs (one4 (4, 0)) e) : e = .returned (.tuple #[.agg #[.int .i64 1, .int .i64 1, .int .i64 1, .int .i64 1], .bool true]) := by
  rcases h with ⟨_, cs, rfl, hr⟩ | ⟨⟨j, hj, hn⟩, _⟩
  · rw [hr.form]; rfl
  · refine absurd ?_ hn
    rcases (by omega : j = 0 ∨ j = 1 ∨ j = 2 ∨ j = 3) with rfl | rfl | rfl | rfl <;> (unfold Good; decide)

theorem beat_two (e : Ending) (h : BeatIs (fun k => psum (q4 1 0 1 0) k 4) e) : ∃ p q, e = .returned (.tuple #[.int .i64 2, .complex .f64 p q]) ∧ Rep 0 p 2 ∧ Rep 0 q 0 := by
  rcases h with ⟨_, p, q, he, hp, hq⟩ | ⟨hlt, _⟩
  · exact ⟨p, q, he, hp, hq⟩
  · exact absurd (by decide) hlt

theorem beat_none (e : Ending) (h : BeatIs (fun k => psum (q4 0 0 0 0) k 4) e) : ∃ p q, e = .returned (.tuple #[.int .i64 1, .complex .f64 p q]) ∧ Rep 0 p 0 ∧ Rep 0 q 0 := by
  rcases h with ⟨hlt, _⟩ | ⟨_, p, q, he, hp, hq⟩
  · exact absurd hlt (by decide)
  · exact ⟨p, q, he, hp, hq⟩

theorem eql_known {a b c d : Nat} {x y : Int} (h : Rep 0 a x ∧ Rep 0 b y) (hc : Rep 0 c x) (hd : Rep 0 d y) (w : World) : (binOp .eql 23 (.complex .f64 a b) (.complex .f64 c d)).run Try.prog w = .ok (.bool true) w := by
  rw [run_eql_complex, rep_eq h.1 hc, rep_eq h.2 hd]
  simp

theorem fold_none : RowI (q4 0 0 0 0) #[.int .i64 (cnt [] 0), .int .i64 (cnt [] 1), .int .i64 (cnt [] 2), .int .i64 (cnt [] 3)] := rowI_of 0 0 0 0

theorem q4_1010 : ∀ j, -17592186044416 ≤ q4 1 0 1 0 j ∧ q4 1 0 1 0 j ≤ 17592186044416 := by
  intro j; unfold q4; split <;> (try split) <;> (try split) <;> omega

theorem q4_0000 : ∀ j, -17592186044416 ≤ q4 0 0 0 0 j ∧ q4 0 0 0 0 j ≤ 17592186044416 := by
  intro j; unfold q4; split <;> (try split) <;> (try split) <;> omega

set_option maxRecDepth 100000 in
set_option maxHeartbeats 1000000 in
theorem numbers_any (w : World) : Calls Try.prog 6 #[] w fun e w' => e = .returned (.bool true) ∧ Below w.heap.size w w' := by
  go_enter Try.func6, Try.ntmps6
  go_wp2_with fail
  refine (back_any (row_one rep_1 rep_zero) (one_bd 1 0 (by omega) (by omega)) _).mono ?_
  rintro e w1 ⟨he, hb1⟩
  obtain rfl := bad_one _ he
  clear he
  go_wp2_with fail
  refine (back_any (row_one rep_zero rep_4) (one_bd 0 4 (by omega) (by omega)) _).mono ?_
  rintro e w2 ⟨he, hb2⟩
  obtain rfl := bad_four _ he
  clear he
  go_wp2_with fail
  refine (back_any (row_one rep_4 rep_zero) (one_bd 4 0 (by omega) (by omega)) _).mono ?_
  rintro e w3 ⟨he, hb3⟩
  obtain rfl := good_four _ he
  clear he
  have hW2 : Below w.heap.size w w2 := (by first | exact hb1.trans (hb2.mono hb1.size) | exact (hb1.alloc hb1.size _).trans (hb2.mono (by have := hb1.size; simp; omega)))
  have hW3 : Below w.heap.size w w3 := (by first | exact hW2.trans (hb3.mono hW2.size) | exact (hW2.alloc hW2.size _).trans (hb3.mono (by have := hW2.size; simp; omega)))
  clear hb1 hb2 hb3 hW2
  go_wp2_with fail
  refine (beat_any 1 0 1 0 _ q4_1010).mono ?_
  rintro e w4 ⟨he, hb4⟩
  obtain ⟨p, q, rfl, hpq⟩ := beat_two _ he
  clear he
  have e1 := fun w => eql_known hpq rep_2 rep_zero w
  clear hpq
  go_wp2_with fail
  refine (beat_any 0 0 0 0 _ q4_0000).mono ?_
  rintro e w5 ⟨he, hb5⟩
  obtain ⟨p', q', rfl, hpq⟩ := beat_none _ he
  clear he
  have e2 := fun w => eql_known hpq rep_zero rep_zero w
  clear hpq
  have hW4 : Below w.heap.size w w4 := (by first | exact hW3.trans (hb4.mono hW3.size) | exact (hW3.alloc hW3.size _).trans (hb4.mono (by have := hW3.size; simp; omega)))
  have hW5 : Below w.heap.size w w5 := (by first | exact hW4.trans (hb5.mono hW4.size) | exact (hW4.alloc hW4.size _).trans (hb5.mono (by have := hW4.size; simp; omega)))
  have z4 := hb4.size
  rw [World.size_alloc] at z4
  have gl := (hb5.block w3.heap.size (by omega)).trans ((hb4.block w3.heap.size (by simp)).trans (heap_alloc_new w3 _))
  obtain ⟨⟨cl0, cl1, cl2, cl3⟩, -⟩ := cells4_of gl
  clear gl z4
  have heq := fun w => run_eql22 (rowI_of 1 1 1 1) (rowI_of 1 1 1 1) w
  rw [alike4_true (fun i _ => rfl)] at heq
  clear hb4 hb5 hW3 hW4
  go_wp2_with fail
  refine (fold_any none 0 0 [] _ ⟨rfl, .inl rfl⟩ (by decide)).mono ?_
  rintro e w6 ⟨rfl, hb6⟩
  have heq2 := fun w => run_eql22 fold_none (rowI_of 0 0 0 0) w
  rw [alike4_true (fun i _ => rfl)] at heq2
  go_wp2_with fail
  refine (known_any _).mono ?_
  rintro e w7 ⟨rfl, hb7⟩
  go_wp2_with fail
  go_ret
  have hW6 : Below w.heap.size w w6 := (by first | exact hW5.trans (hb6.mono hW5.size) | exact (hW5.alloc hW5.size _).trans (hb6.mono (by have := hW5.size; simp; omega)))
  exact ⟨rfl, (by first | exact hW6.trans (hb7.mono hW6.size) | exact (hW6.alloc hW6.size _).trans (hb7.mono (by have := hW6.size; simp; omega)))⟩

end Go.Proofs.Ytfbifmgaehgcmaa
