/- Walks: ostiarylaw24.known answers true. -/
import Derived.Test.YtfbifmgaehgcmaaEq
namespace Go.Proofs.Ytfbifmgaehgcmaa
open Go.RowKit Fl

theorem q4_small : ∀ j, -17592186044416 ≤ q4 1 2 3 4 j ∧ q4 1 2 3 4 j ≤ 17592186044416 := by
  intro j; unfold q4; split <;> (try split) <;> (try split) <;> omega

theorem intsAt_new (w : World) (n0 n1 n2 : Int) (t : TypeId) : IntsAt (w.alloc (.cells #[.int .i64 n0, .int .i64 n1, .int .i64 n2] t)) (some ⟨w.heap.size, 0, none⟩) 3 [n0, n1, n2] := by
  refine ⟨rfl, .inr ⟨_, 0, rfl, by simp, fun i hi => ?_⟩⟩
  rw [Nat.zero_add, World.cell?_alloc_new]
  rcases (by omega : i = 0 ∨ i = 1 ∨ i = 2) with rfl | rfl | rfl <;> rfl

theorem known_fold : RowI (q4 1 1 0 1) #[.int .i64 (cnt [-1, 0, 5] 0), .int .i64 (cnt [-1, 0, 5] 1), .int .i64 (cnt [-1, 0, 5] 2), .int .i64 (cnt [-1, 0, 5] 3)] := rowI_of 1 1 0 1

set_option maxHeartbeats 400000 in
theorem known_any (w : World) : Calls Try.prog 9 #[] w fun e w' => e = .returned (.bool true) ∧ Below w.heap.size w w' := by
  go_enter Try.func9, Try.ntmps9
  go_wp2_with fail
  refine (spectrum_any 1 2 3 4 _ q4_small).mono ?_
  rintro e w1 ⟨⟨cs, rfl, hrow⟩, hb1⟩
  have heq := fun w => run_eql24 hrow known_row w
  rw [alike4_true (fun i _ => rfl)] at heq
  clear hrow
  go_wp2_with fail
  refine (fold_any _ 3 3 [-1, 0, 5] _ (intsAt_new w1 _ _ _ _) (by decide)).mono ?_
  rintro e w2 ⟨rfl, hb2⟩
  have heq2 := fun w => run_eql22 known_fold (rowI_of 1 1 0 1) w
  rw [alike4_true (fun i _ => rfl)] at heq2
  go_wp2_with fail
  go_ret
  exact ⟨rfl, (hb1.alloc hb1.size _).trans (hb2.mono (by have := hb1.size; simp; omega))⟩

end Go.Proofs.Ytfbifmgaehgcmaa
