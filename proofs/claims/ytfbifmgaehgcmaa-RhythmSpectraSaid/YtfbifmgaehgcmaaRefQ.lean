/- The reference's Beat. -/
import Derived.Test.YtfbifmgaehgcmaaRefB
import Derived.Test.YtfbifmgaehgcmaaRefW
import Derived.Test.YtfbifmgaehgcmaaBeat
namespace Go.Proofs.Ytfbifmgaehgcmaa.Own
open Go.RowKit Go.Proofs.Ytfbifmgaehgcmaa.PX Go.Proofs.YtfbifmgaehgcmaaW.PrintWords

/-- The circle of which there is most, and how much. -/
def RBeat (X : Nat → Int × Int) (e : Ending) : Prop :=
  (sq (X 1) < sq (X 2) ∧ e = .returned (.tuple #[.int .i64 2, .agg #[.int .i64 (X 2).1, .int .i64 (X 2).2]])) ∨
  (¬ sq (X 1) < sq (X 2) ∧ e = .returned (.tuple #[.int .i64 1, .agg #[.int .i64 (X 1).1, .int .i64 (X 1).2]]))

/-- Behind the spectrum: the result's cells and four parts. -/
def HeldQ (N g : Nat) (cs : Array Value) (w wr : World) : Prop :=
  wr.heap[N + 1]? = some (.cells #[.int .i64 0, .int .i64 0] 41 (0, 0)) ∧ wr.heap[g]? = some (.cells cs 42 (0, 0)) ∧ Below N w wr ∧ g < wr.heap.size ∧ N + 1 < wr.heap.size

theorem HeldQ.below {N g : Nat} {cs : Array Value} {w wr w1 : World} (h : HeldQ N g cs w wr) (hb : Below wr.heap.size wr w1) : HeldQ N g cs w w1 := by
  obtain ⟨h1, h2, h3, h4, h5⟩ := h
  have := hb.size
  exact ⟨(hb.block (N + 1) h5).trans h1, (hb.block g h4).trans h2, h3.trans (hb.mono (by omega)), by omega, by omega⟩

theorem below_part {N B : Nat} (hN : N ≤ B) {w0 w : World} (h : Below N w0 w) (a b : Value) : Below N w0 ((w.setCell ⟨B, 0, none⟩ a).setCell ⟨B, 1, none⟩ b) := by
  refine Below.setCell (Below.setCell h ?_ a) ?_ b <;> exact hN

set_option maxHeartbeats 4000000 in
theorem rbeat_any (n0 n1 n2 n3 : Int) (w : World) (hn : ∀ j, -17592186044416 ≤ q4 n0 n1 n2 n3 j ∧ q4 n0 n1 n2 n3 j ≤ 17592186044416) :
    Calls Try.prog 20 #[.agg #[.int .i64 n0, .int .i64 n1, .int .i64 n2, .int .i64 n3]] w
      fun e w' => RBeat (fun k => psum (q4 n0 n1 n2 n3) k 4) e ∧ Below w.heap.size w w' := by
  have hu41 := Try.underlying41
  have hu42 := Try.underlying42
  obtain ⟨X, hX⟩ : ∃ X : Nat → Int × Int, (fun k => psum (q4 n0 n1 n2 n3) k 4) = X := ⟨_, rfl⟩
  have hsp : ∀ w : World, Calls Try.prog 16 #[.agg #[.int .i64 n0, .int .i64 n1, .int .i64 n2, .int .i64 n3]] w
      fun e w' => e = .returned (.agg (cells8 X)) ∧ Below w.heap.size w w' := fun w => by rw [← hX]; exact rspectrum_any _ _ _ _ w hn
  have ba := psum_bound _ 1 17592186044416 hn (by omega) 4
  have bb := psum_bound _ 2 17592186044416 hn (by omega) 4
  rw [show psum (q4 n0 n1 n2 n3) 1 4 = X 1 from by rw [← hX]] at ba
  rw [show psum (q4 n0 n1 n2 n3) 2 4 = X 2 from by rw [← hX]] at bb
  rw [hX]
  clear hX hn
  have s1 := fun w => rsquare_any (X 1) (by omega) (by omega) w
  have s2 := fun w => rsquare_any (X 2) (by omega) (by omega) w
  clear ba bb
  obtain ⟨ah, hah⟩ : ∃ n, sq (X 1) / 18446744073709551616 = n := ⟨_, rfl⟩
  obtain ⟨al, hal⟩ : ∃ n, sq (X 1) % 18446744073709551616 = n := ⟨_, rfl⟩
  obtain ⟨bh, hbh⟩ : ∃ n, sq (X 2) / 18446744073709551616 = n := ⟨_, rfl⟩
  obtain ⟨bl, hbl⟩ : ∃ n, sq (X 2) % 18446744073709551616 = n := ⟨_, rfl⟩
  rw [hah, hal] at s1
  rw [hbh, hbl] at s2
  have hw : (sq (X 1) < sq (X 2)) ↔ (ah < bh ∨ bh = ah ∧ al < bl) := by omega
  have HW := Lib.hid hw
  clear hw hah hal hbh hbl
  obtain ⟨cs, hcs⟩ : ∃ cs, cells8 X = cs := ⟨_, rfl⟩
  rw [hcs] at hsp
  have hsz : (Try.prog.info? 42).map (·.size) = some cs.size := by rw [← hcs]; show _ = some 8; kernel_rfl
  have hone : cs.all (·.oneCell') = true := by rw [← hcs]; simp [cells8, Value.oneCell']
  have hold : zero8.size = cs.size := by rw [← hcs]; rfl
  have HCS := Lib.hid hcs
  clear hcs
  go_enter Try.func20, Try.ntmps20
  go_wp2_with fail
  refine (hsp _).mono ?_
  rintro e w1 ⟨rfl, hb1⟩
  have z1 := hb1.size
  have gr := (hb1.block (w.heap.size + 1) (by simp)).trans (show _ = some (Obj.cells #[Value.int .i64 0, .int .i64 0] 41 (0, 0)) from by rw [← World.size_alloc w]; exact heap_alloc_new _ _)
  have hW1 : Below w.heap.size w w1 := Below.trans (by go_grown) (hb1.mono (by simp; omega))
  simp at z1
  clear hb1
  have gx : (w1.alloc (.cells zero8 42)).heap[w1.heap.size]? = some (.cells zero8 42 (0, 0)) := heap_alloc_new _ _
  obtain ⟨g, hg⟩ : ∃ g, w1.heap.size = g := ⟨_, rfl⟩
  have hq : HeldQ w.heap.size g cs w ((w1.alloc (.cells zero8 42)).setRow g cs) := by
    subst hg
    refine ⟨?_, setRow_heap _ _ _ _ _ _ gx, below_setRow (hW1.alloc (by omega) _) (by omega) _, ?_, ?_⟩
    · rw [setRow_other _ _ _ _ (by omega), heap_alloc_old _ _ (by omega)]; exact gr
    · simp [World.setRow]
    · simp [World.setRow]; omega
  have hg2 : w.heap.size + 1 < g := by omega
  have HQ := Lib.hid hq
  clear hq gr hW1 z1
  rw [hg] at gx
  go_wp2_with (refine wpList_store_row rfl 42 _ _ rfl g cs rfl rfl 42 _ gx hsz hold hone ?_; obtain ⟨w2, hw2⟩ : ∃ w2, (w1.alloc (.cells zero8 42)).setRow g cs = w2 := ⟨_, rfl⟩; rw [hw2] at HQ; have c2 : w2.cell? ⟨g, 2, none⟩ = some (.int .i64 (X 1).1) := (by rw [Joins.cell_of_block HQ.out.2.1, ← HCS.out]; rfl); have c3 : w2.cell? ⟨g, 3, none⟩ = some (.int .i64 (X 1).2) := (by rw [Joins.cell_of_block HQ.out.2.1, ← HCS.out]; rfl); change wpList _ _ _ _ _ ((w1.alloc (.cells zero8 42)).setRow g cs); rw [hw2])
  refine (s1 _).mono ?_
  rintro e w3 ⟨rfl, hb3⟩
  replace HQ := Lib.hid (HQ.out.below hb3)
  have c4 : w3.cell? ⟨g, 4, none⟩ = some (.int .i64 (X 2).1) := by rw [Joins.cell_of_block HQ.out.2.1, ← HCS.out]; rfl
  have c5 : w3.cell? ⟨g, 5, none⟩ = some (.int .i64 (X 2).2) := by rw [Joins.cell_of_block HQ.out.2.1, ← HCS.out]; rfl
  clear hb3
  go_wp2_with fail
  refine (s2 _).mono ?_
  rintro e w4 ⟨rfl, hb4⟩
  replace HQ := Lib.hid (HQ.out.below hb4)
  clear hb4 c2 c3 c4 c5 s1 s2 hsp
  have f0 : w4.frozen? ⟨w.heap.size + 1, 0, none⟩ = false := Joins.unfrozen_of_block HQ.out.1 0
  have f1 : w4.frozen? ⟨w.heap.size + 1, 1, none⟩ = false := Joins.unfrozen_of_block HQ.out.1 1
  have r0 : w4.cell? ⟨w.heap.size + 1, 0, none⟩ = some (.int .i64 0) := by rw [Joins.cell_of_block HQ.out.1]; rfl
  have r1 : w4.cell? ⟨w.heap.size + 1, 1, none⟩ = some (.int .i64 0) := by rw [Joins.cell_of_block HQ.out.1]; rfl
  have c2 : w4.cell? ⟨g, 2, none⟩ = some (.int .i64 (X 1).1) := by rw [Joins.cell_of_block HQ.out.2.1, ← HCS.out]; rfl
  have c3 : w4.cell? ⟨g, 3, none⟩ = some (.int .i64 (X 1).2) := by rw [Joins.cell_of_block HQ.out.2.1, ← HCS.out]; rfl
  have c4 : w4.cell? ⟨g, 4, none⟩ = some (.int .i64 (X 2).1) := by rw [Joins.cell_of_block HQ.out.2.1, ← HCS.out]; rfl
  have c5 : w4.cell? ⟨g, 5, none⟩ = some (.int .i64 (X 2).2) := by rw [Joins.cell_of_block HQ.out.2.1, ← HCS.out]; rfl
  have n1 : ¬ w.heap.size + 1 = g := by omega
  have hF : ∀ p q : Int, ((w4.setCell ⟨w.heap.size + 1, 0, none⟩ (.int .i64 p)).setCell ⟨w.heap.size + 1, 1, none⟩ (.int .i64 q)).drew.heap[w.heap.size + 1]? = some (.cells #[.int .i64 p, .int .i64 q] 41 (0, 0)) := fun p q => by
    have h1 := set_block w4 (w.heap.size + 1) 0 _ _ _ (.int .i64 p) HQ.out.1
    exact set_block _ (w.heap.size + 1) 1 _ _ _ (.int .i64 q) h1
  have FX := Lib.hid hF
  clear hF
  by_cases hc : ah < bh
  · have e1 : decide (ah < bh) = true := decide_eq_true hc
    have hyes : Hid (sq (X 1) < sq (X 2)) := HW.out.2 (.inl hc)
    clear HW
    go_wp2_with fail
    go_region
    go_wp2
    refine bodyPost_ret (results_tc rfl _ _ (w.heap.size + 1) 41 _ (0, 0) _ rfl (FX.out (X 2).1 (X 2).2) Try.underlying41 rfl (by kernel_rfl)) rfl ⟨.inl ⟨hyes, rfl⟩, below_part (by omega) HQ.out.2.2.1 _ _ |>.drew⟩
  · by_cases he : bh = ah
    · subst he
      by_cases hl : al < bl
      · have e1 : decide (al < bl) = true := decide_eq_true hl
        have hyes : Hid (sq (X 1) < sq (X 2)) := HW.out.2 (.inr ⟨rfl, hl⟩)
        clear HW
        go_wp2_with fail
        go_region
        go_wp2
        refine bodyPost_ret (results_tc rfl _ _ (w.heap.size + 1) 41 _ (0, 0) _ rfl (FX.out (X 2).1 (X 2).2) Try.underlying41 rfl (by kernel_rfl)) rfl ⟨.inl ⟨hyes, rfl⟩, below_part (by omega) HQ.out.2.2.1 _ _ |>.drew⟩
      · have e1 : decide (al < bl) = false := decide_eq_false hl
        have hno : Hid (¬ sq (X 1) < sq (X 2)) := fun h => by have := HW.out.1 h; omega
        clear HW
        go_wp2_with fail
        go_region
        go_wp2
        refine bodyPost_ret (results_tc rfl _ _ (w.heap.size + 1) 41 _ (0, 0) _ rfl (FX.out (X 1).1 (X 1).2) Try.underlying41 rfl (by kernel_rfl)) rfl ⟨.inr ⟨hno, rfl⟩, below_part (by omega) HQ.out.2.2.1 _ _ |>.drew⟩
    · have e1 : decide (ah < bh) = false := decide_eq_false hc
      have e2 : ((bh : Int) == (ah : Int)) = false := beq_eq_false_iff_ne.2 (by omega)
      have e3 : (bh == ah) = false := beq_eq_false_iff_ne.2 he
      have hno : Hid (¬ sq (X 1) < sq (X 2)) := fun h => by have := HW.out.1 h; omega
      clear HW
      go_wp2_with fail
      go_region
      go_wp2
      refine bodyPost_ret (results_tc rfl _ _ (w.heap.size + 1) 41 _ (0, 0) _ rfl (FX.out (X 1).1 (X 1).2) Try.underlying41 rfl (by kernel_rfl)) rfl ⟨.inr ⟨hno, rfl⟩, below_part (by omega) HQ.out.2.2.1 _ _ |>.drew⟩

end Go.Proofs.Ytfbifmgaehgcmaa.Own
