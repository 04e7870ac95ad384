/- Walks: rhythm.Beat by its contract. -/
import Derived.Test.YtfbifmgaehgcmaaSquare
import Derived.LoopN
import Derived.Handy
namespace Go.Proofs.Ytfbifmgaehgcmaa
open Go.RowKit Fl

/-- The circle of which there is most, and how much. -/
def BeatIs (X : Nat → Int × Int) (e : Ending) : Prop :=
  (sq (X 1) < sq (X 2) ∧ ∃ p q, e = .returned (.tuple #[.int .i64 2, .complex .f64 p q]) ∧ Rep 0 p (X 2).1 ∧ Rep 0 q (X 2).2) ∨
  (¬ sq (X 1) < sq (X 2) ∧ ∃ p q, e = .returned (.tuple #[.int .i64 1, .complex .f64 p q]) ∧ Rep 0 p (X 1).1 ∧ Rep 0 q (X 1).2)

theorem four_cells {w : World} {g : Nat} {a b c d : Value} {t : TypeId} {fr : Nat × Nat} (h : w.heap[g]? = some (.cells #[a, b, c, d] t fr)) :
    w.cell? ⟨g, 0, none⟩ = some a ∧ w.cell? ⟨g, 1, none⟩ = some b ∧ w.cell? ⟨g, 2, none⟩ = some c ∧ w.cell? ⟨g, 3, none⟩ = some d :=
  ⟨Joins.cell_of_block h 0, Joins.cell_of_block h 1, Joins.cell_of_block h 2, Joins.cell_of_block h 3⟩

set_option maxHeartbeats 1000000 in
theorem beat_any (n0 n1 n2 n3 : Int) (w : World) (hn : ∀ j, -17592186044416 ≤ q4 n0 n1 n2 n3 j ∧ q4 n0 n1 n2 n3 j ≤ 17592186044416) :
    Calls Try.prog 11 #[.agg #[.int .i64 n0, .int .i64 n1, .int .i64 n2, .int .i64 n3]] w
      fun e w' => BeatIs (fun k => psum (q4 n0 n1 n2 n3) k 4) e ∧ Below w.heap.size w w' := by
  obtain ⟨X, hX⟩ : ∃ X : Nat → Int × Int, (fun k => psum (q4 n0 n1 n2 n3) k 4) = X := ⟨_, rfl⟩
  have hsp : ∀ w : World, Calls Try.prog 8 #[.agg #[.int .i64 n0, .int .i64 n1, .int .i64 n2, .int .i64 n3]] w
      fun e w' => (∃ cs, e = .returned (.agg cs) ∧ Row4 X cs) ∧ Below w.heap.size w w' := fun w => by rw [← hX]; exact spectrum_any _ _ _ _ w hn
  have ba := psum_bound _ 1 17592186044416 hn (by omega) 4
  have bb := psum_bound _ 2 17592186044416 hn (by omega) 4
  rw [show psum (q4 n0 n1 n2 n3) 1 4 = X 1 from by rw [← hX]] at ba
  rw [show psum (q4 n0 n1 n2 n3) 2 4 = X 2 from by rw [← hX]] at bb
  rw [hX]
  clear hX hn
  have s1 := fun re im h1 h2 w => square_any re im (X 1) h1 h2 (by omega) (by omega) w
  have s2 := fun re im h1 h2 w => square_any re im (X 2) h1 h2 (by omega) (by omega) w
  clear ba bb
  obtain ⟨ah, hah⟩ : ∃ n, sq (X 1) / 18446744073709551616 = n := ⟨_, rfl⟩
  obtain ⟨al, hal⟩ : ∃ n, sq (X 1) % 18446744073709551616 = n := ⟨_, rfl⟩
  obtain ⟨bh, hbh⟩ : ∃ n, sq (X 2) / 18446744073709551616 = n := ⟨_, rfl⟩
  obtain ⟨bl, hbl⟩ : ∃ n, sq (X 2) % 18446744073709551616 = n := ⟨_, rfl⟩
  rw [hah, hal] at s1
  rw [hbh, hbl] at s2
  have hw : (sq (X 1) < sq (X 2)) ↔ (ah < bh ∨ bh = ah ∧ al < bl) := by omega
  have HW := Lib.hid hw
  clear hw hah hal hbh hbl
  by_cases hc : ah < bh
  · have f1 : decide (ah < bh) = true := decide_eq_true hc
    have hyes : Hid (sq (X 1) < sq (X 2)) := HW.out.2 (.inl hc)
    clear HW
    go_enter Try.func11, Try.ntmps11
    go_wp2_with fail
    refine (hsp _).mono ?_
    rintro e w1 ⟨⟨cx, rfl, hx⟩, hb1⟩
    obtain ⟨x0, y0, x1, y1, x2, y2, x3, y3, rfl, -, r1, r2, -⟩ := hx.form
    have hW : Below w.heap.size w w1 := Below.trans (by go_grown) (hb1.mono (by simp))
    have z1 := hW.size
    clear hb1 hx
    go_wp2_with fail
    refine (s1 _ _ r1.1 r1.2 _).mono ?_
    rintro e w' ⟨rfl, rfl⟩
    go_wp2_with fail
    refine (s2 _ _ r2.1 r2.2 _).mono ?_
    rintro e w' ⟨rfl, rfl⟩
    go_wp2_with fail
    go_region
    go_wp2
    go_ret2
    exact ⟨.inl ⟨hyes, _, _, rfl, r2⟩, ((hW.alloc z1 _).drew)⟩
  · by_cases he : bh = ah
    · subst he
      by_cases hl : al < bl
      · have f1 : decide (al < bl) = true := decide_eq_true hl
        have hyes : Hid (sq (X 1) < sq (X 2)) := HW.out.2 (.inr ⟨rfl, hl⟩)
        clear HW
        go_enter Try.func11, Try.ntmps11
        go_wp2_with fail
        refine (hsp _).mono ?_
        rintro e w1 ⟨⟨cx, rfl, hx⟩, hb1⟩
        obtain ⟨x0, y0, x1, y1, x2, y2, x3, y3, rfl, -, r1, r2, -⟩ := hx.form
        have hW : Below w.heap.size w w1 := Below.trans (by go_grown) (hb1.mono (by simp))
        have z1 := hW.size
        clear hb1 hx
        go_wp2_with fail
        refine (s1 _ _ r1.1 r1.2 _).mono ?_
        rintro e w' ⟨rfl, rfl⟩
        go_wp2_with fail
        refine (s2 _ _ r2.1 r2.2 _).mono ?_
        rintro e w' ⟨rfl, rfl⟩
        go_wp2_with fail
        go_region
        go_wp2
        go_ret2
        exact ⟨.inl ⟨hyes, _, _, rfl, r2⟩, ((hW.alloc z1 _).drew)⟩
      · have f1 : decide (al < bl) = false := decide_eq_false hl
        have hno : Hid (¬ sq (X 1) < sq (X 2)) := fun h => by have := HW.out.1 h; omega
        clear HW
        go_enter Try.func11, Try.ntmps11
        go_wp2_with fail
        refine (hsp _).mono ?_
        rintro e w1 ⟨⟨cx, rfl, hx⟩, hb1⟩
        obtain ⟨x0, y0, x1, y1, x2, y2, x3, y3, rfl, -, r1, r2, -⟩ := hx.form
        have hW : Below w.heap.size w w1 := Below.trans (by go_grown) (hb1.mono (by simp))
        have z1 := hW.size
        clear hb1 hx
        go_wp2_with fail
        refine (s1 _ _ r1.1 r1.2 _).mono ?_
        rintro e w' ⟨rfl, rfl⟩
        go_wp2_with fail
        refine (s2 _ _ r2.1 r2.2 _).mono ?_
        rintro e w' ⟨rfl, rfl⟩
        go_wp2_with fail
        go_region
        go_wp2
        go_ret2
        exact ⟨.inr ⟨hno, _, _, rfl, r1⟩, ((hW.alloc z1 _).drew)⟩
    · have f1 : decide (ah < bh) = false := decide_eq_false hc
      have f2 : ((bh : Int) == (ah : Int)) = false := beq_eq_false_iff_ne.2 (by omega)
      have f3 : (bh == ah) = false := beq_eq_false_iff_ne.2 he
      have hno : Hid (¬ sq (X 1) < sq (X 2)) := fun h => by have := HW.out.1 h; omega
      clear HW
      go_enter Try.func11, Try.ntmps11
      go_wp2_with fail
      refine (hsp _).mono ?_
      rintro e w1 ⟨⟨cx, rfl, hx⟩, hb1⟩
      obtain ⟨x0, y0, x1, y1, x2, y2, x3, y3, rfl, -, r1, r2, -⟩ := hx.form
      have hW : Below w.heap.size w w1 := Below.trans (by go_grown) (hb1.mono (by simp))
      have z1 := hW.size
      clear hb1 hx
      go_wp2_with fail
      refine (s1 _ _ r1.1 r1.2 _).mono ?_
      rintro e w' ⟨rfl, rfl⟩
      go_wp2_with fail
      refine (s2 _ _ r2.1 r2.2 _).mono ?_
      rintro e w' ⟨rfl, rfl⟩
      go_wp2_with fail
      go_region
      go_wp2
      go_ret2
      exact ⟨.inr ⟨hno, _, _, rfl, r1⟩, ((hW.alloc z1 _).drew)⟩

end Go.Proofs.Ytfbifmgaehgcmaa
