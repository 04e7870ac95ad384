/- RhythmSpectra: the walk. -/
import Derived.Test.YtfbifmgaehgcmaaRefE
import Derived.Test.YtfbifmgaehgcmaaRefQ
import Derived.Test.YtfbifmgaehgcmaaRefF
import Derived.Test.YtfbifmgaehgcmaaRefT
import Derived.Test.YtfbifmgaehgcmaaApp
import Derived.Deep.RegionWith
import Derived.Deep.RegionHeld3
import Derived.Deep.DeepCutAuto
import Derived.Deep.CutBlock
namespace Go.Proofs.Ytfbifmgaehgcmaa.Own
open Go.RowKit Fl Go.Proofs.Ytfbifmgaehgcmaa.PX Go.Proofs.YtfbifmgaehgcmaaW.PrintWords

theorem most_any (n : Int) (w : World) : Calls Try.prog 17 #[.int .i64 n] w fun e w' => e = .returned (.int .i64 (n.tmod 1099511627776)) ∧ w = w' := by
  go_enter Try.func17, Try.ntmps17
  go_wp2
  go_ret
  exact ⟨rfl, rfl⟩

theorem tmod40' (z : Int) : -1099511627775 ≤ z.tmod 1099511627776 ∧ z.tmod 1099511627776 ≤ 1099511627775 := by
  have h2 := Int.tmod_lt_of_pos z (show (0:Int) < 1099511627776 by decide)
  have h3 := Int.lt_tmod_of_pos z (show (0:Int) < 1099511627776 by decide)
  omega

theorem q4_in' (n0 n1 n2 n3 B : Int) (h0 : -B ≤ n0 ∧ n0 ≤ B) (h1 : -B ≤ n1 ∧ n1 ≤ B) (h2 : -B ≤ n2 ∧ n2 ≤ B) (h3 : -B ≤ n3 ∧ n3 ≤ B) (hB : B ≤ 17592186044416) :
    ∀ j, -17592186044416 ≤ q4 n0 n1 n2 n3 j ∧ q4 n0 n1 n2 n3 j ≤ 17592186044416 := by
  intro j; unfold q4; split
  · omega
  · split
    · omega
    · split <;> omega

theorem three_boxes (w : World) (A B C : Obj) : (((w.alloc A).alloc B).alloc C).heap[w.heap.size]? = some A ∧ (((w.alloc A).alloc B).alloc C).heap[w.heap.size + 1]? = some B ∧ (((w.alloc A).alloc B).alloc C).heap[w.heap.size + 1 + 1]? = some C := by
  refine ⟨?_, ?_, ?_⟩
  · rw [heap_alloc_old _ _ (by simp; omega), heap_alloc_old _ _ (by simp)]; exact heap_alloc_new w _
  · rw [heap_alloc_old _ _ (by simp)]
    have := heap_alloc_new (w.alloc A) B
    rwa [World.size_alloc] at this
  · have := heap_alloc_new ((w.alloc A).alloc B) C
    rwa [World.size_alloc, World.size_alloc] at this

/-- The three boxed rows. -/
def Bls (N : Nat) (L R I : Array Value) (w wr : World) : Prop :=
  wr.heap[N]? = some (.cells L 22 (0, 0)) ∧ wr.heap[N + 1]? = some (.cells R 22 (0, 0)) ∧ wr.heap[N + 1 + 1]? = some (.cells I 22 (0, 0)) ∧ Below N w wr ∧ N + 1 + 1 < wr.heap.size

theorem Bls.below {N M : Nat} {L R I : Array Value} {w wr w1 : World} (h : Bls N L R I w wr) (hb : Below M wr w1) (hM : N + 1 + 1 < M) : Bls N L R I w w1 := by
  obtain ⟨h1, h2, h3, h4, h5⟩ := h
  have := hb.size
  exact ⟨(hb.block _ (by omega)).trans h1, (hb.block _ (by omega)).trans h2, (hb.block _ (by omega)).trans h3, h4.trans (hb.mono (by omega)), by omega⟩

theorem Bls.under {N : Nat} {L R I : Array Value} {w wr w1 : World} (h : Bls N L R I w wr) (hb : Below wr.heap.size wr w1) : Bls N L R I w w1 := h.below hb h.2.2.2.2

def upTo (Y : Nat → Int × Int) (k : Nat) (i : Nat) : Int × Int := if i < k then Y i else (0, 0)

/-- How far x and y have come. -/
def HeldX (B : Nat) (Y : Nat → Int × Int) (k l : Nat) (w0 wr : World) : Prop :=
  (∃ cs, wr.heap[B]? = some (.cells cs 24 (0, 0)) ∧ Row4 (upTo Y k) cs) ∧ wr.heap[B + 1]? = some (.cells (cells8 (upTo Y l)) 42 (0, 0)) ∧ Below B w0 wr ∧ B + 1 < wr.heap.size

theorem HeldX.below {B M : Nat} {Y : Nat → Int × Int} {k l : Nat} {w0 wr w1 : World} (h : HeldX B Y k l w0 wr) (hb : Below M wr w1) (hM : B + 1 < M) : HeldX B Y k l w0 w1 := by
  obtain ⟨⟨cs, h1, h1'⟩, h2, h3, h4⟩ := h
  have := hb.size
  exact ⟨⟨cs, (hb.block _ (by omega)).trans h1, h1'⟩, (hb.block _ (by omega)).trans h2, h3.trans (hb.mono (by omega)), by omega⟩

theorem HeldX.under {B : Nat} {Y : Nat → Int × Int} {k l : Nat} {w0 wr w1 : World} (h : HeldX B Y k l w0 wr) (hb : Below wr.heap.size wr w1) : HeldX B Y k l w0 w1 := h.below hb h.2.2.2

theorem upTo_succ (Y : Nat → Int × Int) (k i : Nat) : (if i = k then Y k else upTo Y k i) = upTo Y (k + 1) i := by
  unfold upTo
  by_cases e : i = k
  · subst e; rw [if_pos rfl, if_pos (by omega)]
  · rw [if_neg e]
    by_cases e2 : i < k
    · rw [if_pos e2, if_pos (by omega)]
    · rw [if_neg e2, if_neg (by omega)]

theorem HeldX.storeY {B : Nat} {Y : Nat → Int × Int} {k : Nat} {w0 wr : World} (h : HeldX B Y k k w0 wr) (hk : k < 4) :
    HeldX B Y k (k + 1) w0 ((wr.setCell ⟨B + 1, k * 2, none⟩ (.int .i64 (Y k).1)).setCell ⟨B + 1, k * 2 + 1, none⟩ (.int .i64 (Y k).2)) := by
  obtain ⟨⟨cs, h1, h1'⟩, h2, h3, h4⟩ := h
  refine ⟨⟨cs, ?_, h1'⟩, ?_, (h3.setCell (by simp) _).setCell (by simp) _, by simpa [World.setCell] using h4⟩
  · rw [heap_setCell_other _ _ _ _ (by simp), heap_setCell_other _ _ _ _ (by simp)]; exact h1
  · refine set_block2 _ _ _ _ _ _ _ h2 ((cells8_set _ k hk _ _).trans (cells8_congr fun i hi => ?_))
    exact upTo_succ Y k i

theorem HeldX.storeX {B : Nat} {Y : Nat → Int × Int} {k : Nat} {w0 wr : World} (h : HeldX B Y k (k + 1) w0 wr) (hk : k < 4) {a b : Nat} (ha : Rep 0 a (Y k).1) (hb : Rep 0 b (Y k).2) :
    HeldX B Y (k + 1) (k + 1) w0 (wr.setCell ⟨B, k, none⟩ (.complex .f64 a b)) := by
  obtain ⟨⟨cs, h1, h1'⟩, h2, h3, h4⟩ := h
  refine ⟨⟨_, Joins.block_setCell h1 _, (h1'.set k ha hb hk).congr fun i hi => upTo_succ Y k i⟩, ?_, h3.setCell (by simp) _, by simpa [World.setCell] using h4⟩
  rw [heap_setCell_other _ _ _ _ (by simp)]; exact h2

theorem HeldX.start (w : World) (B : Nat) (hB : w.heap.size = B) (Y : Nat → Int × Int) : HeldX B Y 0 0 w ((w.alloc (.cells #[.complex .f64 0 0, .complex .f64 0 0, .complex .f64 0 0, .complex .f64 0 0] 24)).alloc (.cells zero8 42)) := by
  subst hB
  have e : upTo Y 0 = fun _ => (0, 0) := by funext i; unfold upTo; rw [if_neg (by omega)]
  refine ⟨⟨_, ?_, by rw [e]; exact row4_zero⟩, ?_, below_alloc (below_alloc (Below.refl _ _) _) _, by simp⟩
  · rw [heap_alloc_old _ _ (by simp)]; exact heap_alloc_new w _
  · have := heap_alloc_new (w.alloc (.cells #[.complex .f64 0 0, .complex .f64 0 0, .complex .f64 0 0, .complex .f64 0 0] 24)) (.cells zero8 42)
    rw [World.size_alloc] at this
    rw [e]
    exact this

/-- A slice of at most n. -/
def Brief (n : Nat) (w : World) (v : Value) : Prop := ∃ a l c zs, v = .slice a l c ∧ l ≤ n ∧ SliceI w a l c zs

/-- A turned spectrum, as the reference turns it. -/
def turnX (X : Nat → Int × Int) (b : Int) (k : Nat) : Int × Int := turnI (X k).1 (X k).2 ((-(-(k : Int) * Int.tmod b 4)) % 4)

theorem turnX_eq (X : Nat → Int × Int) (b : Int) (k : Nat) (hk : k < 4) : turnI (X k).1 (X k).2 (((k : Int) * (b % 4)) % 4) = turnX X b k := by
  have h1 := Int.mul_tdiv_add_tmod b 4
  unfold turnX
  congr 1
  rcases (by omega : k = 0 ∨ k = 1 ∨ k = 2 ∨ k = 3) with rfl | rfl | rfl | rfl <;> omega

theorem turnX_bound (X : Nat → Int × Int) (b : Int) (k : Nat) (h : (-70368744177664 ≤ (X k).1 ∧ (X k).1 ≤ 70368744177664) ∧ (-70368744177664 ≤ (X k).2 ∧ (X k).2 ≤ 70368744177664)) :
    (turnX X b k).1.natAbs < 9007199254740992 ∧ (turnX X b k).2.natAbs < 9007199254740992 := by
  have := turnI_bound (X k).1 (X k).2 ((-(-(k : Int) * Int.tmod b 4)) % 4) 70368744177664 h.1 h.2
  unfold turnX
  omega

theorem turn_x {X : Nat → Int × Int} {cs : Array Value} (h : Row4 X cs) (b : Int) (w : World) :
    Calls Try.prog 15 #[.agg cs, .int .i64 b] w fun e w' => (∃ ds, e = .returned (.agg ds) ∧ Row4 (turnX X b) ds) ∧ Below w.heap.size w w' :=
  (turn_any h b w).mono fun _ _ ⟨⟨ds, he, hd⟩, hb⟩ => ⟨⟨ds, he, hd.congr fun k hk => turnX_eq X b k hk⟩, hb⟩

theorem cells8_at {w : World} {g : Nat} {X : Nat → Int × Int} (h : w.heap[g]? = some (.cells (cells8 X) 42 (0, 0))) :
    w.cell? ⟨g, 0, none⟩ = some (.int .i64 (X 0).1) ∧ w.cell? ⟨g, 1, none⟩ = some (.int .i64 (X 0).2) ∧ w.cell? ⟨g, 2, none⟩ = some (.int .i64 (X 1).1) ∧ w.cell? ⟨g, 3, none⟩ = some (.int .i64 (X 1).2) ∧
    w.cell? ⟨g, 4, none⟩ = some (.int .i64 (X 2).1) ∧ w.cell? ⟨g, 5, none⟩ = some (.int .i64 (X 2).2) ∧ w.cell? ⟨g, 6, none⟩ = some (.int .i64 (X 3).1) ∧ w.cell? ⟨g, 7, none⟩ = some (.int .i64 (X 3).2) :=
  ⟨Joins.cell_of_block h 0, Joins.cell_of_block h 1, Joins.cell_of_block h 2, Joins.cell_of_block h 3, Joins.cell_of_block h 4, Joins.cell_of_block h 5, Joins.cell_of_block h 6, Joins.cell_of_block h 7⟩

theorem back_same {X : Nat → Int × Int} {e e' : Ending} (h : BackIs X e) (h' : BackIs X e') :
    ∃ a b c d t, e = .returned (.tuple #[.agg #[.int .i64 a, .int .i64 b, .int .i64 c, .int .i64 d], .bool t]) ∧ e' = e := by
  rcases h with ⟨hg, cs, he, hc⟩ | ⟨⟨j, hj, hb⟩, he⟩
  · rcases h' with ⟨-, ds, he', hd⟩ | ⟨⟨j, hj, hb⟩, -⟩
    · have h1 := hc.form
      have h2 := hd.form
      subst he he'
      rw [h1, h2]
      exact ⟨_, _, _, _, _, rfl, rfl⟩
    · exact absurd (hg j hj) hb
  · rcases h' with ⟨hg, -⟩ | ⟨-, he'⟩
    · exact absurd (hg j hj) hb
    · subst he he'
      exact ⟨_, _, _, _, _, rfl, rfl⟩

theorem back_form {X : Nat → Int × Int} {e : Ending} (h : BackIs X e) :
    ∃ a b c d t, e = .returned (.tuple #[.agg #[.int .i64 a, .int .i64 b, .int .i64 c, .int .i64 d], .bool t]) ∧ ∀ e', BackIs X e' → e' = e := by
  obtain ⟨a, b, c, d, t, he, -⟩ := back_same h h
  exact ⟨a, b, c, d, t, he, fun e' h' => by obtain ⟨_, _, _, _, _, _, h2⟩ := back_same h h'; exact h2⟩

theorem beat_form {X : Nat → Int × Int} {e : Ending} (h : BeatIs X e) :
    ∃ (n : Int) (U : Int × Int) (p q : Nat), e = .returned (.tuple #[.int .i64 n, .complex .f64 p q]) ∧ Rep 0 p U.1 ∧ Rep 0 q U.2 ∧ (U = X 1 ∨ U = X 2) ∧
      ∀ e', RBeat X e' → e' = .returned (.tuple #[.int .i64 n, .agg #[.int .i64 U.1, .int .i64 U.2]]) := by
  rcases h with ⟨hlt, p, q, he, hp, hq⟩ | ⟨hlt, p, q, he, hp, hq⟩
  · refine ⟨2, X 2, p, q, he, hp, hq, .inr rfl, fun e' h' => ?_⟩
    rcases h' with ⟨-, h2⟩ | ⟨h2, -⟩
    · exact h2
    · exact absurd hlt h2
  · refine ⟨1, X 1, p, q, he, hp, hq, .inl rfl, fun e' h' => ?_⟩
    rcases h' with ⟨h2, -⟩ | ⟨-, h2⟩
    · exact absurd h2 hlt
    · exact h2

set_option maxRecDepth 100000 in
set_option maxHeartbeats 4000000 in
theorem spectra_any (m0 m1 m2 m3 r0 r1 r2 r3 i0 i1 i2 i3 : Int) (a : Option Addr) (la ca : Nat) (zs : List Int) (by' : Int) (w : World) (ha : SliceI w a la ca zs) (_hca : ca ≤ 9223372036854775807) :
    Calls Try.prog 7 #[.agg #[.int .i64 m0, .int .i64 m1, .int .i64 m2, .int .i64 m3], .agg #[.int .i64 r0, .int .i64 r1, .int .i64 r2, .int .i64 r3], .agg #[.int .i64 i0, .int .i64 i1, .int .i64 i2, .int .i64 i3], .slice a la ca, .int .i64 by'] w
      fun e w' => e = .returned (.bool true) ∧ Below w.heap.size w w' := by
  have hu41 := Try.underlying41
  have hu42 := Try.underlying42
  have b0 := tmod40' m0
  have b1 := tmod40' m1
  have b2 := tmod40' m2
  have b3 := tmod40' m3
  have hmo := fun w => mosts_any m0 m1 m2 m3 w
  generalize m0.tmod 1099511627776 = n0 at *
  generalize m1.tmod 1099511627776 = n1 at *
  generalize m2.tmod 1099511627776 = n2 at *
  generalize m3.tmod 1099511627776 = n3 at *
  have hq := q4_in' n0 n1 n2 n3 1099511627775 b0 b1 b2 b3 (by omega)
  clear b0 b1 b2 b3
  go_enter Try.func7, Try.ntmps7
  go_wp2_with fail
  refine (hmo _).mono ?_
  rintro e w1 ⟨rfl, hb1⟩
  have tb := three_boxes w (.cells #[.int .i64 m0, .int .i64 m1, .int .i64 m2, .int .i64 m3] 22) (.cells #[.int .i64 r0, .int .i64 r1, .int .i64 r2, .int .i64 r3] 22) (.cells #[.int .i64 i0, .int .i64 i1, .int .i64 i2, .int .i64 i3] 22)
  have g0 := (hb1.block w.heap.size (by simp; omega)).trans tb.1
  have gr := (hb1.block (w.heap.size + 1) (by simp)).trans tb.2.1
  have gi := (hb1.block (w.heap.size + 1 + 1) (by simp)).trans tb.2.2
  have z1 : w.heap.size + 1 + 1 + 1 ≤ w1.heap.size := by simpa using hb1.size
  have hW1 : Below w.heap.size w w1 := (below_alloc (below_alloc (below_alloc (Below.refl _ _) _) _) _).trans (hb1.mono (by simp; omega))
  clear hb1 hmo tb
  obtain ⟨⟨l0, l1, l2, l3⟩, f0, f1, f2, f3⟩ := cells4_of g0
  have hB2 : Bls w.heap.size #[.int .i64 n0, .int .i64 n1, .int .i64 n2, .int .i64 n3] #[.int .i64 r0, .int .i64 r1, .int .i64 r2, .int .i64 r3] #[.int .i64 i0, .int .i64 i1, .int .i64 i2, .int .i64 i3] w ((((w1.setCell ⟨w.heap.size, 0, none⟩ (.int .i64 n0)).setCell ⟨w.heap.size, 1, none⟩ (.int .i64 n1)).setCell ⟨w.heap.size, 2, none⟩ (.int .i64 n2)).setCell ⟨w.heap.size, 3, none⟩ (.int .i64 n3)) := by
    refine ⟨Joins.block_setCell (Joins.block_setCell (Joins.block_setCell (Joins.block_setCell g0 _) _) _) _, ?_, ?_, (((hW1.setCell (by simp) _).setCell (by simp) _).setCell (by simp) _).setCell (by simp) _, by simp; omega⟩
    · rw [heap_setCell_other _ _ _ _ (by simp), heap_setCell_other _ _ _ _ (by simp), heap_setCell_other _ _ _ _ (by simp), heap_setCell_other _ _ _ _ (by simp)]; exact gr
    · rw [heap_setCell_other _ _ _ _ (by simp; omega), heap_setCell_other _ _ _ _ (by simp; omega), heap_setCell_other _ _ _ _ (by simp; omega), heap_setCell_other _ _ _ _ (by simp; omega)]; exact gi
  go_wp2_with fail
  generalize (((w1.setCell ⟨w.heap.size, 0, none⟩ (.int .i64 n0)).setCell ⟨w.heap.size, 1, none⟩ (.int .i64 n1)).setCell ⟨w.heap.size, 2, none⟩ (.int .i64 n2)).setCell ⟨w.heap.size, 3, none⟩ (.int .i64 n3) = w2 at *
  clear g0 gr gi z1 hW1 l0 l1 l2 l3 f0 f1 f2 f3
  obtain ⟨X, hX⟩ : ∃ X : Nat → Int × Int, (fun k => psum (q4 n0 n1 n2 n3) k 4) = X := ⟨_, rfl⟩
  have hsp := fun w => spectrum_any n0 n1 n2 n3 w hq
  have hrs := fun w => rspectrum_any n0 n1 n2 n3 w hq
  have hbt := fun w => beat_any n0 n1 n2 n3 w hq
  have hrb := fun w => rbeat_any n0 n1 n2 n3 w hq
  have hXb : ∀ k, k < 4 → (-70368744177664 ≤ (X k).1 ∧ (X k).1 ≤ 70368744177664) ∧ (-70368744177664 ≤ (X k).2 ∧ (X k).2 ≤ 70368744177664) := fun k hk => by
    have := psum_bound _ k 17592186044416 hq (by omega) 4
    rw [show X k = psum (q4 n0 n1 n2 n3) k 4 from by rw [← hX]]
    omega
  rw [hX] at hsp hrs hbt hrb
  clear hq hX
  replace hrs : ∀ w : World, Calls Try.prog 16 #[.agg #[.int .i64 n0, .int .i64 n1, .int .i64 n2, .int .i64 n3]] w fun e w' => e = .returned (.agg #[.int .i64 (X 0).1, .int .i64 (X 0).2, .int .i64 (X 1).1, .int .i64 (X 1).2, .int .i64 (X 2).1, .int .i64 (X 2).2, .int .i64 (X 3).1, .int .i64 (X 3).2]) ∧ Below w.heap.size w w' := hrs
  refine (hsp _).mono ?_
  rintro e w3 ⟨⟨cx, rfl, hx⟩, hb3⟩
  obtain ⟨x0, y0, x1, y1, x2, y2, x3, y3, rfl, -, -, -, -⟩ := hx.form
  replace hB2 := hB2.under hb3
  clear hb3 hsp
  have l := (cells4_of hB2.1).1
  obtain ⟨l0, l1, l2, l3⟩ := l
  have s3 : w.heap.size < w3.heap.size := by have := hB2.2.2.2.2; omega
  go_wp2_with fail
  refine (hrs _).mono ?_
  rintro e w4 ⟨rfl, hb4⟩
  have gS := (hb4.block w3.heap.size (by simp)).trans (heap_alloc_new _ _)
  have h34 : Below w3.heap.size w3 w4 := ((Below.refl _ _).alloc (Nat.le_refl _) _).trans (hb4.mono (by simp))
  have s34 : w3.heap.size < w4.heap.size := by have := hb4.size; rw [World.size_alloc] at this; omega
  replace hB2 := hB2.under h34
  clear hb4 hrs h34 l0 l1 l2 l3
  go_wp2_with fail
  generalize hw5 : w4.alloc (.cells #[.int .i64 (X 0).1, .int .i64 (X 0).2, .int .i64 (X 1).1, .int .i64 (X 1).2, .int .i64 (X 2).1, .int .i64 (X 2).2, .int .i64 (X 3).1, .int .i64 (X 3).2] 42) = w5
  have gW : w5.heap[w4.heap.size]? = some (.cells (cells8 X) 42 (0, 0)) := by rw [← hw5]; exact heap_alloc_new _ _
  have h45 : Below w4.heap.size w4 w5 := by rw [← hw5]; exact (Below.refl _ _).alloc (Nat.le_refl _) _
  have s45 : w5.heap.size = w4.heap.size + 1 := by rw [← hw5]; simp
  replace hB2 := hB2.under h45
  replace gS := (h45.block _ s34).trans gS
  obtain ⟨Y, hY⟩ : ∃ Y : Nat → Int × Int, Y = fun k => ((q4 r0 r1 r2 r3 k).tmod 1099511627776, (q4 i0 i1 i2 i3 k).tmod 1099511627776) := ⟨_, rfl⟩
  have hst := HeldX.start w5 _ s45 Y
  have HB2 := Lib.hid hB2
  have HS := Lib.hid gS
  have HW := Lib.hid gW
  have HYY := Lib.hid hY
  have hsz := hB2.2.2.2.2
  rw [s45] at hsz
  clear hw5 h45 gW gS hB2 hY
  go_loopw [15] (fun v wr => ∃ k : Nat, k ≤ 4 ∧ v = .int .i64 k ∧ HeldX (w4.heap.size + 1) Y k k w5 wr) (fun v _ => 4 - (intOf v).toNat)
  case atStart => exact ⟨0, by omega, rfl, hst⟩
  case round =>
    clear hst
    obtain ⟨k, hk, rfl, hh⟩ := hrel
    by_cases hlt : k < 4
    · have K0 : (0 : Int) ≤ (k : Int) := by omega
      have K1 : (k : Int) < 4 := by omega
      have hYk : Y k = ((q4 r0 r1 r2 r3 k).tmod 1099511627776, (q4 i0 i1 i2 i3 k).tmod 1099511627776) := by rw [HYY.out]
      obtain ⟨p, hp⟩ : ∃ p, q4 r0 r1 r2 r3 k = p := ⟨_, rfl⟩
      obtain ⟨q, hq⟩ : ∃ q, q4 i0 i1 i2 i3 k = q := ⟨_, rfl⟩
      have cR : wr.cell? ⟨w.heap.size + 1, k, none⟩ = some (.int .i64 p) := by
        rw [hh.2.2.1.cell (p := ⟨w.heap.size + 1, k, none⟩) (by simp; omega), Joins.cell_of_block HB2.out.2.1, ← hp]
        rcases (by omega : k = 0 ∨ k = 1 ∨ k = 2 ∨ k = 3) with rfl | rfl | rfl | rfl <;> rfl
      have cI : wr.cell? ⟨w.heap.size + 1 + 1, k, none⟩ = some (.int .i64 q) := by
        rw [hh.2.2.1.cell (p := ⟨w.heap.size + 1 + 1, k, none⟩) (by simp; omega), Joins.cell_of_block HB2.out.2.2.1, ← hq]
        rcases (by omega : k = 0 ∨ k = 1 ∨ k = 2 ∨ k = 3) with rfl | rfl | rfl | rfl <;> rfl
      rw [hp, hq] at hYk
      have tp := tmod40' p
      have tq := tmod40' q
      have hmp := fun w => most_any p w
      have hmq := fun w => most_any q w
      generalize p.tmod 1099511627776 = p' at *
      generalize q.tmod 1099511627776 = q' at *
      have hc8 := cells8_get (upTo Y k) k hlt
      have y0 : ∃ u, wr.cell? ⟨w4.heap.size + 1 + 1, k * 2, none⟩ = some u := ⟨_, by rw [Joins.cell_of_block hh.2.1]; exact hc8.1⟩
      have y1 : ∃ u, wr.cell? ⟨w4.heap.size + 1 + 1, k * 2 + 1, none⟩ = some u := ⟨_, by rw [Joins.cell_of_block hh.2.1]; exact hc8.2⟩
      obtain ⟨u0, y0⟩ := y0
      obtain ⟨u1, y1⟩ := y1
      have f0 : wr.frozen? ⟨w4.heap.size + 1 + 1, k * 2, none⟩ = false := Joins.unfrozen_of_block hh.2.1 (k * 2)
      have f1 : wr.frozen? ⟨w4.heap.size + 1 + 1, k * 2 + 1, none⟩ = false := Joins.unfrozen_of_block hh.2.1 (k * 2 + 1)
      have HH := Lib.hid hh
      clear hp hq hh hc8
      go_wp2_with fail
      go_region_with (first
        | (go_at_call_of 17 (Value.int .i64 p); refine (hmp _).mono ?_; rintro e w' ⟨rfl, rfl⟩)
        | (go_at_call_of 17 (Value.int .i64 q); refine (hmq _).mono ?_; rintro e w' ⟨rfl, rfl⟩))
      all_goals
        have h2 := (HeldX.storeY HH.out hlt).under (Below.refl _ _).drew
        rw [hYk] at h2
        clear HH y0 y1 f0 f1 cR cI
        revert h2
        generalize ((wr.setCell ⟨w4.heap.size + 1 + 1, k * 2, none⟩ (.int .i64 p')).setCell ⟨w4.heap.size + 1 + 1, k * 2 + 1, none⟩ (.int .i64 q')).drew = wv
        intro h2
        have hc8 := cells8_get (upTo Y (k + 1)) k hlt
        rw [show upTo Y (k + 1) k = (p', q') from by unfold upTo; rw [if_pos (by omega), hYk]] at hc8
        have y0 : wv.cell? ⟨w4.heap.size + 1 + 1, k * 2, none⟩ = some (.int .i64 p') := by rw [Joins.cell_of_block h2.2.1]; exact hc8.1
        have y1 : wv.cell? ⟨w4.heap.size + 1 + 1, k * 2 + 1, none⟩ = some (.int .i64 q') := by rw [Joins.cell_of_block h2.2.1]; exact hc8.2
        go_wp2_with fail
        refine (cpart_any p' q' _).mono ?_
        rintro e wz ⟨rfl, hbz⟩
        have h3 := h2.under hbz
        clear hbz h2 y0 y1 hc8
        have f2 : ∃ u, wz.cell? ⟨w4.heap.size + 1, k, none⟩ = some u ∧ wz.frozen? ⟨w4.heap.size + 1, k, none⟩ = false := by
          obtain ⟨cs, g1, g2⟩ := h3.1
          obtain ⟨a, b, g3, -, -⟩ := g2.2 k hlt
          exact ⟨_, by rw [Joins.cell_of_block g1]; exact g3, Joins.unfrozen_of_block g1 k⟩
        obtain ⟨u, f2, f3⟩ := f2
        have h4 := Lib.hid (h3.storeX hlt (a := floatOfInt .f64 p') (b := floatOfInt .f64 q') (by rw [hYk]; exact rep_ofInt p' (by omega)) (by rw [hYk]; exact rep_ofInt q' (by omega)))
        clear h3
        go_wp2
        refine ⟨⟨k + 1, by omega, by go_num, h4.out⟩, by simp [intOf]; omega⟩
    · have e4 : k = 4 := by omega
      subst e4
      have hYb : ∀ i, i < 4 → (-70368744177664 ≤ (Y i).1 ∧ (Y i).1 ≤ 70368744177664) ∧ (-70368744177664 ≤ (Y i).2 ∧ (Y i).2 ≤ 70368744177664) := fun i hi => by
        have h1 := tmod40' (q4 r0 r1 r2 r3 i)
        have h2 := tmod40' (q4 i0 i1 i2 i3 i)
        rw [HYY.out]
        simp only
        omega
      obtain ⟨⟨csx, gX, hrX⟩, gY, hbX, szX⟩ := hh
      replace hrX := hrX.congr (Y := Y) fun i hi => by unfold upTo; rw [if_pos hi]
      rw [cells8_congr (Y := Y) fun i hi => by unfold upTo; rw [if_pos hi]] at gY
      have hbk := fun w => back_any hrX hYb w
      have hrk := fun w => rback_any Y hYb w
      have hB6 := HB2.out.below hbX (by omega)
      have gS6 := (hbX.block _ (by omega)).trans HS.out
      have gW6 := (hbX.block _ (by omega)).trans HW.out
      have hsx : (Try.prog.info? 24).map (·.size) = some csx.size := by rw [hrX.1]; kernel_rfl
      have hs8 : (Try.prog.info? 42).map (·.size) = some (cells8 Y).size := by show _ = some 8; kernel_rfl
      have HBX := Lib.hid hbX
      have hcs8 : ∃ c8, cells8 Y = c8 := ⟨_, rfl⟩
      obtain ⟨c8, hc8⟩ := hcs8
      rw [hc8] at hrk hs8 gY
      clear HB2 HS HW HYY hYb hbX hc8
      go_wp2_with (refine wpList_load_row rfl 24 _ rfl (w4.heap.size + 1) rfl 24 _ (0, 0) _ gX Try.underlying24 rfl hsx ?_)
      refine (hbk _).mono ?_
      rintro e w6 ⟨hbe, hb6⟩
      obtain ⟨a0, a1, a2, a3, tt, rfl, huniq⟩ := back_form hbe
      have zr := hb6.size
      replace hB6 := hB6.under hb6
      replace gS6 := (hb6.block _ (by omega)).trans gS6
      replace gW6 := (hb6.block _ (by omega)).trans gW6
      replace gY := (hb6.block _ (by omega)).trans gY
      have q6 : w4.heap.size + 1 + 1 < w6.heap.size := by omega
      have hX6 := HBX.out.trans (hb6.mono (by omega))
      clear hb6 hbe hbk gX zr szX hrX HBX
      go_upto_region 12 with fail
      generalize hw7 : w6.alloc (.cells #[.int .i64 a0, .int .i64 a1, .int .i64 a2, .int .i64 a3] 22) = w7
      have h67 : Below w6.heap.size w6 w7 := by rw [← hw7]; exact (Below.refl _ _).alloc (Nat.le_refl _) _
      have gA : w7.heap[w6.heap.size]? = some (.cells #[.int .i64 a0, .int .i64 a1, .int .i64 a2, .int .i64 a3] 22 (0, 0)) := by rw [← hw7]; exact heap_alloc_new _ _
      have z7 : w6.heap.size < w7.heap.size := by rw [← hw7]; simp
      replace hB6 := hB6.under h67
      replace gS6 := (h67.block _ (by omega)).trans gS6
      replace gW6 := (h67.block _ (by omega)).trans gW6
      replace gY := (h67.block _ (by omega)).trans gY
      clear hw7 h67
      go_wp2_with (refine wpList_load_row rfl 42 _ rfl (w4.heap.size + 1 + 1) rfl 42 _ (0, 0) _ gY Try.underlying42 rfl hs8 ?_)
      refine (hrk _).mono ?_
      rintro e w8 ⟨hbe, hb8⟩
      obtain rfl := huniq _ hbe
      have z8 := hb8.size
      replace hB6 := hB6.under hb8
      replace gS6 := (hb8.block _ (by omega)).trans gS6
      replace gW6 := (hb8.block _ (by omega)).trans gW6
      replace gA := (hb8.block _ (by omega)).trans gA
      clear hb8 hbe gY huniq hrk hs8 hsx
      go_upto_region 13 with fail
      generalize hw9 : w8.alloc (.cells #[.int .i64 a0, .int .i64 a1, .int .i64 a2, .int .i64 a3] 22) = w9
      have h89 : Below w8.heap.size w8 w9 := by rw [← hw9]; exact (Below.refl _ _).alloc (Nat.le_refl _) _
      have gB : w9.heap[w8.heap.size]? = some (.cells #[.int .i64 a0, .int .i64 a1, .int .i64 a2, .int .i64 a3] 22 (0, 0)) := by rw [← hw9]; exact heap_alloc_new _ _
      have z9 : w8.heap.size < w9.heap.size := by rw [← hw9]; simp
      replace hB6 := hB6.under h89
      replace gS6 := (h89.block _ (by omega)).trans gS6
      replace gW6 := (h89.block _ (by omega)).trans gW6
      replace gA := (h89.block _ (by omega)).trans gA
      clear hw9 h89
      obtain ⟨l0, l1, l2, l3⟩ := (cells4_of hB6.1).1
      go_wp2_with fail
      refine (hbt _).mono ?_
      rintro e w10 ⟨hbe, hb10⟩
      obtain ⟨nn, U, pp, qq, rfl, rp, rq, hU, huniq⟩ := beat_form hbe
      have z10 := hb10.size
      replace hB6 := hB6.under hb10
      replace gS6 := (hb10.block _ (by omega)).trans gS6
      replace gW6 := (hb10.block _ (by omega)).trans gW6
      replace gA := (hb10.block _ (by omega)).trans gA
      replace gB := (hb10.block _ (by omega)).trans gB
      clear hb10 hbe l0 l1 l2 l3 hbt
      obtain ⟨l0, l1, l2, l3⟩ := (cells4_of hB6.1).1
      go_wp2_with fail
      refine (hrb _).mono ?_
      rintro e w11 ⟨hbe, hb11⟩
      obtain rfl := huniq _ hbe
      have z11 := hb11.size
      replace hB6 := hB6.under hb11
      replace gS6 := (hb11.block _ (by omega)).trans gS6
      replace gW6 := (hb11.block _ (by omega)).trans gW6
      replace gA := (hb11.block _ (by omega)).trans gA
      replace gB := (hb11.block _ (by omega)).trans gB
      clear hb11 hbe huniq l0 l1 l2 l3 hrb
      go_upto_region 15 with fail
      generalize hw12 : w11.alloc (.cells #[.int .i64 U.1, .int .i64 U.2] 41) = w12
      have h112 : Below w11.heap.size w11 w12 := by rw [← hw12]; exact (Below.refl _ _).alloc (Nat.le_refl _) _
      have gU : w12.heap[w11.heap.size]? = some (.cells #[.int .i64 U.1, .int .i64 U.2] 41 (0, 0)) := by rw [← hw12]; exact heap_alloc_new _ _
      have z12 : w11.heap.size < w12.heap.size := by rw [← hw12]; simp
      replace hB6 := hB6.under h112
      replace gS6 := (h112.block _ (by omega)).trans gS6
      replace gW6 := (h112.block _ (by omega)).trans gW6
      replace gA := (h112.block _ (by omega)).trans gA
      replace gB := (h112.block _ (by omega)).trans gB
      have hla := ha.2.1
      have ha' := ha.below hB6.2.2.2.1
      have hW := hB6.2.2.2.1
      have hUb : U.1.natAbs < 9007199254740992 ∧ U.2.natAbs < 9007199254740992 := by
        have b1 := hXb 1 (by omega)
        have b2 := hXb 2 (by omega)
        rcases hU with rfl | rfl <;> omega
      have HS := Lib.hid gS6
      have HW6 := Lib.hid gW6
      have HA := Lib.hid gA
      have HB := Lib.hid gB
      have HU := Lib.hid gU
      have s1 : w3.heap.size < w12.heap.size := by omega
      have s2 : w4.heap.size < w12.heap.size := by omega
      have s5 : w6.heap.size < w12.heap.size := by omega
      have s6 : w8.heap.size < w12.heap.size := by omega
      clear hw12 h112 gU gS6 gW6 gA gB hB6 ha hU z7 z8 z9 z10 z11 q6 hX6 s45 s34 s3 hsz
      generalize w3.heap.size = g3 at *
      generalize w4.heap.size = g4 at *
      generalize w6.heap.size = g6 at *
      generalize w8.heap.size = g8 at *
      generalize w11.heap.size = g11 at *
      go_upto_if 73 with fail
      go_cut [3] from 71 (fun v wx => Brief 100 w12 v ∧ w12 = wx)
      case first =>
        by_cases h40 : 100 < la
        · go_wp2
          go_meet
          case rel => exact ⟨⟨a, 100, ca, zs.take 100, rfl, by omega, ha'.take 100 (by omega)⟩, rfl⟩
        · go_wp2
          go_meet
          case rel => exact ⟨⟨a, la, ca, zs, rfl, by omega, ha'⟩, rfl⟩
      case rest =>
        obtain ⟨⟨a', la', ca', za', rfl, h40a, ha2⟩, rfl⟩ := hcut
        clear ha'
        have hch : Below w12.heap.size w12 w12.drew := (Below.refl _ _).drew
        have hs1 : ∀ w : World, Calls Try.prog 21 #[.agg #[.complex .f64 x0 y0, .complex .f64 x1 y1, .complex .f64 x2 y2, .complex .f64 x3 y3], .agg #[.int .i64 (X 0).1, .int .i64 (X 0).2, .int .i64 (X 1).1, .int .i64 (X 1).2, .int .i64 (X 2).1, .int .i64 (X 2).2, .int .i64 (X 3).1, .int .i64 (X 3).2]] w fun e w' => e = .returned (.bool true) ∧ Below w.heap.size w w' := fun w => same_any hx (fun k hk => by have := hXb k hk; omega) w
        have ht1 : ∀ w : World, Calls Try.prog 15 #[.agg #[.complex .f64 x0 y0, .complex .f64 x1 y1, .complex .f64 x2 y2, .complex .f64 x3 y3], .int .i64 by'] w fun e w' => (∃ ds, e = .returned (.agg ds) ∧ Row4 (turnX X by') ds) ∧ Below w.heap.size w w' := fun w => turn_x hx by' w
        have hr1 : ∀ w : World, Calls Try.prog 22 #[.agg #[.int .i64 (X 0).1, .int .i64 (X 0).2, .int .i64 (X 1).1, .int .i64 (X 1).2, .int .i64 (X 2).1, .int .i64 (X 2).2, .int .i64 (X 3).1, .int .i64 (X 3).2], .int .i64 by'] w fun e w' => e = .returned (.agg (cells8 (turnX X by'))) ∧ Below w.heap.size w w' := fun w => rTurn_any X (fun k hk => by have := hXb k hk; unfold fit62; omega) by' w
        have hb2 : ∀ k, k < 4 → (turnX X by' k).1.natAbs < 9007199254740992 ∧ (turnX X by' k).2.natAbs < 9007199254740992 := fun k hk => turnX_bound X by' k (hXb k hk)
        generalize turnX X by' = X2 at *
        have hs2 : ∀ ds, Row4 X2 ds → ∀ w : World, Calls Try.prog 21 #[.agg ds, .agg (cells8 X2)] w fun e w' => e = .returned (.bool true) ∧ Below w.heap.size w w' := fun ds hds w => same_any hds hb2 w
        generalize cells8 X2 = c2 at *
        have hpart := fun w => cpart_any U.1 U.2 w
        have heqP : ∀ w, (binOp .eql 23 (.complex .f64 pp qq) (.complex .f64 (floatOfInt .f64 U.1) (floatOfInt .f64 U.2))).run Try.prog w = .ok (.bool true) w := fun w => by
          rw [run_eql_complex, rep_eq rp (rep_ofInt U.1 hUb.1), rep_eq rq (rep_ofInt U.2 hUb.2)]
          simp
        generalize floatOfInt .f64 U.1 = fu at *
        generalize floatOfInt .f64 U.2 = fv at *
        have heqA := fun w => run_eql22 (rowI_of a0 a1 a2 a3) (rowI_of a0 a1 a2 a3) w
        rw [alike4_true (fun i _ => rfl)] at heqA
        have heqF := fun w => run_eql22 (rowI_of (cnt za' 0) (cnt za' 1) (cnt za' 2) (cnt za' 3)) (rowI_of (cnt za' 0) (cnt za' 1) (cnt za' 2) (cnt za' 3)) w
        rw [alike4_true (fun i _ => rfl)] at heqF
        have HI := Lib.hid ha2
        have HWW := Lib.hid hW
        have hold : ∀ W : World, Below w12.heap.size w12 W → (W.cell? ⟨g3, 0, none⟩ = some (.complex .f64 x0 y0) ∧ W.cell? ⟨g3, 1, none⟩ = some (.complex .f64 x1 y1) ∧ W.cell? ⟨g3, 2, none⟩ = some (.complex .f64 x2 y2) ∧ W.cell? ⟨g3, 3, none⟩ = some (.complex .f64 x3 y3) ∧ W.cell? ⟨g4, 0, none⟩ = some (.int .i64 (X 0).1) ∧ W.cell? ⟨g4, 1, none⟩ = some (.int .i64 (X 0).2) ∧ W.cell? ⟨g4, 2, none⟩ = some (.int .i64 (X 1).1) ∧ W.cell? ⟨g4, 3, none⟩ = some (.int .i64 (X 1).2) ∧ W.cell? ⟨g4, 4, none⟩ = some (.int .i64 (X 2).1) ∧ W.cell? ⟨g4, 5, none⟩ = some (.int .i64 (X 2).2) ∧ W.cell? ⟨g4, 6, none⟩ = some (.int .i64 (X 3).1) ∧ W.cell? ⟨g4, 7, none⟩ = some (.int .i64 (X 3).2) ∧ W.cell? ⟨g6, 0, none⟩ = some (.int .i64 a0) ∧ W.cell? ⟨g6, 1, none⟩ = some (.int .i64 a1) ∧ W.cell? ⟨g6, 2, none⟩ = some (.int .i64 a2) ∧ W.cell? ⟨g6, 3, none⟩ = some (.int .i64 a3) ∧ W.cell? ⟨g8, 0, none⟩ = some (.int .i64 a0) ∧ W.cell? ⟨g8, 1, none⟩ = some (.int .i64 a1) ∧ W.cell? ⟨g8, 2, none⟩ = some (.int .i64 a2) ∧ W.cell? ⟨g8, 3, none⟩ = some (.int .i64 a3) ∧ W.cell? ⟨g11, 0, none⟩ = some (.int .i64 U.1) ∧ W.cell? ⟨g11, 1, none⟩ = some (.int .i64 U.2) ∧ Below w12.heap.size w12 W) := fun W hch => by
          obtain ⟨cs0, cs1, cs2, cs3⟩ := (cells4_of ((hch.block g3 s1).trans HS.out)).1
          obtain ⟨cw0, cw1, cw2, cw3, cw4, cw5, cw6, cw7⟩ := cells8_at ((hch.block g4 s2).trans HW6.out)
          obtain ⟨ca0, ca1, ca2, ca3⟩ := (cells4_of ((hch.block g6 s5).trans HA.out)).1
          obtain ⟨cb0, cb1, cb2, cb3⟩ := (cells4_of ((hch.block g8 s6).trans HB.out)).1
          exact ⟨cs0, cs1, cs2, cs3, cw0, cw1, cw2, cw3, cw4, cw5, cw6, cw7, ca0, ca1, ca2, ca3, cb0, cb1, cb2, cb3, Joins.cell_of_block ((hch.block g11 z12).trans HU.out) 0, Joins.cell_of_block ((hch.block g11 z12).trans HU.out) 1, hch⟩
        have HO := Lib.hid hold
        clear ha2 hW hx hXb hUb rp rq hb2 hla hold hch HS HW6 HA HB HU
        go_wp2_with fail
        go_region_held3 (fun W => W.cell? ⟨g3, 0, none⟩ = some (.complex .f64 x0 y0) ∧ W.cell? ⟨g3, 1, none⟩ = some (.complex .f64 x1 y1) ∧ W.cell? ⟨g3, 2, none⟩ = some (.complex .f64 x2 y2) ∧ W.cell? ⟨g3, 3, none⟩ = some (.complex .f64 x3 y3) ∧ W.cell? ⟨g4, 0, none⟩ = some (.int .i64 (X 0).1) ∧ W.cell? ⟨g4, 1, none⟩ = some (.int .i64 (X 0).2) ∧ W.cell? ⟨g4, 2, none⟩ = some (.int .i64 (X 1).1) ∧ W.cell? ⟨g4, 3, none⟩ = some (.int .i64 (X 1).2) ∧ W.cell? ⟨g4, 4, none⟩ = some (.int .i64 (X 2).1) ∧ W.cell? ⟨g4, 5, none⟩ = some (.int .i64 (X 2).2) ∧ W.cell? ⟨g4, 6, none⟩ = some (.int .i64 (X 3).1) ∧ W.cell? ⟨g4, 7, none⟩ = some (.int .i64 (X 3).2) ∧ W.cell? ⟨g6, 0, none⟩ = some (.int .i64 a0) ∧ W.cell? ⟨g6, 1, none⟩ = some (.int .i64 a1) ∧ W.cell? ⟨g6, 2, none⟩ = some (.int .i64 a2) ∧ W.cell? ⟨g6, 3, none⟩ = some (.int .i64 a3) ∧ W.cell? ⟨g8, 0, none⟩ = some (.int .i64 a0) ∧ W.cell? ⟨g8, 1, none⟩ = some (.int .i64 a1) ∧ W.cell? ⟨g8, 2, none⟩ = some (.int .i64 a2) ∧ W.cell? ⟨g8, 3, none⟩ = some (.int .i64 a3) ∧ W.cell? ⟨g11, 0, none⟩ = some (.int .i64 U.1) ∧ W.cell? ⟨g11, 1, none⟩ = some (.int .i64 U.2) ∧ Below w12.heap.size w12 W)
          (first
            | exact HO.out _ (Below.drew (Below.refl _ _))
            | (go_split_ands; exact HO.out _ (Below.trans (by assumption) (Below.mono hb (Below.size (by assumption))))))
          (first
            | (go_at_call_of 21 (Value.agg #[.complex .f64 x0 y0, .complex .f64 x1 y1, .complex .f64 x2 y2, .complex .f64 x3 y3]); refine (hs1 _).mono ?_; rintro e w' ⟨rfl, hb⟩)
            | (go_at_call 15; refine (ht1 _).mono ?_; rintro e w' ⟨⟨ds, rfl, hds⟩, hb⟩)
            | (go_at_call 22; refine (hr1 _).mono ?_; rintro e w' ⟨rfl, hb⟩)
            | (go_at_call 21; refine (hs2 _ hds _).mono ?_; rintro e w' ⟨rfl, hb⟩)
            | (go_at_call 18; refine (hpart _).mono ?_; rintro e w' ⟨rfl, hb⟩)
            | (go_at_call 10; refine (fold_any _ _ _ _ _ (SliceI.ints (SliceI.below HI.out (by go_split_ands; assumption))) (by unfold maxLen; omega)).mono ?_; rintro e w' ⟨rfl, hb⟩)
            | (go_at_call 23; refine (rfold_any _ _ _ _ _ (SliceI.ints (SliceI.below HI.out (by go_split_ands; assumption))) (by unfold maxLen; omega)).mono ?_; rintro e w' ⟨rfl, hb⟩)
            | (go_at_call 9; refine (known_any _).mono ?_; rintro e w' ⟨rfl, hb⟩))
        all_goals
          go_wp2
          go_ret
          refine ⟨rfl, HWW.out.trans (Below.mono ?_ HWW.out.size)⟩
          go_split_ands
          assumption

end Go.Proofs.Ytfbifmgaehgcmaa.Own
