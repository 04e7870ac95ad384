/- The reference's Turn. -/
import Derived.Test.YtfbifmgaehgcmaaRefC
import Derived.Lib.Hide
namespace Go.Proofs.Ytfbifmgaehgcmaa.Own
open Go.RowKit Go.Proofs.Ytfbifmgaehgcmaa.PX Go.Proofs.YtfbifmgaehgcmaaW.PrintWords

def zero8 : Array Value := #[.int .i64 0, .int .i64 0, .int .i64 0, .int .i64 0, .int .i64 0, .int .i64 0, .int .i64 0, .int .i64 0]

def Held8 (g : Nat) (X : Nat → Int × Int) (w wr : World) : Prop :=
  wr.heap[g]? = some (.cells (cells8 X) 42 (0, 0)) ∧ wr.heap[g + 1]? = some (.cells zero8 42 (0, 0)) ∧ Below w.heap.size w wr ∧ w.heap.size + 1 < wr.heap.size

theorem set_block (w : World) (g i : Nat) (cs : Array Value) (t : TypeId) (fr : Nat × Nat) (v : Value) (hg : w.heap[g]? = some (.cells cs t fr)) :
    (w.setCell ⟨g, i, none⟩ v).heap[g]? = some (.cells (cs.setIfInBounds i v) t fr) := by
  simp only [World.setCell]
  rw [Array.getElem?_modify]
  simp [hg]

theorem set_block2 (w : World) (g i : Nat) (cs ds : Array Value) (a b : Value) (hg : w.heap[g]? = some (.cells cs 42 (0, 0))) (hd : (cs.setIfInBounds i a).setIfInBounds (i + 1) b = ds) :
    ((w.setCell ⟨g, i, none⟩ a).setCell ⟨g, i + 1, none⟩ b).heap[g]? = some (.cells ds 42 (0, 0)) := by
  rw [← hd]
  exact set_block _ _ _ _ _ _ _ (set_block _ _ _ _ _ _ _ hg)

theorem Held8.store {g : Nat} {X Y : Nat → Int × Int} {w wr : World} (hgw : g = w.heap.size) (h : Held8 g X w wr) (i : Nat) (a b : Value) (hd : ((cells8 X).setIfInBounds i a).setIfInBounds (i + 1) b = cells8 Y) :
    Held8 g Y w ((wr.setCell ⟨g, i, none⟩ a).setCell ⟨g, i + 1, none⟩ b) := by
  obtain ⟨h1, h2, h3, h4⟩ := h
  refine ⟨set_block2 _ _ _ _ _ _ _ h1 hd, ?_, below_set (below_set h3 (by show w.heap.size ≤ g; omega)) (by show w.heap.size ≤ g; omega), ?_⟩
  · rw [Below.heap_setCell _ ⟨g, i + 1, none⟩ _ _ (show g + 1 ≠ g by omega), Below.heap_setCell _ ⟨g, i, none⟩ _ _ (show g + 1 ≠ g by omega)]
    exact h2
  · simpa [World.setCell] using h4

theorem Held8.below {g : Nat} {X : Nat → Int × Int} {w wr w1 : World} (hgw : g = w.heap.size) (h : Held8 g X w wr) (hb : Below wr.heap.size wr w1) : Held8 g X w w1 := by
  obtain ⟨h1, h2, h3, h4⟩ := h
  have := hb.size
  exact ⟨(hb.block g (by omega)).trans h1, (hb.block (g + 1) (by omega)).trans h2, below_step h3 hb, by omega⟩

set_option maxHeartbeats 4000000 in
theorem rTurn_any (X : Nat → Int × Int) (hX : ∀ k, k < 4 → fit62 (X k)) (n : Int) (w : World) :
    Calls Try.prog 22 #[.agg (cells8 X), .int .i64 n] w
      fun e w' => e = .returned (.agg (cells8 (fun k => turnI (X k).1 (X k).2 ((-(-(k : Int) * Int.tmod n 4)) % 4)))) ∧ Below w.heap.size w w' := by
  have hu41 := Try.underlying41
  have hu42 := Try.underlying42
  obtain ⟨m, hm⟩ : ∃ m, Int.tmod n 4 = m := ⟨_, rfl⟩
  have m1 : -4 < m := by rw [← hm]; exact Int.lt_tmod_of_pos n (by decide)
  have m2 : m < 4 := by rw [← hm]; exact Int.tmod_lt_of_pos n (by decide)
  unfold cells8
  go_enter Try.func22, Try.ntmps22
  go_wp2
  go_loopw [5] (fun v wr => ∃ k : Nat, k ≤ 4 ∧ v = .int .i64 k ∧ Held8 w.heap.size (fun j => if j < k then turnI (X j).1 (X j).2 ((-(-(j : Int) * m)) % 4) else X j) w wr) (fun v _ => 4 - (intOf v).toNat)
  case atStart =>
    refine ⟨0, by omega, rfl, ?_, ?_, ?_, ?_⟩
    · rw [heap_alloc_old _ _ (by simp)]
      exact heap_alloc_new w _
    · have := heap_alloc_new (w.alloc (.cells (cells8 X) 42)) (.cells zero8 42)
      rwa [World.size_alloc] at this
    · exact below_alloc (below_alloc (Below.refl _ _) _) _
    · simp
  case round =>
    obtain ⟨k, hk, rfl, h1, h2, h3, h4⟩ := hrel
    rcases (by omega : k = 0 ∨ k = 1 ∨ k = 2 ∨ k = 3 ∨ k = 4) with rfl | rfl | rfl | rfl | rfl
    · have hh : Held8 w.heap.size (fun j => if j < 0 then turnI (X j).1 (X j).2 ((-(-(j : Int) * m)) % 4) else X j) w wr := ⟨h1, h2, h3, h4⟩
      have HH := Lib.hid hh
      clear hh
      have c0 : wr.cell? ⟨w.heap.size, 0, none⟩ = some (.int .i64 (X 0).1) := by rw [Joins.cell_of_block h1]; rfl
      have c1 : wr.cell? ⟨w.heap.size, 1, none⟩ = some (.int .i64 (X 0).2) := by rw [Joins.cell_of_block h1]; rfl
      have hx := hX 0 (by decide)
      clear h1 h2 h3 h4
      go_wp2_with (go_at_call 29; refine (rturn_any _ _ _ hx.1 hx.2 _).mono ?_; rintro e w1 ⟨rfl, hb⟩; have HS := Lib.hid (Held8.below rfl HH.out hb); have f0 : w1.frozen? ⟨w.heap.size, 0, none⟩ = false := Joins.unfrozen_of_block HS.out.1 0; have f1 : w1.frozen? ⟨w.heap.size, 1, none⟩ = false := Joins.unfrozen_of_block HS.out.1 1; have d0 : w1.cell? ⟨w.heap.size, 0, none⟩ = some (.int .i64 (X 0).1) := (by rw [Joins.cell_of_block HS.out.1]; rfl); have d1 : w1.cell? ⟨w.heap.size, 1, none⟩ = some (.int .i64 (X 0).2) := (by rw [Joins.cell_of_block HS.out.1]; rfl))
      go_roundw
      case rel => exact ⟨1, by omega, rfl, Held8.store rfl HS.out 0 _ _ (by simp [cells8])⟩
      case measure => simp [intOf]
    · have hh : Held8 w.heap.size (fun j => if j < 1 then turnI (X j).1 (X j).2 ((-(-(j : Int) * m)) % 4) else X j) w wr := ⟨h1, h2, h3, h4⟩
      have HH := Lib.hid hh
      clear hh
      have c0 : wr.cell? ⟨w.heap.size, 2, none⟩ = some (.int .i64 (X 1).1) := by rw [Joins.cell_of_block h1]; rfl
      have c1 : wr.cell? ⟨w.heap.size, 3, none⟩ = some (.int .i64 (X 1).2) := by rw [Joins.cell_of_block h1]; rfl
      have hx := hX 1 (by decide)
      clear h1 h2 h3 h4
      go_wp2_with (go_at_call 29; refine (rturn_any _ _ _ hx.1 hx.2 _).mono ?_; rintro e w1 ⟨rfl, hb⟩; have HS := Lib.hid (Held8.below rfl HH.out hb); have f0 : w1.frozen? ⟨w.heap.size, 2, none⟩ = false := Joins.unfrozen_of_block HS.out.1 2; have f1 : w1.frozen? ⟨w.heap.size, 3, none⟩ = false := Joins.unfrozen_of_block HS.out.1 3; have d0 : w1.cell? ⟨w.heap.size, 2, none⟩ = some (.int .i64 (X 1).1) := (by rw [Joins.cell_of_block HS.out.1]; rfl); have d1 : w1.cell? ⟨w.heap.size, 3, none⟩ = some (.int .i64 (X 1).2) := (by rw [Joins.cell_of_block HS.out.1]; rfl))
      go_roundw
      case rel => exact ⟨2, by omega, rfl, Held8.store rfl HS.out 2 _ _ (by simp [cells8])⟩
      case measure => simp [intOf]
    · have hh : Held8 w.heap.size (fun j => if j < 2 then turnI (X j).1 (X j).2 ((-(-(j : Int) * m)) % 4) else X j) w wr := ⟨h1, h2, h3, h4⟩
      have HH := Lib.hid hh
      clear hh
      have c0 : wr.cell? ⟨w.heap.size, 4, none⟩ = some (.int .i64 (X 2).1) := by rw [Joins.cell_of_block h1]; rfl
      have c1 : wr.cell? ⟨w.heap.size, 5, none⟩ = some (.int .i64 (X 2).2) := by rw [Joins.cell_of_block h1]; rfl
      have hx := hX 2 (by decide)
      clear h1 h2 h3 h4
      go_wp2_with (go_at_call 29; refine (rturn_any _ _ _ hx.1 hx.2 _).mono ?_; rintro e w1 ⟨rfl, hb⟩; have HS := Lib.hid (Held8.below rfl HH.out hb); have f0 : w1.frozen? ⟨w.heap.size, 4, none⟩ = false := Joins.unfrozen_of_block HS.out.1 4; have f1 : w1.frozen? ⟨w.heap.size, 5, none⟩ = false := Joins.unfrozen_of_block HS.out.1 5; have d0 : w1.cell? ⟨w.heap.size, 4, none⟩ = some (.int .i64 (X 2).1) := (by rw [Joins.cell_of_block HS.out.1]; rfl); have d1 : w1.cell? ⟨w.heap.size, 5, none⟩ = some (.int .i64 (X 2).2) := (by rw [Joins.cell_of_block HS.out.1]; rfl))
      go_roundw
      case rel => exact ⟨3, by omega, rfl, Held8.store rfl HS.out 4 _ _ (by simp [cells8])⟩
      case measure => simp [intOf]
    · have hh : Held8 w.heap.size (fun j => if j < 3 then turnI (X j).1 (X j).2 ((-(-(j : Int) * m)) % 4) else X j) w wr := ⟨h1, h2, h3, h4⟩
      have HH := Lib.hid hh
      clear hh
      have c0 : wr.cell? ⟨w.heap.size, 6, none⟩ = some (.int .i64 (X 3).1) := by rw [Joins.cell_of_block h1]; rfl
      have c1 : wr.cell? ⟨w.heap.size, 7, none⟩ = some (.int .i64 (X 3).2) := by rw [Joins.cell_of_block h1]; rfl
      have hx := hX 3 (by decide)
      clear h1 h2 h3 h4
      go_wp2_with (go_at_call 29; refine (rturn_any _ _ _ hx.1 hx.2 _).mono ?_; rintro e w1 ⟨rfl, hb⟩; have HS := Lib.hid (Held8.below rfl HH.out hb); have f0 : w1.frozen? ⟨w.heap.size, 6, none⟩ = false := Joins.unfrozen_of_block HS.out.1 6; have f1 : w1.frozen? ⟨w.heap.size, 7, none⟩ = false := Joins.unfrozen_of_block HS.out.1 7; have d0 : w1.cell? ⟨w.heap.size, 6, none⟩ = some (.int .i64 (X 3).1) := (by rw [Joins.cell_of_block HS.out.1]; rfl); have d1 : w1.cell? ⟨w.heap.size, 7, none⟩ = some (.int .i64 (X 3).2) := (by rw [Joins.cell_of_block HS.out.1]; rfl))
      go_roundw
      case rel => exact ⟨4, by omega, rfl, Held8.store rfl HS.out 6 _ _ (by simp [cells8])⟩
      case measure => simp [intOf]
    · obtain ⟨Y, hY⟩ : ∃ Y : Nat → Int × Int, Y = (fun j => if j < 4 then turnI (X j).1 (X j).2 ((-(-(j : Int) * m)) % 4) else X j) := ⟨_, rfl⟩
      rw [← hY] at h1
      have hsz : (Try.prog.info? 42).map (·.size) = some (cells8 Y).size := by show _ = some 8; kernel_rfl
      have hone : (cells8 Y).all (·.oneCell') = true := by simp [cells8, Value.oneCell']
      have hold : zero8.size = (cells8 Y).size := rfl
      have HY := Lib.hid hY
      clear hY
      go_wp2_with (first | (refine wpList_load_row rfl 42 _ rfl (w.heap.size) rfl 42 _ (0, 0) _ h1 Try.underlying42 rfl hsz ?_) | (refine wpList_store_row rfl 42 _ _ rfl (w.heap.size + 1) (cells8 Y) rfl rfl 42 _ h2 hsz hold hone ?_))
      refine bodyPost_ret (v := .agg (cells8 Y)) ?_ rfl ⟨?_, ?_⟩
      · exact results_cell_row rfl _ _ (w.heap.size + 1) 42 (cells8 Y) (0, 0) _ rfl (setRow_heap wr _ _ _ _ _ h2) Try.underlying42 rfl hsz
      · rw [HY.out, hm]
        simp [cells8]
      · exact below_setRow h3 (by omega) _

end Go.Proofs.Ytfbifmgaehgcmaa.Own
