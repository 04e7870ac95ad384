/- The reference's Spectrum. -/
import Derived.Test.YtfbifmgaehgcmaaRefT
import Derived.Deep.RegionWith
namespace Go.Proofs.Ytfbifmgaehgcmaa.Own
open Go.RowKit Go.Proofs.Ytfbifmgaehgcmaa.PX Go.Proofs.YtfbifmgaehgcmaaW.PrintWords

/-- Behind each round: the boxed numbers, the result's cells, four parts. -/
def HeldS (g : Nat) (A : Array Value) (X : Nat → Int × Int) (w wr : World) : Prop :=
  wr.heap[g]? = some (.cells A 22 (0, 0)) ∧ wr.heap[g + 1]? = some (.cells zero8 42 (0, 0)) ∧ wr.heap[g + 1 + 1]? = some (.cells (cells8 X) 42 (0, 0)) ∧ Below g w wr ∧ g + 1 + 1 < wr.heap.size

theorem cells8_congr {X Y : Nat → Int × Int} (e : ∀ i, i < 4 → X i = Y i) : cells8 X = cells8 Y := by
  unfold cells8
  rw [e 0 (by decide), e 1 (by decide), e 2 (by decide), e 3 (by decide)]

theorem HeldS.congr {g : Nat} {A : Array Value} {X Y : Nat → Int × Int} {w wr : World} (h : HeldS g A X w wr) (e : ∀ i, i < 4 → X i = Y i) : HeldS g A Y w wr := by
  obtain ⟨h1, h2, h3, h4⟩ := h
  exact ⟨h1, h2, by rw [← cells8_congr e]; exact h3, h4⟩

theorem HeldS.below {g : Nat} {A : Array Value} {X : Nat → Int × Int} {w wr w1 : World} (h : HeldS g A X w wr) (hb : Below wr.heap.size wr w1) : HeldS g A X w w1 := by
  obtain ⟨h1, h2, h3, h4, h5⟩ := h
  have := hb.size
  exact ⟨(hb.block g (by omega)).trans h1, (hb.block (g + 1) (by omega)).trans h2, (hb.block (g + 1 + 1) (by omega)).trans h3, h4.trans (hb.mono (by omega)), by omega⟩

theorem cells8_set (X : Nat → Int × Int) (k : Nat) (hk : k < 4) (a b : Int) : ((cells8 X).setIfInBounds (k * 2) (.int .i64 a)).setIfInBounds (k * 2 + 1) (.int .i64 b) = cells8 (fun i => if i = k then (a, b) else X i) := by
  rcases (by omega : k = 0 ∨ k = 1 ∨ k = 2 ∨ k = 3) with rfl | rfl | rfl | rfl <;> simp [cells8]

theorem cells8_get (X : Nat → Int × Int) (k : Nat) (hk : k < 4) : (cells8 X)[k * 2]? = some (.int .i64 (X k).1) ∧ (cells8 X)[k * 2 + 1]? = some (.int .i64 (X k).2) := by
  rcases (by omega : k = 0 ∨ k = 1 ∨ k = 2 ∨ k = 3) with rfl | rfl | rfl | rfl <;> exact ⟨rfl, rfl⟩

theorem HeldS.store {g : Nat} {A : Array Value} {X : Nat → Int × Int} {w wr : World} (h : HeldS g A X w wr) (k : Nat) (hk : k < 4) (a b : Int) :
    HeldS g A (fun i => if i = k then (a, b) else X i) w ((wr.setCell ⟨g + 1 + 1, k * 2, none⟩ (.int .i64 a)).setCell ⟨g + 1 + 1, k * 2 + 1, none⟩ (.int .i64 b)) := by
  obtain ⟨h1, h2, h3, h4, h5⟩ := h
  refine ⟨?_, ?_, set_block2 _ _ _ _ _ _ _ h3 (cells8_set X k hk a b), (h4.setCell (by simp; omega) _).setCell (by simp; omega) _, ?_⟩
  · rw [heap_setCell_other _ _ _ _ (by simp; omega), heap_setCell_other _ _ _ _ (by simp; omega)]; exact h1
  · rw [heap_setCell_other _ _ _ _ (by simp), heap_setCell_other _ _ _ _ (by simp)]; exact h2
  · simpa [World.setCell] using h5

theorem HeldS.start (w : World) (A : Array Value) : HeldS w.heap.size A (fun _ => (0, 0)) w (((w.alloc (.cells A 22)).alloc (.cells zero8 42)).alloc (.cells zero8 42)) := by
  refine ⟨?_, ?_, ?_, ?_, ?_⟩
  · rw [heap_alloc_old _ _ (by simp; omega), heap_alloc_old _ _ (by simp)]; exact heap_alloc_new w _
  · rw [heap_alloc_old _ _ (by simp)]
    have := heap_alloc_new (w.alloc (.cells A 22)) (.cells zero8 42)
    rwa [World.size_alloc] at this
  · have := heap_alloc_new ((w.alloc (.cells A 22)).alloc (.cells zero8 42)) (.cells zero8 42)
    rwa [World.size_alloc, World.size_alloc] at this
  · exact (((Below.refl _ _).alloc (Nat.le_refl _) _).alloc (by simp) _).alloc (by simp; omega) _
  · simp

set_option maxHeartbeats 4000000 in
theorem rspectrum_any (n0 n1 n2 n3 : Int) (w : World) (hn : ∀ j, -17592186044416 ≤ q4 n0 n1 n2 n3 j ∧ q4 n0 n1 n2 n3 j ≤ 17592186044416) :
    Calls Try.prog 16 #[.agg #[.int .i64 n0, .int .i64 n1, .int .i64 n2, .int .i64 n3]] w
      fun e w' => e = .returned (.agg (cells8 (fun k => psum (q4 n0 n1 n2 n3) k 4))) ∧ Below w.heap.size w w' := by
  have hu41 := Try.underlying41
  have hu42 := Try.underlying42
  obtain ⟨A, hA⟩ : ∃ A : Array Value, #[Value.int .i64 n0, Value.int .i64 n1, Value.int .i64 n2, Value.int .i64 n3] = A := ⟨_, rfl⟩
  obtain ⟨L, hL⟩ : ∃ L, q4 n0 n1 n2 n3 = L := ⟨_, rfl⟩
  have hidx : ∀ (j : Nat), j < 4 → A[j]? = some (.int .i64 (L j)) := by
    intro j hj
    subst hA hL
    rcases (by omega : j = 0 ∨ j = 1 ∨ j = 2 ∨ j = 3) with rfl | rfl | rfl | rfl <;> rfl
  rw [hL] at hn ⊢
  have hAs : A.size = 4 := by subst hA; rfl
  go_enter Try.func16, Try.ntmps16
  go_wp2
  rw [hA]
  clear hL hA
  go_loopw [4] (fun v wr => ∃ k : Nat, k ≤ 4 ∧ v = .int .i64 k ∧ HeldS w.heap.size A (sofar L k 0) w wr) (fun v _ => 4 - (intOf v).toNat)
  case atStart => exact ⟨0, by omega, rfl, (HeldS.start w A).congr fun i _ => by rw [sofar_start, if_neg (by omega)]⟩
  case round =>
    obtain ⟨k, hk, rfl, hh⟩ := hrel
    by_cases hlt : k < 4
    · have K0 : (0 : Int) ≤ (k : Int) := by omega
      have K1 : (k : Int) < 4 := by omega
      go_wp2_with fail
      obtain ⟨wo, rfl⟩ : ∃ wo : World, wo = wr := ⟨_, rfl⟩
      go_loopw [5] (fun v wr => ∃ j : Nat, j ≤ 4 ∧ v = .int .i64 j ∧ HeldS w.heap.size A (sofar L k j) w wr) (fun v _ => 4 - (intOf v).toNat)
      case atStart => exact ⟨0, by omega, rfl, hh⟩
      case round =>
        clear hh
        obtain ⟨j, hj, rfl, hh⟩ := hrel
        by_cases hjt : j < 4
        · obtain ⟨h1, h2, h3, h4, h5⟩ := hh
          have hh : HeldS w.heap.size A (sofar L k j) w wr := ⟨h1, h2, h3, h4, h5⟩
          have hX : sofar L k j k = psum L k j := by unfold sofar; rw [if_neg (by omega), if_pos rfl]
          have hc := cells8_get (sofar L k j) k hlt
          rw [hX] at hc
          have hLj := hn j
          have pb := psum_bound L k 17592186044416 hn (by omega) j
          have tb := turnI_bound (L j) 0 (((j * k : Nat) : Int) % 4) 17592186044416 hLj (by omega)
          have hjb : (j : Int) * 17592186044416 ≤ 70368744177664 := by omega
          have c0 : wr.cell? ⟨w.heap.size + 1 + 1, k * 2, none⟩ = some (.int .i64 (psum L k j).1) := by rw [Joins.cell_of_block h3]; exact hc.1
          have c1 : wr.cell? ⟨w.heap.size + 1 + 1, k * 2 + 1, none⟩ = some (.int .i64 (psum L k j).2) := by rw [Joins.cell_of_block h3]; exact hc.2
          have cA : wr.cell? ⟨w.heap.size, j, none⟩ = some (.int .i64 (L j)) := by rw [Joins.cell_of_block h1]; exact hidx j hjt
          have HH := Lib.hid hh
          have J0 : (0 : Int) ≤ (j : Int) := by omega
          have J1 : (j : Int) < 4 := by omega
          have hwr : IntKind.i64.wrap (IntKind.i64.wrap (-(j : Int)) * (k : Int)) = -((j * k : Nat) : Int) := by
            rw [IntWalk.i64_in (-(j : Int)) ⟨by omega, by omega⟩]
            have : j * k ≤ 3 * 3 := Nat.mul_le_mul (by omega) (by omega)
            have e : -(j : Int) * (k : Int) = -((j * k : Nat) : Int) := by rw [Int.natCast_mul, Int.neg_mul]
            rw [e]
            exact IntWalk.i64_in _ ⟨by omega, by omega⟩
          have hturn : ∀ w : World, Calls Try.prog 29 #[.agg #[.int .i64 (L j), .int .i64 0], .int .i64 (IntKind.i64.wrap (IntKind.i64.wrap (-(j : Int)) * (k : Int)))] w fun e w' => e = .returned (.agg #[.int .i64 (turnI (L j) 0 (((j * k : Nat) : Int) % 4)).1, .int .i64 (turnI (L j) 0 (((j * k : Nat) : Int) % 4)).2]) ∧ Below w.heap.size w w' := fun w => by
            have := rturn_any (L j) 0 (-((j * k : Nat) : Int)) (by omega) (by omega) w
            rw [Int.neg_neg] at this
            rw [hwr]
            exact this
          obtain ⟨u, hu⟩ : ∃ u, turnI (L j) 0 (((j * k : Nat) : Int) % 4) = u := ⟨_, rfl⟩
          obtain ⟨s, hs⟩ : ∃ s, psum L k j = s := ⟨_, rfl⟩
          have hnext : psum L k (j + 1) = (s.1 + u.1, s.2 + u.2) := by rw [← hs, ← hu]; rfl
          rw [hu] at hturn tb
          rw [hs] at pb c0 c1 hc
          have hc8 := hc
          have hplus := fun w => rplus_any s.1 s.2 u.1 u.2 (by omega) (by omega) w
          have HNX := Lib.hid hnext
          clear h1 h2 h3 h4 h5 hc hh hnext hu hs hX hwr tb pb hjb hLj
          have hch : HeldS w.heap.size A (sofar L k j) w wr.drew := HH.out.below (Below.refl _ _).drew
          have HC := Lib.hid hch
          clear hch HH
          go_wp2_with fail
          go_region_with (first
            | (go_at_call 29; refine (hturn _).mono ?_; rintro e w' ⟨rfl, hb⟩; replace HC := Lib.hid (HC.out.below hb); have d0 : w'.cell? ⟨w.heap.size + 1 + 1, k * 2, none⟩ = some (.int .i64 s.1) := (by rw [Joins.cell_of_block HC.out.2.2.1]; exact hc8.1); have d1 : w'.cell? ⟨w.heap.size + 1 + 1, k * 2 + 1, none⟩ = some (.int .i64 s.2) := (by rw [Joins.cell_of_block HC.out.2.2.1]; exact hc8.2))
            | (go_at_call 28; refine (hplus _).mono ?_; rintro e w'' ⟨rfl, hb2⟩; replace HC := Lib.hid (HC.out.below hb2); have f0 : w''.frozen? ⟨w.heap.size + 1 + 1, k * 2, none⟩ = false := Joins.unfrozen_of_block HC.out.2.2.1 (k * 2); have f1 : w''.frozen? ⟨w.heap.size + 1 + 1, k * 2 + 1, none⟩ = false := Joins.unfrozen_of_block HC.out.2.2.1 (k * 2 + 1); have d0 : w''.cell? ⟨w.heap.size + 1 + 1, k * 2, none⟩ = some (.int .i64 s.1) := (by rw [Joins.cell_of_block HC.out.2.2.1]; exact hc8.1); have d1 : w''.cell? ⟨w.heap.size + 1 + 1, k * 2 + 1, none⟩ = some (.int .i64 s.2) := (by rw [Joins.cell_of_block HC.out.2.2.1]; exact hc8.2)))
          all_goals
            have hnew := Lib.hid ((HeldS.store HC.out k hlt (s.1 + u.1) (s.2 + u.2)).congr (Y := sofar L k (j + 1)) fun i hi4 => by
              unfold sofar
              by_cases e1 : i = k
              · subst e1
                rw [if_pos rfl, if_neg (by omega), if_pos rfl, HNX.out]
              · rw [if_neg e1, if_neg e1, if_neg e1])
            clear HC HNX hturn hplus hc8 hb hb2
            go_wp2
            go_roundw
            case rel => exact ⟨j + 1, by omega, by go_num, hnew.out⟩
            case measure => simp [intOf]; omega
        · have e4 : j = 4 := by omega
          subst e4
          go_wp2
          go_roundw
          case rel => exact ⟨k + 1, by omega, by go_num, hh.congr fun i _ => sofar_end L k i⟩
          case measure => simp [intOf]; omega
    · have e4 : k = 4 := by omega
      subst e4
      obtain ⟨h1, h2, h3, h4, h5⟩ := hh
      obtain ⟨Y, hY⟩ : ∃ Y : Nat → Int × Int, Y = sofar L 4 0 := ⟨_, rfl⟩
      rw [← hY] at h3
      have hsz : (Try.prog.info? 42).map (·.size) = some (cells8 Y).size := by show _ = some 8; kernel_rfl
      have hone : (cells8 Y).all (·.oneCell') = true := by simp [cells8, Value.oneCell']
      have hold : zero8.size = (cells8 Y).size := rfl
      have HY := Lib.hid hY
      clear hY
      go_wp2_with (first | (refine wpList_load_row rfl 42 _ rfl (w.heap.size + 1 + 1) rfl 42 _ (0, 0) _ h3 Try.underlying42 rfl hsz ?_) | (refine wpList_store_row rfl 42 _ _ rfl (w.heap.size + 1) (cells8 Y) rfl rfl 42 _ h2 hsz hold hone ?_))
      refine bodyPost_ret (v := .agg (cells8 Y)) ?_ rfl ⟨?_, ?_⟩
      · exact results_cell_row rfl _ _ (w.heap.size + 1) 42 (cells8 Y) (0, 0) _ rfl (setRow_heap wr _ _ _ _ _ h2) Try.underlying42 rfl hsz
      · rw [HY.out]
        exact congrArg (fun c => Ending.returned (.agg c)) (cells8_congr fun i hi => by rw [sofar_start, if_pos hi])
      · exact below_setRow h4 (by omega) _

end Go.Proofs.Ytfbifmgaehgcmaa.Own
