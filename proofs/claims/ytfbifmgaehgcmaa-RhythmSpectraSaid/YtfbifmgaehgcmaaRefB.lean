/- The reference's Back. -/
import Derived.Test.YtfbifmgaehgcmaaRefS
import Derived.Test.YtfbifmgaehgcmaaBack
namespace Go.Proofs.Ytfbifmgaehgcmaa.Own
open Go.RowKit Go.Proofs.Ytfbifmgaehgcmaa.PX Go.Proofs.YtfbifmgaehgcmaaW.PrintWords

/-- Behind each round of the reference's Back. -/
def HeldR (g : Nat) (X : Nat → Int × Int) (C : Nat → Int) (w wr : World) : Prop :=
  wr.heap[g]? = some (.cells (cells8 X) 42 (0, 0)) ∧ wr.heap[g + 1]? = some (.cells #[.int .i64 0, .int .i64 0, .int .i64 0, .int .i64 0] 22 (0, 0)) ∧
    (∃ cs, wr.heap[g + 1 + 1]? = some (.cells cs 22 (0, 0)) ∧ RowI C cs) ∧ Below g w wr ∧ g + 1 + 1 < wr.heap.size

theorem HeldR.congr {g : Nat} {X : Nat → Int × Int} {C D : Nat → Int} {w wr : World} (h : HeldR g X C w wr) (e : ∀ i, i < 4 → C i = D i) : HeldR g X D w wr :=
  ⟨h.1, h.2.1, by obtain ⟨cs, h1, h2⟩ := h.2.2.1; exact ⟨cs, h1, h2.congr e⟩, h.2.2.2⟩

theorem HeldR.below {g : Nat} {X : Nat → Int × Int} {C : Nat → Int} {w wr w1 : World} (h : HeldR g X C w wr) {N : Nat} (hb : Below N wr w1) (hN : g + 1 + 1 < N) : HeldR g X C w w1 := by
  obtain ⟨h1, h2, ⟨cs, h3, h4⟩, h5, h6⟩ := h
  have := hb.size
  exact ⟨(hb.block g (by omega)).trans h1, (hb.block (g + 1) (by omega)).trans h2, ⟨cs, (hb.block (g + 1 + 1) (by omega)).trans h3, h4⟩, h5.trans (hb.mono (by omega)), by omega⟩

theorem HeldR.store {g : Nat} {X : Nat → Int × Int} {C : Nat → Int} {w wr : World} (h : HeldR g X C w wr) (k : Nat) (hk : k < 4) (x : Int) :
    HeldR g X (fun i => if i = k then x else C i) w (wr.setCell ⟨g + 1 + 1, k, none⟩ (.int .i64 x)) := by
  obtain ⟨h1, h2, ⟨cs, h3, h4⟩, h5, h6⟩ := h
  refine ⟨?_, ?_, ⟨_, Joins.block_setCell h3 _, h4.set k x hk⟩, h5.setCell (by simp; omega) _, ?_⟩
  · rw [heap_setCell_other _ _ _ _ (by simp; omega)]; exact h1
  · rw [heap_setCell_other _ _ _ _ (by simp)]; exact h2
  · simpa [World.setCell] using h6

theorem HeldR.start (w : World) (X : Nat → Int × Int) : HeldR w.heap.size X (fun _ => 0) w
    (((w.alloc (.cells (cells8 X) 42)).alloc (.cells #[.int .i64 0, .int .i64 0, .int .i64 0, .int .i64 0] 22)).alloc (.cells #[.int .i64 0, .int .i64 0, .int .i64 0, .int .i64 0] 22)) := by
  refine ⟨?_, ?_, ⟨_, ?_, (rowI_of 0 0 0 0).congr fun i hi => by rcases (by omega : i = 0 ∨ i = 1 ∨ i = 2 ∨ i = 3) with rfl | rfl | rfl | rfl <;> rfl⟩, ?_, ?_⟩
  · rw [heap_alloc_old _ _ (by simp; omega), heap_alloc_old _ _ (by simp)]; exact heap_alloc_new w _
  · rw [heap_alloc_old _ _ (by simp)]
    have := heap_alloc_new (w.alloc (.cells (cells8 X) 42)) (.cells #[.int .i64 0, .int .i64 0, .int .i64 0, .int .i64 0] 22)
    rwa [World.size_alloc] at this
  · have := heap_alloc_new ((w.alloc (.cells (cells8 X) 42)).alloc (.cells #[.int .i64 0, .int .i64 0, .int .i64 0, .int .i64 0] 22)) (.cells #[.int .i64 0, .int .i64 0, .int .i64 0, .int .i64 0] 22)
    rwa [World.size_alloc, World.size_alloc] at this
  · exact (((Below.refl _ _).alloc (Nat.le_refl _) _).alloc (by simp) _).alloc (by simp; omega) _
  · simp

/-- A part in a block of its own. -/
def PartAt (B : Nat) (s : Int × Int) (wr : World) : Prop := wr.heap[B]? = some (.cells #[.int .i64 s.1, .int .i64 s.2] 41 (0, 0)) ∧ B < wr.heap.size

theorem PartAt.below {B : Nat} {s : Int × Int} {wr w1 : World} (h : PartAt B s wr) (hb : Below wr.heap.size wr w1) : PartAt B s w1 := by
  have := hb.size
  exact ⟨(hb.block B h.2).trans h.1, by have := h.2; omega⟩

theorem PartAt.store {B : Nat} {s : Int × Int} {wr : World} (h : PartAt B s wr) (a b : Int) : PartAt B (a, b) ((wr.setCell ⟨B, 0, none⟩ (.int .i64 a)).setCell ⟨B, 1, none⟩ (.int .i64 b)) := by
  refine ⟨?_, by simpa [World.setCell] using h.2⟩
  have h1 := set_block wr B 0 _ _ _ (.int .i64 a) h.1
  exact set_block _ B 1 _ _ _ (.int .i64 b) h1

theorem below_two {B : Nat} (w : World) (a b : Value) : Below B w ((w.setCell ⟨B, 0, none⟩ a).setCell ⟨B, 1, none⟩ b) := by
  refine Below.setCell (Below.setCell (Below.refl B w) ?_ a) ?_ b <;> exact Nat.le_refl B

set_option maxHeartbeats 4000000 in
theorem rback_any (X : Nat → Int × Int) (hX : ∀ k, k < 4 → (-70368744177664 ≤ (X k).1 ∧ (X k).1 ≤ 70368744177664) ∧ (-70368744177664 ≤ (X k).2 ∧ (X k).2 ≤ 70368744177664)) (w : World) :
    Calls Try.prog 19 #[.agg (cells8 X)] w fun e w' => BackIs X e ∧ Below w.heap.size w w' := by
  have hu41 := Try.underlying41
  have hu42 := Try.underlying42
  unfold cells8
  go_enter Try.func19, Try.ntmps19
  have HXb := Lib.hid hX
  clear hX
  go_wp2
  go_loopw [5] (fun v wr => ∃ j : Nat, j ≤ 4 ∧ v = .int .i64 j ∧ (∀ i, i < j → Good X i) ∧ HeldR w.heap.size X (fun i => if i < j then (bsum X i 4).1.tdiv 4 else 0) w wr) (fun v _ => 4 - (intOf v).toNat)
  case atStart => exact ⟨0, by omega, rfl, fun i hi => by omega, (HeldR.start w X).congr fun i _ => by rw [if_neg (by omega)]⟩
  case round =>
    obtain ⟨j, hj, rfl, hgood, hh⟩ := hrel
    by_cases hlt : j < 4
    · have J0 : (0 : Int) ≤ (j : Int) := by omega
      have J1 : (j : Int) < 4 := by omega
      go_wp2_with fail
      have hz := hh.2.2.2.2
      have hst : PartAt wr.heap.size (0, 0) (wr.alloc (.cells #[Value.int .i64 0, Value.int .i64 0] 41)) := ⟨heap_alloc_new wr _, by simp⟩
      have hh1 : HeldR w.heap.size X (fun i => if i < j then (bsum X i 4).1.tdiv 4 else 0) w (wr.alloc (.cells #[Value.int .i64 0, Value.int .i64 0] 41)) := hh.below ((Below.refl _ _).alloc (Nat.le_refl _) _) hz
      clear hh
      generalize wr.alloc (.cells #[Value.int .i64 0, Value.int .i64 0] 41) = wo at *
      obtain ⟨B, hB⟩ : ∃ B, wr.heap.size = B := ⟨_, rfl⟩
      rw [hB] at hst hz ⊢
      clear hB
      have HG := Lib.hid hgood
      clear hgood
      go_loopw [7] (fun v wr => ∃ k : Nat, k ≤ 4 ∧ v = .int .i64 k ∧ HeldR w.heap.size X (fun i => if i < j then (bsum X i 4).1.tdiv 4 else 0) w wr ∧ PartAt B (bsum X j k) wr) (fun v _ => 4 - (intOf v).toNat)
      case atStart => exact ⟨0, by omega, rfl, hh1, hst⟩
      case round =>
        clear hh1 hst
        obtain ⟨k, hk, rfl, hh, hp⟩ := hrel
        have bb := bsum_bound X j 70368744177664 HXb.out k hk
        by_cases hkt : k < 4
        · have tb := turnI_bound (X k).1 (X k).2 ((-(j : Int) * (k : Int)) % 4) 70368744177664 (HXb.out k hkt).1 (HXb.out k hkt).2
          have kb : (k : Int) * 70368744177664 ≤ 281474976710656 := by omega
          have hXk := HXb.out k hkt
          have hc8 := cells8_get X k hkt
          have hwr : IntKind.i64.wrap ((j : Int) * (k : Int)) = ((j * k : Nat) : Int) := by
            rw [← Int.natCast_mul]
            have : j * k ≤ 3 * 3 := Nat.mul_le_mul (by omega) (by omega)
            exact IntWalk.i64_in _ ⟨by omega, by omega⟩
          have hturn : ∀ w : World, Calls Try.prog 29 #[.agg #[.int .i64 (X k).1, .int .i64 (X k).2], .int .i64 (IntKind.i64.wrap ((j : Int) * (k : Int)))] w fun e w' => e = .returned (.agg #[.int .i64 (turnI (X k).1 (X k).2 ((-(j : Int) * (k : Int)) % 4)).1, .int .i64 (turnI (X k).1 (X k).2 ((-(j : Int) * (k : Int)) % 4)).2]) ∧ Below w.heap.size w w' := fun w => by
            have := rturn_any (X k).1 (X k).2 ((j * k : Nat) : Int) (by omega) (by omega) w
            rw [hwr, Int.neg_mul, ← Int.natCast_mul]
            exact this
          obtain ⟨u, hu⟩ : ∃ u, turnI (X k).1 (X k).2 ((-(j : Int) * (k : Int)) % 4) = u := ⟨_, rfl⟩
          obtain ⟨s, hs⟩ : ∃ s, bsum X j k = s := ⟨_, rfl⟩
          have hnext : bsum X j (k + 1) = (s.1 + u.1, s.2 + u.2) := by rw [← hs, ← hu]; rfl
          rw [hu] at hturn tb
          rw [hs] at bb hp
          have hplus := fun w => rplus_any s.1 s.2 u.1 u.2 (by omega) (by omega) w
          have HNX := Lib.hid hnext
          have c0 : wr.cell? ⟨w.heap.size, k * 2, none⟩ = some (.int .i64 (X k).1) := by rw [Joins.cell_of_block hh.1]; exact hc8.1
          have c1 : wr.cell? ⟨w.heap.size, k * 2 + 1, none⟩ = some (.int .i64 (X k).2) := by rw [Joins.cell_of_block hh.1]; exact hc8.2
          have c2 : wr.cell? ⟨B, 0, none⟩ = some (.int .i64 s.1) := by rw [Joins.cell_of_block hp.1]; rfl
          have c3 : wr.cell? ⟨B, 1, none⟩ = some (.int .i64 s.2) := by rw [Joins.cell_of_block hp.1]; rfl
          have HH := Lib.hid (And.intro (hh.below (Below.refl _ _).drew hh.2.2.2.2) (hp.below (Below.refl _ _).drew))
          have K0 : (0 : Int) ≤ (k : Int) := by omega
          have K1 : (k : Int) < 4 := by omega
          clear hnext hu hs hwr tb bb kb hXk hh hp
          go_wp2_with fail
          go_region_with (first
            | (go_at_call 29; refine (hturn _).mono ?_; rintro e w' ⟨rfl, hb⟩; replace HH := Lib.hid (And.intro (HH.out.1.below hb HH.out.1.2.2.2.2) (HH.out.2.below hb)); have d2 : w'.cell? ⟨B, 0, none⟩ = some (.int .i64 s.1) := (by rw [Joins.cell_of_block HH.out.2.1]; rfl); have d3 : w'.cell? ⟨B, 1, none⟩ = some (.int .i64 s.2) := (by rw [Joins.cell_of_block HH.out.2.1]; rfl))
            | (go_at_call 28; refine (hplus _).mono ?_; rintro e w'' ⟨rfl, hb2⟩; replace HH := Lib.hid (And.intro (HH.out.1.below hb2 HH.out.1.2.2.2.2) (HH.out.2.below hb2)); have f0 : w''.frozen? ⟨B, 0, none⟩ = false := Joins.unfrozen_of_block HH.out.2.1 0; have f1 : w''.frozen? ⟨B, 1, none⟩ = false := Joins.unfrozen_of_block HH.out.2.1 1; have d2 : w''.cell? ⟨B, 0, none⟩ = some (.int .i64 s.1) := (by rw [Joins.cell_of_block HH.out.2.1]; rfl); have d3 : w''.cell? ⟨B, 1, none⟩ = some (.int .i64 s.2) := (by rw [Joins.cell_of_block HH.out.2.1]; rfl)))
          all_goals
            have hnew := Lib.hid (HH.out.1.below (below_two w'' (.int .i64 (s.1 + u.1)) (.int .i64 (s.2 + u.2))) hz)
            have hnew2 := Lib.hid (HH.out.2.store (s.1 + u.1) (s.2 + u.2))
            rw [← HNX.out] at hnew2
            clear HH HNX hturn hplus hb hb2
            go_wp2
            go_roundw
            case rel => exact ⟨k + 1, by omega, by go_num, hnew.out, hnew2.out⟩
            case measure => simp [intOf]; omega
        · have e4 : k = 4 := by omega
          subst e4
          obtain ⟨S, hS⟩ : ∃ S, (bsum X j 4).1 = S := ⟨_, rfl⟩
          obtain ⟨I, hI⟩ : ∃ I, (bsum X j 4).2 = I := ⟨_, rfl⟩
          have c2 : wr.cell? ⟨B, 0, none⟩ = some (.int .i64 S) := by rw [Joins.cell_of_block hp.1, ← hS]; rfl
          have c3 : wr.cell? ⟨B, 1, none⟩ = some (.int .i64 I) := by rw [Joins.cell_of_block hp.1, ← hI]; rfl
          have hgoodj : Good X j ↔ (I = 0 ∧ S % 4 = 0) := by unfold Good; rw [hS, hI]
          rw [hS] at bb
          have hsz2 : (Try.prog.info? 22).map (·.size) = some (#[Value.int .i64 0, .int .i64 0, .int .i64 0, .int .i64 0] : Array Value).size := by kernel_rfl
          have hq : -9223372036854775808 ≤ S.tdiv 4 ∧ S.tdiv 4 < 9223372036854775808 := by
            have h1 := Int.mul_tdiv_add_tmod S 4
            have h2 := Int.tmod_lt_of_pos S (show (0:Int) < 4 by decide)
            have h3 := Int.lt_tmod_of_pos S (show (0:Int) < 4 by decide)
            omega
          have hmod : S.tmod 4 = 0 ↔ S % 4 = 0 := by
            have h1 := Int.mul_tdiv_add_tmod S 4
            have h2 := Int.tmod_lt_of_pos S (show (0:Int) < 4 by decide)
            have h3 := Int.lt_tmod_of_pos S (show (0:Int) < 4 by decide)
            omega
          rw [← hmod] at hgoodj
          have HGJ := Lib.hid hgoodj
          have HHS := Lib.hid hS
          clear hS hI hgoodj bb hp hmod
          obtain ⟨q, hqq⟩ : ∃ q, S.tdiv 4 = q := ⟨_, rfl⟩
          obtain ⟨m, hmm⟩ : ∃ m, S.tmod 4 = m := ⟨_, rfl⟩
          rw [hqq] at hq
          rw [hmm] at HGJ
          have H6 := hh.2.2.2.1
          by_cases hI0 : I = 0
          · by_cases hS4 : m = 0
            · have hgj : Hid (Good X j) := HGJ.out.2 ⟨hI0, hS4⟩
              subst hI0 hS4
              clear HGJ
              obtain ⟨h1, h2, ⟨cs, h3, h4⟩, h5, h6⟩ := hh
              obtain ⟨u, hcell⟩ : ∃ u, wr.cell? ⟨w.heap.size + 1 + 1, j, none⟩ = some u := ⟨_, by rw [Joins.cell_of_block h3]; exact h4.2 j hlt⟩
              have hfz : wr.frozen? ⟨w.heap.size + 1 + 1, j, none⟩ = false := Joins.unfrozen_of_block h3 j
              have HN : Hid (HeldR w.heap.size X (fun i => if i < j + 1 then (bsum X i 4).1.tdiv 4 else 0) w (wr.setCell ⟨w.heap.size + 1 + 1, j, none⟩ (.int .i64 q))) := by
                refine (HeldR.store ⟨h1, h2, ⟨cs, h3, h4⟩, h5, h6⟩ j hlt q).congr fun i hi4 => ?_
                by_cases e1 : i = j
                · subst e1
                  rw [if_pos rfl, if_pos (by omega), HHS.out, hqq]
                · rw [if_neg e1]
                  by_cases e2 : i < j
                  · rw [if_pos e2, if_pos (by omega)]
                  · rw [if_neg e2, if_neg (by omega)]
              clear h1 h2 h3 h4 HHS hsz2 h5 H6 h6
              go_wp2
              refine ⟨⟨j + 1, by omega, by go_num, fun i hi => ?_, HN.out⟩, by simp [intOf]; omega⟩
              by_cases e1 : i = j
              · subst e1; exact hgj.out
              · exact HG.out i (by omega)
            · have hbad : Hid (∃ j, j < 4 ∧ ¬ Good X j) := ⟨j, hlt, fun h => hS4 (HGJ.out.1 h).2⟩
              subst hI0
              have h5 := hh.2.2.2.1
              obtain ⟨⟨z0, z1, z2, z3⟩, g0, g1, g2, g3⟩ := cells4_of hh.2.1
              have ZS := Lib.hid (zeros_set hh.2.1)
              clear HGJ HHS hh H6 hqq
              go_wp2
              refine bodyPost_ret (results_row_tmp rfl _ _ (w.heap.size + 1) 22 _ (0, 0) _ rfl ZS.out Try.underlying22 rfl hsz2) rfl ⟨.inr ⟨hbad, rfl⟩, (((h5.setCell (by simp) _).setCell (by simp) _).setCell (by simp) _).setCell (by simp) _⟩
          · have hbad : Hid (∃ j, j < 4 ∧ ¬ Good X j) := ⟨j, hlt, fun h => hI0 (HGJ.out.1 h).1⟩
            have h5 := hh.2.2.2.1
            obtain ⟨⟨z0, z1, z2, z3⟩, g0, g1, g2, g3⟩ := cells4_of hh.2.1
            have ZS := Lib.hid (zeros_set hh.2.1)
            clear HGJ HHS hh H6 hqq
            go_wp2
            refine bodyPost_ret (results_row_tmp rfl _ _ (w.heap.size + 1) 22 _ (0, 0) _ rfl ZS.out Try.underlying22 rfl hsz2) rfl ⟨.inr ⟨hbad, rfl⟩, (((h5.setCell (by simp) _).setCell (by simp) _).setCell (by simp) _).setCell (by simp) _⟩
    · have e4 : j = 4 := by omega
      subst e4
      obtain ⟨h1, h2, ⟨cs, h3, h4⟩, h5, h6⟩ := hh
      have hone : cs.all (·.oneCell') = true := h4.oneCell
      have hs4 : (Try.prog.info? 22).map (·.size) = some cs.size := by rw [h4.1]; kernel_rfl
      have hold : (#[Value.int .i64 0, .int .i64 0, .int .i64 0, .int .i64 0] : Array Value).size = cs.size := by rw [h4.1]; rfl
      have HG := Lib.hid hgood
      have H4 := Lib.hid h4
      clear hgood h4
      go_wp2_with (first | (refine wpList_load_row rfl 22 _ rfl (w.heap.size + 1 + 1) rfl 22 _ (0, 0) _ h3 Try.underlying22 rfl hs4 ?_) | (refine wpList_store_row rfl 22 _ _ rfl (w.heap.size + 1) cs rfl rfl 22 _ h2 hs4 hold hone ?_))
      refine bodyPost_ret (results_row_tmp rfl _ _ (w.heap.size + 1) 22 cs (0, 0) _ rfl (setRow_heap wr _ _ _ _ _ h2) Try.underlying22 rfl hs4) rfl ⟨.inl ⟨HG.out, cs, rfl, H4.out.congr fun i hi => by rw [if_pos hi]⟩, below_setRow h5 (by omega) _⟩

end Go.Proofs.Ytfbifmgaehgcmaa.Own
