/- Functions of the program and their walks, printed by a program. -/
import Derived.Test.YtohcjdninpjpgaaDoorCpolicyPolicyrule
import Derived.Test.YtohcjdninpjpgaaDoorCpolicyRule
import Derived.Test.YtohcjdninpjpgaaDoorCstringsJoin
import Derived.Test.YtohcjdninpjpgaaDoorCslicesClonestringstring
import Derived.Test.YtohcjdninpjpgaaDoorCpolicywords
import Derived.Test.YtohcjdninpjpgaaDoorCstringsSplit
import Derived.Test.YtohcjdninpjpgaaDoorCostiaryref1Lower
import Derived.Test.YtohcjdninpjpgaaDoorCinfraLower
import Derived.Test.YtohcjdninpjpgaaDoorPXx0
import Derived.Test.YtohcjdninpjpgaaDoorPXx1
namespace Go.Proofs.YtohcjdninpjpgaaDoor.PX
open Go.Proofs.YtohcjdninpjpgaaDoor.Own
open Go.RowKit Go.Proofs.YtohcjdninpjpgaaDoorW.PrintWords Go.Proofs.YtohcjdninpjpgaaDoorW.PrintLast Go.Proofs.YtohcjdninpjpgaaDoorW.PrintMore
attribute [local go_sem] max2_int min2_int max_two min_two max_three min_three max_four min_four   -- for this text's walks alone
set_option linter.unusedVariables false
set_option linter.unusedSimpArgs false

/-! ### ostiarylaw10_same: function 20 -/
mutual
def ostiarylaw10_same.j0 : Nat → Bool → List (S52) → Bool → List (S69) → Bool → Option (Bool)
  | 0, _, _, _, _, _ => none
  | k + 1, x19, x317000, x317001, x318000, x318001 => if x19 = true then (some false) else (ostiarylaw10_same.l0 k 0 x317000 x317001 x318000 x318001)
def ostiarylaw10_same.l0 : Nat → Int → List (S52) → Bool → List (S69) → Bool → Option (Bool)
  | 0, _, _, _, _, _ => none
  | k + 1, x5, x317000, x317001, x318000, x318001 => if x5 < (x317000.length : Int) then (if 0 ≤ x5 then (if x5 < (x318000.length : Int) then (if ((rd_T52 x317000 x5).f0).toList = ((rd_T69 x318000 x5).f0).toList then ((ostiarybook_Same_string.f k ((rd_T52 x317000 x5).f1) ((rd_T69 x318000 x5).f1)).bind fun t322 => (if t322 = true then (ostiarylaw10_same.l0 k (wrap64 (x5 + 1)) x317000 x317001 x318000 x318001) else (some false))) else (some false)) else (none)) else (none)) else (some true)
end
def ostiarylaw10_same.f (k : Nat) (l0_0 : List (S52)) (a0_1 : Bool) (l1_0 : List (S69)) (a1_1 : Bool) : Option (Bool) := if (a0_1 != a1_1) = true then (ostiarylaw10_same.j0 k true l0_0 a0_1 l1_0 a1_1) else (ostiarylaw10_same.j0 k ((l0_0.length : Int) != (l1_0.length : Int)) l0_0 a0_1 l1_0 a1_1)
theorem ostiarylaw10_same.mono_l : ∀ k, (∀ y0 y1 y2 y3 y4, LeO (ostiarylaw10_same.j0 k y0 y1 y2 y3 y4) (ostiarylaw10_same.j0 (k + 1) y0 y1 y2 y3 y4)) ∧ (∀ y0 y1 y2 y3 y4, LeO (ostiarylaw10_same.l0 k y0 y1 y2 y3 y4) (ostiarylaw10_same.l0 (k + 1) y0 y1 y2 y3 y4))
  | 0 => ⟨fun _ _ _ _ _ r h => by simp [ostiarylaw10_same.j0] at h, fun _ _ _ _ _ r h => by simp [ostiarylaw10_same.l0] at h⟩
  | k + 1 => by
    obtain ⟨ih0, ih1⟩ := ostiarylaw10_same.mono_l k
    refine ⟨?_, ?_⟩
    · intro y0 y1 y2 y3 y4
      unfold ostiarylaw10_same.j0
      repeat' first
      | (with_reducible exact ih0 _ _ _ _ _)
      | (with_reducible exact ih1 _ _ _ _ _)
      | (with_reducible exact ostiarybook_Same_string.mono _ _ _)
      | (with_reducible exact LeO.refl _)
      | (with_reducible exact LeO.none _)
      | (with_reducible refine LeO.ite ?_ ?_)
      | (with_reducible refine LeO.bind ?_ (fun _ => ?_))
      | exact ih0 _ _ _ _ _
      | exact ih1 _ _ _ _ _
      | exact ostiarybook_Same_string.mono _ _ _
      | exact LeO.none _
      | refine LeO.ite ?_ ?_
      | refine LeO.bind ?_ (fun _ => ?_)
    · intro y0 y1 y2 y3 y4
      unfold ostiarylaw10_same.l0
      repeat' first
      | (with_reducible exact ih0 _ _ _ _ _)
      | (with_reducible exact ih1 _ _ _ _ _)
      | (with_reducible exact ostiarybook_Same_string.mono _ _ _)
      | (with_reducible exact LeO.refl _)
      | (with_reducible exact LeO.none _)
      | (with_reducible refine LeO.ite ?_ ?_)
      | (with_reducible refine LeO.bind ?_ (fun _ => ?_))
      | exact ih0 _ _ _ _ _
      | exact ih1 _ _ _ _ _
      | exact ostiarybook_Same_string.mono _ _ _
      | exact LeO.none _
      | refine LeO.ite ?_ ?_
      | refine LeO.bind ?_ (fun _ => ?_)
theorem ostiarylaw10_same.mono : ∀ a0 a1 a2 a3 k, LeO (ostiarylaw10_same.f k a0 a1 a2 a3) (ostiarylaw10_same.f (k + 1) a0 a1 a2 a3) := by
  intro a0 a1 a2 a3 k
  obtain ⟨ih0, ih1⟩ := ostiarylaw10_same.mono_l k
  unfold ostiarylaw10_same.f
  repeat' first
      | (with_reducible exact ih0 _ _ _ _ _)
      | (with_reducible exact ih1 _ _ _ _ _)
      | (with_reducible exact ostiarybook_Same_string.mono _ _ _)
      | (with_reducible exact LeO.refl _)
      | (with_reducible exact LeO.none _)
      | (with_reducible refine LeO.ite ?_ ?_)
      | (with_reducible refine LeO.bind ?_ (fun _ => ?_))
      | exact ih0 _ _ _ _ _
      | exact ih1 _ _ _ _ _
      | exact ostiarybook_Same_string.mono _ _ _
      | exact LeO.none _
      | refine LeO.ite ?_ ?_
      | refine LeO.bind ?_ (fun _ => ?_)
set_option maxHeartbeats 8000000 in
set_option maxRecDepth 100000 in
theorem ostiarylaw10_same.calls (k : Nat) (A0_0 : Option Addr) (c0_0 : Nat) (l0_0 : List (S52)) (a0_1 : Bool) (A1_0 : Option Addr) (c1_0 : Nat) (l1_0 : List (S69)) (a1_1 : Bool) (r : Bool) (w : World) (hr0_0 : Kd.C k52 w A0_0 l0_0.length l0_0) (hc0_0 : l0_0.length ≤ c0_0) (hr1_0 : Kd.C k69 w A1_0 l1_0.length l1_0) (hc1_0 : l1_0.length ≤ c1_0) (h : ostiarylaw10_same.f k l0_0 a0_1 l1_0 a1_1 = some r) :
    Calls Tryd.prog 20 #[.agg #[.slice A0_0 l0_0.length c0_0, .bool a0_1], .agg #[.slice A1_0 l1_0.length c1_0, .bool a1_1]] w fun e w' => e = .returned (.bool r) ∧ Below w.heap.size w w' := by
  have hu33 := Tryd.underlying33
  have hu41 := Tryd.underlying41
  have HR0_0 := Aside0.mk hr0_0
  have HC0_0 := Aside0.mk hc0_0
  clear hr0_0 hc0_0
  have HR1_0 := Aside0.mk hr1_0
  have HC1_0 := Aside0.mk hc1_0
  clear hr1_0 hc1_0
  have HB := Am (Below.refl w.heap.size w)
  have H : (if (a0_1 != a1_1) = true then (ostiarylaw10_same.j0 k true l0_0 a0_1 l1_0 a1_1) else (ostiarylaw10_same.j0 k ((l0_0.length : Int) != (l1_0.length : Int)) l0_0 a0_1 l1_0 a1_1)) = some r := h
  clear h
  have HC3 := Aside0.mk H
  clear H
  go_enter Tryd.func20, Tryd.ntmps20
  go_upto_region 1 with (first | ((with_reducible refine gate_dst (N := 2) rfl ?_); (try (refine gate_guard (by rfl) ?_; dsimp only)); refine box_event ?hg (N := 2) ?hd (cs := #[.slice A0_0 l0_0.length c0_0, .bool a0_1]) (t := 33) ?hr ?_; ((case hd => rfl); (case hg => rfl); (case hr => first | (go_simp; done) | (go_simp; rfl))); intro gb316 hg w4 hbox hb; have n0_ := Am (below_step (by (repeat (first | (with_reducible first | exact HB.out | apply below_alloc | apply pw_below_drewN | apply below_drew1) | exact HB.out))) hb); have n1_ := Am (hbox); have n2_ := Am ((by rw [hg]; exact (below_size (by (repeat (first | (with_reducible first | exact HB.out | apply below_alloc | apply pw_below_drewN | apply below_drew1) | exact HB.out)))) : w.heap.size ≤ gb316)); have n3_ := Am ((by rw [hg]; exact (below_size (by (repeat (first | (with_reducible first | exact HB.out | apply below_alloc | apply pw_below_drewN | apply below_drew1) | exact HB.out)))) : w.heap.size ≤ gb316)); clear HB; have HB := n0_; have BK316 := n1_; have GW316 := n2_; have GE316 := n3_; clear n0_ n1_ n2_ n3_; clear hb hbox hg) | ((with_reducible refine gate_dst (N := 3) rfl ?_); (try (refine gate_guard (by rfl) ?_; dsimp only)); refine box_event ?hg (N := 3) ?hd (cs := #[.slice A1_0 l1_0.length c1_0, .bool a1_1]) (t := 41) ?hr ?_; ((case hd => rfl); (case hg => rfl); (case hr => first | (go_simp; done) | (go_simp; rfl))); intro gb317 hg w5 hbox hb; have n0_ := Am (blk_below (g := gb316) (o := .cells #[.slice A0_0 l0_0.length c0_0, .bool a0_1] 33 (0, 0)) (by (with_reducible repeat (first | refine blk_drewN ?_ _ | refine blk_drew ?_ | refine blk_alloc ?_ _)); exact BK316.out) hb); have n1_ := Am (below_step (by (repeat (first | (with_reducible first | exact HB.out | apply below_alloc | apply pw_below_drewN | apply below_drew1 | refine below_set ?_ (Aside0.out GE316)) | exact HB.out))) hb); have n2_ := Am (hbox); have n3_ := Am ((by rw [hg]; exact (below_size (by (repeat (first | (with_reducible first | exact HB.out | apply below_alloc | apply pw_below_drewN | apply below_drew1 | refine below_set ?_ (Aside0.out GE316)) | exact HB.out)))) : w.heap.size ≤ gb317)); have n4_ := Am ((by rw [hg]; exact (below_size (by (repeat (first | (with_reducible first | exact HB.out | apply below_alloc | apply pw_below_drewN | apply below_drew1 | refine below_set ?_ (Aside0.out GE316)) | exact HB.out)))) : w.heap.size ≤ gb317)); have n5_ := Am ((by rw [hg]; exact Nat.ne_of_lt (blk_lt (g := gb316) (o := .cells #[.slice A0_0 l0_0.length c0_0, .bool a0_1] 33 (0, 0)) (by (with_reducible repeat (first | refine blk_drewN ?_ _ | refine blk_drew ?_ | refine blk_alloc ?_ _)); exact BK316.out)) : gb316 ≠ gb317)); have n6_ := Am ((by rw [hg]; exact Nat.ne_of_gt (blk_lt (g := gb316) (o := .cells #[.slice A0_0 l0_0.length c0_0, .bool a0_1] 33 (0, 0)) (by (with_reducible repeat (first | refine blk_drewN ?_ _ | refine blk_drew ?_ | refine blk_alloc ?_ _)); exact BK316.out)) : gb317 ≠ gb316)); clear BK316; clear HB; have BK316 := n0_; have HB := n1_; have BK317 := n2_; have GW317 := n3_; have GE317 := n4_; have NB316_317 := n5_; have NB317_316 := n6_; clear n0_ n1_ n2_ n3_ n4_ n5_ n6_; clear hb hbox hg))
  repeat (go_quiet (first | ((with_reducible refine gate_dst (N := 2) rfl ?_); (try (refine gate_guard (by rfl) ?_; dsimp only)); refine box_event ?hg (N := 2) ?hd (cs := #[.slice A0_0 l0_0.length c0_0, .bool a0_1]) (t := 33) ?hr ?_; ((case hd => rfl); (case hg => rfl); (case hr => first | (go_simp; done) | (go_simp; rfl))); intro gb316 hg w4 hbox hb; have n0_ := Am (below_step (by (repeat (first | (with_reducible first | exact HB.out | apply below_alloc | apply pw_below_drewN | apply below_drew1) | exact HB.out))) hb); have n1_ := Am (hbox); have n2_ := Am ((by rw [hg]; exact (below_size (by (repeat (first | (with_reducible first | exact HB.out | apply below_alloc | apply pw_below_drewN | apply below_drew1) | exact HB.out)))) : w.heap.size ≤ gb316)); have n3_ := Am ((by rw [hg]; exact (below_size (by (repeat (first | (with_reducible first | exact HB.out | apply below_alloc | apply pw_below_drewN | apply below_drew1) | exact HB.out)))) : w.heap.size ≤ gb316)); clear HB; have HB := n0_; have BK316 := n1_; have GW316 := n2_; have GE316 := n3_; clear n0_ n1_ n2_ n3_; clear hb hbox hg) | ((with_reducible refine gate_dst (N := 3) rfl ?_); (try (refine gate_guard (by rfl) ?_; dsimp only)); refine box_event ?hg (N := 3) ?hd (cs := #[.slice A1_0 l1_0.length c1_0, .bool a1_1]) (t := 41) ?hr ?_; ((case hd => rfl); (case hg => rfl); (case hr => first | (go_simp; done) | (go_simp; rfl))); intro gb317 hg w5 hbox hb; have n0_ := Am (blk_below (g := gb316) (o := .cells #[.slice A0_0 l0_0.length c0_0, .bool a0_1] 33 (0, 0)) (by (with_reducible repeat (first | refine blk_drewN ?_ _ | refine blk_drew ?_ | refine blk_alloc ?_ _)); exact BK316.out) hb); have n1_ := Am (below_step (by (repeat (first | (with_reducible first | exact HB.out | apply below_alloc | apply pw_below_drewN | apply below_drew1 | refine below_set ?_ (Aside0.out GE316)) | exact HB.out))) hb); have n2_ := Am (hbox); have n3_ := Am ((by rw [hg]; exact (below_size (by (repeat (first | (with_reducible first | exact HB.out | apply below_alloc | apply pw_below_drewN | apply below_drew1 | refine below_set ?_ (Aside0.out GE316)) | exact HB.out)))) : w.heap.size ≤ gb317)); have n4_ := Am ((by rw [hg]; exact (below_size (by (repeat (first | (with_reducible first | exact HB.out | apply below_alloc | apply pw_below_drewN | apply below_drew1 | refine below_set ?_ (Aside0.out GE316)) | exact HB.out)))) : w.heap.size ≤ gb317)); have n5_ := Am ((by rw [hg]; exact Nat.ne_of_lt (blk_lt (g := gb316) (o := .cells #[.slice A0_0 l0_0.length c0_0, .bool a0_1] 33 (0, 0)) (by (with_reducible repeat (first | refine blk_drewN ?_ _ | refine blk_drew ?_ | refine blk_alloc ?_ _)); exact BK316.out)) : gb316 ≠ gb317)); have n6_ := Am ((by rw [hg]; exact Nat.ne_of_gt (blk_lt (g := gb316) (o := .cells #[.slice A0_0 l0_0.length c0_0, .bool a0_1] 33 (0, 0)) (by (with_reducible repeat (first | refine blk_drewN ?_ _ | refine blk_drew ?_ | refine blk_alloc ?_ _)); exact BK316.out)) : gb317 ≠ gb316)); clear BK316; clear HB; have BK316 := n0_; have HB := n1_; have BK317 := n2_; have GW317 := n3_; have GE317 := n4_; have NB316_317 := n5_; have NB317_316 := n6_; clear n0_ n1_ n2_ n3_ n4_ n5_ n6_; clear hb hbox hg)); go_upto_region 1 with (first | ((with_reducible refine gate_dst (N := 2) rfl ?_); (try (refine gate_guard (by rfl) ?_; dsimp only)); refine box_event ?hg (N := 2) ?hd (cs := #[.slice A0_0 l0_0.length c0_0, .bool a0_1]) (t := 33) ?hr ?_; ((case hd => rfl); (case hg => rfl); (case hr => first | (go_simp; done) | (go_simp; rfl))); intro gb316 hg w4 hbox hb; have n0_ := Am (below_step (by (repeat (first | (with_reducible first | exact HB.out | apply below_alloc | apply pw_below_drewN | apply below_drew1) | exact HB.out))) hb); have n1_ := Am (hbox); have n2_ := Am ((by rw [hg]; exact (below_size (by (repeat (first | (with_reducible first | exact HB.out | apply below_alloc | apply pw_below_drewN | apply below_drew1) | exact HB.out)))) : w.heap.size ≤ gb316)); have n3_ := Am ((by rw [hg]; exact (below_size (by (repeat (first | (with_reducible first | exact HB.out | apply below_alloc | apply pw_below_drewN | apply below_drew1) | exact HB.out)))) : w.heap.size ≤ gb316)); clear HB; have HB := n0_; have BK316 := n1_; have GW316 := n2_; have GE316 := n3_; clear n0_ n1_ n2_ n3_; clear hb hbox hg) | ((with_reducible refine gate_dst (N := 3) rfl ?_); (try (refine gate_guard (by rfl) ?_; dsimp only)); refine box_event ?hg (N := 3) ?hd (cs := #[.slice A1_0 l1_0.length c1_0, .bool a1_1]) (t := 41) ?hr ?_; ((case hd => rfl); (case hg => rfl); (case hr => first | (go_simp; done) | (go_simp; rfl))); intro gb317 hg w5 hbox hb; have n0_ := Am (blk_below (g := gb316) (o := .cells #[.slice A0_0 l0_0.length c0_0, .bool a0_1] 33 (0, 0)) (by (with_reducible repeat (first | refine blk_drewN ?_ _ | refine blk_drew ?_ | refine blk_alloc ?_ _)); exact BK316.out) hb); have n1_ := Am (below_step (by (repeat (first | (with_reducible first | exact HB.out | apply below_alloc | apply pw_below_drewN | apply below_drew1 | refine below_set ?_ (Aside0.out GE316)) | exact HB.out))) hb); have n2_ := Am (hbox); have n3_ := Am ((by rw [hg]; exact (below_size (by (repeat (first | (with_reducible first | exact HB.out | apply below_alloc | apply pw_below_drewN | apply below_drew1 | refine below_set ?_ (Aside0.out GE316)) | exact HB.out)))) : w.heap.size ≤ gb317)); have n4_ := Am ((by rw [hg]; exact (below_size (by (repeat (first | (with_reducible first | exact HB.out | apply below_alloc | apply pw_below_drewN | apply below_drew1 | refine below_set ?_ (Aside0.out GE316)) | exact HB.out)))) : w.heap.size ≤ gb317)); have n5_ := Am ((by rw [hg]; exact Nat.ne_of_lt (blk_lt (g := gb316) (o := .cells #[.slice A0_0 l0_0.length c0_0, .bool a0_1] 33 (0, 0)) (by (with_reducible repeat (first | refine blk_drewN ?_ _ | refine blk_drew ?_ | refine blk_alloc ?_ _)); exact BK316.out)) : gb316 ≠ gb317)); have n6_ := Am ((by rw [hg]; exact Nat.ne_of_gt (blk_lt (g := gb316) (o := .cells #[.slice A0_0 l0_0.length c0_0, .bool a0_1] 33 (0, 0)) (by (with_reducible repeat (first | refine blk_drewN ?_ _ | refine blk_drew ?_ | refine blk_alloc ?_ _)); exact BK316.out)) : gb317 ≠ gb316)); clear BK316; clear HB; have BK316 := n0_; have HB := n1_; have BK317 := n2_; have GW317 := n3_; have GE317 := n4_; have NB316_317 := n5_; have NB317_316 := n6_; clear n0_ n1_ n2_ n3_ n4_ n5_ n6_; clear hb hbox hg)))
  (try simp only [Act.put, List.setIfInBounds_toArray, List.set_cons_zero, List.set_cons_succ])
  go_cut [19] (fun v19 wc => ∃ (kq : Nat) (x19_2 : Bool), v19 = .bool x19_2 ∧ Aside0 (ostiarylaw10_same.j0 kq x19_2 l0_0 a0_1 l1_0 a1_1 = some r) ∧ Aside0 (kq ≤ k) ∧ Aside0 (wc.heap[gb316]? = some (.cells #[(.slice A0_0 l0_0.length c0_0), .bool a0_1] 33 (0, 0))) ∧ Aside0 (wc.heap[gb317]? = some (.cells #[(.slice A1_0 l1_0.length c1_0), .bool a1_1] 41 (0, 0))) ∧ Aside0 (Below w.heap.size w wc))
  case first =>
    have H := HC3.out
    clear HC3
    by_cases c6 : (a0_1 != a1_1) = true
    · rw [if_pos c6] at H
      have c6b0 : (a0_1 != a1_1) = true := c6
      (try (have c6b1 : decide (a0_1 = a1_1) = false := by simpa using c6))
      (try (have c6b2 : (a0_1 == a1_1) = false := by simpa using c6))
      (try (have c6b3 : ¬ (a0_1 = a1_1) := by simpa using c6))
      clear c6
      (first | rw [c6b0] | (simp only [i64_w, i32_w]; rw [c6b0]) | skip)
      have H' := Aside0.mk H
      clear H
      have hnb7 := NB316_317.out
      have hnc7 := NB317_316.out
      have hcz8_0 : w5.cell? ⟨gb316, 0, none⟩ = some (.slice A0_0 l0_0.length c0_0) := (blk_cell BK316.out 0).trans rfl
      have hcz8_1 : w5.cell? ⟨gb316, 1, none⟩ = some (.bool a0_1) := (blk_cell BK316.out 1).trans rfl
      have hfz8_0 := blk_frozen BK316.out 0
      have hfz8_1 := blk_frozen BK316.out 1
      have hcz9_0 : w5.cell? ⟨gb317, 0, none⟩ = some (.slice A1_0 l1_0.length c1_0) := (blk_cell BK317.out 0).trans rfl
      have hcz9_1 : w5.cell? ⟨gb317, 1, none⟩ = some (.bool a1_1) := (blk_cell BK317.out 1).trans rfl
      have hfz9_0 := blk_frozen BK317.out 0
      have hfz9_1 := blk_frozen BK317.out 1
      go_wp2
      repeat (go_quiet (fail); try go_wp2)
      go_meet
      case rel => exact ⟨_, (true), (by first | rfl | (simp; done) | (simp [*]; done)), H', ⟨by first | omega | exact Nat.le_refl _⟩, ⟨by (with_reducible repeat (first | refine blk_drewN ?_ _ | refine blk_drew ?_ | refine blk_alloc ?_ _)); exact BK316.out⟩, ⟨by (with_reducible repeat (first | refine blk_drewN ?_ _ | refine blk_drew ?_ | refine blk_alloc ?_ _)); exact BK317.out⟩, ⟨by (repeat (first | (with_reducible first | exact HB.out | apply below_alloc | apply pw_below_drewN | apply below_drew1 | refine below_set ?_ (Aside0.out GE316) | refine below_set ?_ (Aside0.out GE317)) | exact HB.out))⟩⟩
    · rw [if_neg c6] at H
      have c6b0 : (a0_1 != a1_1) = false := by simpa using c6
      (try (have c6b1 : decide (a0_1 = a1_1) = true := by simpa using c6))
      (try (have c6b2 : (a0_1 == a1_1) = true := by simpa using c6))
      clear c6
      (first | rw [c6b0] | (simp only [i64_w, i32_w]; rw [c6b0]) | skip)
      have H' := Aside0.mk H
      clear H
      have hnb10 := NB316_317.out
      have hnc10 := NB317_316.out
      have hcz11_0 : w5.cell? ⟨gb316, 0, none⟩ = some (.slice A0_0 l0_0.length c0_0) := (blk_cell BK316.out 0).trans rfl
      have hcz11_1 : w5.cell? ⟨gb316, 1, none⟩ = some (.bool a0_1) := (blk_cell BK316.out 1).trans rfl
      have hfz11_0 := blk_frozen BK316.out 0
      have hfz11_1 := blk_frozen BK316.out 1
      have hcz12_0 : w5.cell? ⟨gb317, 0, none⟩ = some (.slice A1_0 l1_0.length c1_0) := (blk_cell BK317.out 0).trans rfl
      have hcz12_1 : w5.cell? ⟨gb317, 1, none⟩ = some (.bool a1_1) := (blk_cell BK317.out 1).trans rfl
      have hfz12_0 := blk_frozen BK317.out 0
      have hfz12_1 := blk_frozen BK317.out 1
      go_wp2
      repeat (go_quiet (fail); try go_wp2)
      go_meet
      case rel => exact ⟨_, (((l0_0.length : Int) != (l1_0.length : Int))), (by first | rfl | (simp; done) | (simp [*]; done)), H', ⟨by first | omega | exact Nat.le_refl _⟩, ⟨by (with_reducible repeat (first | refine blk_drewN ?_ _ | refine blk_drew ?_ | refine blk_alloc ?_ _)); exact BK316.out⟩, ⟨by (with_reducible repeat (first | refine blk_drewN ?_ _ | refine blk_drew ?_ | refine blk_alloc ?_ _)); exact BK317.out⟩, ⟨by (repeat (first | (with_reducible first | exact HB.out | apply below_alloc | apply pw_below_drewN | apply below_drew1 | refine below_set ?_ (Aside0.out GE316) | refine below_set ?_ (Aside0.out GE317)) | exact HB.out))⟩⟩
  case rest =>
    clear HC3
    try clear c1
    try clear c2
    try clear p2
    try clear c6
    try clear c6b0
    try clear c6b1
    try clear c6b2
    try clear c7
    try clear c10
    try clear hcz11_0
    try clear hcz11_1
    try clear hcz12_0
    try clear hcz12_1
    try clear hcz8_0
    try clear hcz8_1
    try clear hcz9_0
    try clear hcz9_1
    try clear hfz11_0
    try clear hfz11_1
    try clear hfz12_0
    try clear hfz12_1
    try clear hfz8_0
    try clear hfz8_1
    try clear hfz9_0
    try clear hfz9_1
    obtain ⟨kq, x19_2, rfl, HA, HJ2, BK316, BK317, HB⟩ := hcut
    cases kq with
    | zero => exact absurd HA.out (by simp [ostiarylaw10_same.j0])
    | succ kj2 =>
      have H := HA.out
      clear HA
      simp only [ostiarylaw10_same.j0] at H
      by_cases c13 : x19_2 = true
      · subst c13
        have H1 : (some false) = some r := by rw [if_pos rfl] at H; exact H
        clear H
        have H := H1
        clear H1
        obtain rfl := Option.some.inj H
        go_wp2
        repeat (go_quiet (fail); try go_wp2)
        go_ret
        exact ⟨by (first | rfl | (simp [errW_none, errW_some] <;> rfl) | (simp [*, errW_none, errW_some] <;> rfl)), by (repeat (first | (with_reducible first | exact HB.out | apply below_alloc | apply pw_below_drewN | apply below_drew1 | refine below_set ?_ (Aside0.out GE316) | refine below_set ?_ (Aside0.out GE317)) | exact HB.out))⟩
      · replace c13 := Bool.eq_false_iff.mpr c13
        subst c13
        have H1 : (ostiarylaw10_same.l0 kj2 0 l0_0 a0_1 l1_0 a1_1) = some r := by rw [if_neg (show ¬ (false = true) by decide)] at H; exact H
        clear H
        have H := H1
        clear H1
        have H' := Aside0.mk H
        clear H
        go_wp2
        repeat (go_quiet (fail); try go_wp2)
        go_loopg [5] kj2 (fun kq v5 w' => ∃ (x5_2 : Int), v5 = .int .i64 x5_2 ∧ Aside0 (ostiarylaw10_same.l0 kq x5_2 l0_0 a0_1 l1_0 a1_1 = some r) ∧ Aside0 (kq ≤ kj2) ∧ Aside0 (w'.heap[gb316]? = some (.cells #[(.slice A0_0 l0_0.length c0_0), .bool a0_1] 33 (0, 0))) ∧ Aside0 (w'.heap[gb317]? = some (.cells #[(.slice A1_0 l1_0.length c1_0), .bool a1_1] 41 (0, 0))) ∧ Aside0 (Below w.heap.size w w'))
        case atStart => exact ⟨(0), (by first | rfl | (simp; done) | (simp [*]; done)), H', ⟨Nat.le_refl _⟩, ⟨by (with_reducible repeat (first | refine blk_drewN ?_ _ | refine blk_drew ?_ | refine blk_alloc ?_ _)); exact BK316.out⟩, ⟨by (with_reducible repeat (first | refine blk_drewN ?_ _ | refine blk_drew ?_ | refine blk_alloc ?_ _)); exact BK317.out⟩, ⟨by (repeat (first | (with_reducible first | exact HB.out | apply below_alloc | apply pw_below_drewN | apply below_drew1 | refine below_set ?_ (Aside0.out GE316) | refine below_set ?_ (Aside0.out GE317)) | exact HB.out))⟩⟩
        case round =>
          clear H'
          try clear c1
          try clear c2
          try clear p2
          try clear c6
          try clear c6b0
          try clear c6b1
          try clear c6b2
          try clear c7
          try clear c10
          try clear c13
          try clear hcz11_0
          try clear hcz11_1
          try clear hcz12_0
          try clear hcz12_1
          try clear hcz8_0
          try clear hcz8_1
          try clear hcz9_0
          try clear hcz9_1
          try clear hfz11_0
          try clear hfz11_1
          try clear hfz12_0
          try clear hfz12_1
          try clear hfz8_0
          try clear hfz8_1
          try clear hfz9_0
          try clear hfz9_1
          try clear p2
          obtain ⟨x5_2, rfl, HA, HK2, BK316, BK317, HB⟩ := hrel
          cases gk with
          | zero => exact absurd HA.out (by simp [ostiarylaw10_same.l0])
          | succ k2 =>
            have H := HA.out
            clear HA
            simp only [ostiarylaw10_same.l0] at H
            by_cases c14 : x5_2 < (l0_0.length : Int)
            · rw [if_pos c14] at H
              have c14b0 : decide (x5_2 < (l0_0.length : Int)) = true := decide_eq_true c14
              clear c14
              by_cases c15 : 0 ≤ x5_2
              · rw [if_pos c15] at H
                have c15b0 : decide (0 ≤ x5_2) = true := decide_eq_true c15
                clear c15
                by_cases c16 : x5_2 < (l1_0.length : Int)
                · rw [if_pos c16] at H
                  have c16b0 : decide (x5_2 < (l1_0.length : Int)) = true := decide_eq_true c16
                  clear c16
                  by_cases c17 : ((rd_T52 l0_0 x5_2).f0).toList = ((rd_T69 l1_0 x5_2).f0).toList
                  · rw [if_pos c17] at H
                    have c17b0 : (((rd_T52 l0_0 x5_2).f0).toList == ((rd_T69 l1_0 x5_2).f0).toList) = true := beq_iff_eq.mpr c17
                    have c17b1 : (((rd_T52 l0_0 x5_2).f0).toList != ((rd_T69 l1_0 x5_2).f0).toList) = false := bne_eq_false_iff_eq.mpr c17
                    clear c17
                    replace H := Option.bind_eq_some_iff.mp H
                    obtain ⟨t322, A180, H⟩ := H
                    replace H : (if t322 = true then (ostiarylaw10_same.l0 k2 (wrap64 (x5_2 + 1)) l0_0 a0_1 l1_0 a1_1) else (some false)) = some r := H
                    have A18 := Aside0.mk A180
                    clear A180
                    by_cases c19 : t322 = true
                    · subst c19
                      have H1 : (ostiarylaw10_same.l0 k2 (wrap64 (x5_2 + 1)) l0_0 a0_1 l1_0 a1_1) = some r := by rw [if_pos rfl] at H; exact H
                      clear H
                      have H := H1
                      clear H1
                      have H' := Aside0.mk H
                      clear H
                      have hnb20 := NB316_317.out
                      have hnc20 := NB317_316.out
                      have hcz21_0 : wr.cell? ⟨gb316, 0, none⟩ = some (.slice A0_0 l0_0.length c0_0) := (blk_cell BK316.out 0).trans rfl
                      have hcz21_1 : wr.cell? ⟨gb316, 1, none⟩ = some (.bool a0_1) := (blk_cell BK316.out 1).trans rfl
                      have hfz21_0 := blk_frozen BK316.out 0
                      have hfz21_1 := blk_frozen BK316.out 1
                      have p318 : 0 ≤ (x5_2 : Int) := of_decide_eq_true (by first | (with_reducible assumption) | assumption)
                      have q318 : x5_2 < (l0_0.length : Int) := of_decide_eq_true (by first | (with_reducible assumption) | assumption)
                      obtain ⟨ad318, A318_1, c318_1, e318, hx318_0, hx318_1, hl318_1, hi318_1⟩ := at_T52 HR0_0.out x5_2 p318 q318
                      cases e318
                      replace hx318_0 := (HB.out.cell (World.block_lt_of_cell? w _ hx318_0)).trans hx318_0
                      replace hx318_1 := (HB.out.cell (World.block_lt_of_cell? w _ hx318_1)).trans hx318_1
                      have HR318_1 := Aside0.mk hi318_1
                      have HC318_1 := Aside0.mk hl318_1
                      clear hi318_1 hl318_1
                      replace p318 := eq_true p318
                      replace q318 := eq_true q318
                      have hcz22_0 : wr.cell? ⟨gb317, 0, none⟩ = some (.slice A1_0 l1_0.length c1_0) := (blk_cell BK317.out 0).trans rfl
                      have hcz22_1 : wr.cell? ⟨gb317, 1, none⟩ = some (.bool a1_1) := (blk_cell BK317.out 1).trans rfl
                      have hfz22_0 := blk_frozen BK317.out 0
                      have hfz22_1 := blk_frozen BK317.out 1
                      have p319 : 0 ≤ (x5_2 : Int) := of_decide_eq_true (by first | (with_reducible assumption) | assumption)
                      have q319 : x5_2 < (l1_0.length : Int) := of_decide_eq_true (by first | (with_reducible assumption) | assumption)
                      obtain ⟨ad319, A319_1, c319_1, e319, hx319_0, hx319_1, hl319_1, hi319_1⟩ := at_T69 HR1_0.out x5_2 p319 q319
                      cases e319
                      replace hx319_0 := (HB.out.cell (World.block_lt_of_cell? w _ hx319_0)).trans hx319_0
                      replace hx319_1 := (HB.out.cell (World.block_lt_of_cell? w _ hx319_1)).trans hx319_1
                      have HR319_1 := Aside0.mk hi319_1
                      have HC319_1 := Aside0.mk hl319_1
                      clear hi319_1 hl319_1
                      replace p319 := eq_true p319
                      replace q319 := eq_true q319
                      have p320 : 0 ≤ (x5_2 : Int) := of_decide_eq_true (by first | (with_reducible assumption) | assumption)
                      have q320 : x5_2 < (l0_0.length : Int) := of_decide_eq_true (by first | (with_reducible assumption) | assumption)
                      obtain ⟨ad320, A320_1, c320_1, e320, hx320_0, hx320_1, hl320_1, hi320_1⟩ := at_T52 HR0_0.out x5_2 p320 q320
                      obtain rfl : ad318 = ad320 := (by injection e320)
                      replace hx320_0 := (HB.out.cell (World.block_lt_of_cell? w _ hx320_0)).trans hx320_0
                      replace hx320_1 := (HB.out.cell (World.block_lt_of_cell? w _ hx320_1)).trans hx320_1
                      have HR320_1 := Aside0.mk hi320_1
                      have HC320_1 := Aside0.mk hl320_1
                      clear hi320_1 hl320_1
                      replace p320 := eq_true p320
                      replace q320 := eq_true q320
                      have ea_ := Option.some.inj (hx318_1.symm.trans hx320_1)
                      injection ea_ with ea_ en_ ec_
                      subst ea_
                      subst ec_
                      clear en_
                      have p321 : 0 ≤ (x5_2 : Int) := of_decide_eq_true (by first | (with_reducible assumption) | assumption)
                      have q321 : x5_2 < (l1_0.length : Int) := of_decide_eq_true (by first | (with_reducible assumption) | assumption)
                      obtain ⟨ad321, A321_1, c321_1, e321, hx321_0, hx321_1, hl321_1, hi321_1⟩ := at_T69 HR1_0.out x5_2 p321 q321
                      obtain rfl : ad319 = ad321 := (by injection e321)
                      replace hx321_0 := (HB.out.cell (World.block_lt_of_cell? w _ hx321_0)).trans hx321_0
                      replace hx321_1 := (HB.out.cell (World.block_lt_of_cell? w _ hx321_1)).trans hx321_1
                      have HR321_1 := Aside0.mk hi321_1
                      have HC321_1 := Aside0.mk hl321_1
                      clear hi321_1 hl321_1
                      replace p321 := eq_true p321
                      replace q321 := eq_true q321
                      have ea_ := Option.some.inj (hx319_1.symm.trans hx321_1)
                      injection ea_ with ea_ en_ ec_
                      subst ea_
                      subst ec_
                      clear en_
                      go_wp2_with (first | (go_at_call 8; (with_reducible refine (ostiarybook_Same_string.calls k2 _ _ ((rd_T52 l0_0 x5_2).f1) _ _ ((rd_T69 l1_0 x5_2).f1) true _ ?side1 ?side2 ?side3 ?side4 A18.out).mono ?_); (case side1 => repeat (first | exact (Kd.C_below HR320_1.out HB.out) | (first | (with_reducible refine Kd.C_alloc ?_ _) | (with_reducible refine Kd.C_drewN ?_ _) | (with_reducible refine Kd.C_drew ?_)))); (case side2 => exact HC320_1.out); (case side3 => repeat (first | exact (Kd.C_below HR321_1.out HB.out) | (first | (with_reducible refine Kd.C_alloc ?_ _) | (with_reducible refine Kd.C_drewN ?_ _) | (with_reducible refine Kd.C_drew ?_)))); (case side4 => exact HC321_1.out); rintro e w' ⟨rfl, ⟨nd, rfl⟩⟩; (try first | exact ⟨rfl, _, World.drewN_drewN _ _ _⟩ | exact ⟨rfl, _, Eq.trans (World.drewN_drewN _ _ _) (congrArg (World.drewN _) (Nat.add_assoc _ _ _))⟩)))
                      repeat (go_quiet (first | (go_at_call 8; (with_reducible refine (ostiarybook_Same_string.calls k2 _ _ ((rd_T52 l0_0 x5_2).f1) _ _ ((rd_T69 l1_0 x5_2).f1) true _ ?side1 ?side2 ?side3 ?side4 A18.out).mono ?_); (case side1 => repeat (first | exact (Kd.C_below HR320_1.out HB.out) | (first | (with_reducible refine Kd.C_alloc ?_ _) | (with_reducible refine Kd.C_drewN ?_ _) | (with_reducible refine Kd.C_drew ?_)))); (case side2 => exact HC320_1.out); (case side3 => repeat (first | exact (Kd.C_below HR321_1.out HB.out) | (first | (with_reducible refine Kd.C_alloc ?_ _) | (with_reducible refine Kd.C_drewN ?_ _) | (with_reducible refine Kd.C_drew ?_)))); (case side4 => exact HC321_1.out); rintro e w' ⟨rfl, ⟨nd, rfl⟩⟩; (try first | exact ⟨rfl, _, World.drewN_drewN _ _ _⟩ | exact ⟨rfl, _, Eq.trans (World.drewN_drewN _ _ _) (congrArg (World.drewN _) (Nat.add_assoc _ _ _))⟩))); try go_wp2_with (first | (go_at_call 8; (with_reducible refine (ostiarybook_Same_string.calls k2 _ _ ((rd_T52 l0_0 x5_2).f1) _ _ ((rd_T69 l1_0 x5_2).f1) true _ ?side1 ?side2 ?side3 ?side4 A18.out).mono ?_); (case side1 => repeat (first | exact (Kd.C_below HR320_1.out HB.out) | (first | (with_reducible refine Kd.C_alloc ?_ _) | (with_reducible refine Kd.C_drewN ?_ _) | (with_reducible refine Kd.C_drew ?_)))); (case side2 => exact HC320_1.out); (case side3 => repeat (first | exact (Kd.C_below HR321_1.out HB.out) | (first | (with_reducible refine Kd.C_alloc ?_ _) | (with_reducible refine Kd.C_drewN ?_ _) | (with_reducible refine Kd.C_drew ?_)))); (case side4 => exact HC321_1.out); rintro e w' ⟨rfl, ⟨nd, rfl⟩⟩; (try first | exact ⟨rfl, _, World.drewN_drewN _ _ _⟩ | exact ⟨rfl, _, Eq.trans (World.drewN_drewN _ _ _) (congrArg (World.drewN _) (Nat.add_assoc _ _ _))⟩))))
                      go_roundg k2
                      case measure => have := HJ2.out; have := HK2.out; omega
                      case rel => exact ⟨(wrap64 (x5_2 + 1)), (by first | rfl | (simp; done) | (simp [*]; done)), H', ⟨by have := HJ2.out; have := HK2.out; omega⟩, ⟨by (with_reducible repeat (first | refine blk_drewN ?_ _ | refine blk_drew ?_ | refine blk_alloc ?_ _)); exact BK316.out⟩, ⟨by (with_reducible repeat (first | refine blk_drewN ?_ _ | refine blk_drew ?_ | refine blk_alloc ?_ _)); exact BK317.out⟩, ⟨by (repeat (first | (with_reducible first | exact HB.out | apply below_alloc | apply pw_below_drewN | apply below_drew1 | refine below_set ?_ (Aside0.out GE316) | refine below_set ?_ (Aside0.out GE317)) | exact HB.out))⟩⟩
                    · replace c19 := Bool.eq_false_iff.mpr c19
                      subst c19
                      have H1 : (some false) = some r := by rw [if_neg (show ¬ (false = true) by decide)] at H; exact H
                      clear H
                      have H := H1
                      clear H1
                      obtain rfl := Option.some.inj H
                      have hnb23 := NB316_317.out
                      have hnc23 := NB317_316.out
                      have hcz24_0 : wr.cell? ⟨gb316, 0, none⟩ = some (.slice A0_0 l0_0.length c0_0) := (blk_cell BK316.out 0).trans rfl
                      have hcz24_1 : wr.cell? ⟨gb316, 1, none⟩ = some (.bool a0_1) := (blk_cell BK316.out 1).trans rfl
                      have hfz24_0 := blk_frozen BK316.out 0
                      have hfz24_1 := blk_frozen BK316.out 1
                      have p318 : 0 ≤ (x5_2 : Int) := of_decide_eq_true (by first | (with_reducible assumption) | assumption)
                      have q318 : x5_2 < (l0_0.length : Int) := of_decide_eq_true (by first | (with_reducible assumption) | assumption)
                      obtain ⟨ad318, A318_1, c318_1, e318, hx318_0, hx318_1, hl318_1, hi318_1⟩ := at_T52 HR0_0.out x5_2 p318 q318
                      cases e318
                      replace hx318_0 := (HB.out.cell (World.block_lt_of_cell? w _ hx318_0)).trans hx318_0
                      replace hx318_1 := (HB.out.cell (World.block_lt_of_cell? w _ hx318_1)).trans hx318_1
                      have HR318_1 := Aside0.mk hi318_1
                      have HC318_1 := Aside0.mk hl318_1
                      clear hi318_1 hl318_1
                      replace p318 := eq_true p318
                      replace q318 := eq_true q318
                      have hcz25_0 : wr.cell? ⟨gb317, 0, none⟩ = some (.slice A1_0 l1_0.length c1_0) := (blk_cell BK317.out 0).trans rfl
                      have hcz25_1 : wr.cell? ⟨gb317, 1, none⟩ = some (.bool a1_1) := (blk_cell BK317.out 1).trans rfl
                      have hfz25_0 := blk_frozen BK317.out 0
                      have hfz25_1 := blk_frozen BK317.out 1
                      have p319 : 0 ≤ (x5_2 : Int) := of_decide_eq_true (by first | (with_reducible assumption) | assumption)
                      have q319 : x5_2 < (l1_0.length : Int) := of_decide_eq_true (by first | (with_reducible assumption) | assumption)
                      obtain ⟨ad319, A319_1, c319_1, e319, hx319_0, hx319_1, hl319_1, hi319_1⟩ := at_T69 HR1_0.out x5_2 p319 q319
                      cases e319
                      replace hx319_0 := (HB.out.cell (World.block_lt_of_cell? w _ hx319_0)).trans hx319_0
                      replace hx319_1 := (HB.out.cell (World.block_lt_of_cell? w _ hx319_1)).trans hx319_1
                      have HR319_1 := Aside0.mk hi319_1
                      have HC319_1 := Aside0.mk hl319_1
                      clear hi319_1 hl319_1
                      replace p319 := eq_true p319
                      replace q319 := eq_true q319
                      have p320 : 0 ≤ (x5_2 : Int) := of_decide_eq_true (by first | (with_reducible assumption) | assumption)
                      have q320 : x5_2 < (l0_0.length : Int) := of_decide_eq_true (by first | (with_reducible assumption) | assumption)
                      obtain ⟨ad320, A320_1, c320_1, e320, hx320_0, hx320_1, hl320_1, hi320_1⟩ := at_T52 HR0_0.out x5_2 p320 q320
                      obtain rfl : ad318 = ad320 := (by injection e320)
                      replace hx320_0 := (HB.out.cell (World.block_lt_of_cell? w _ hx320_0)).trans hx320_0
                      replace hx320_1 := (HB.out.cell (World.block_lt_of_cell? w _ hx320_1)).trans hx320_1
                      have HR320_1 := Aside0.mk hi320_1
                      have HC320_1 := Aside0.mk hl320_1
                      clear hi320_1 hl320_1
                      replace p320 := eq_true p320
                      replace q320 := eq_true q320
                      have ea_ := Option.some.inj (hx318_1.symm.trans hx320_1)
                      injection ea_ with ea_ en_ ec_
                      subst ea_
                      subst ec_
                      clear en_
                      have p321 : 0 ≤ (x5_2 : Int) := of_decide_eq_true (by first | (with_reducible assumption) | assumption)
                      have q321 : x5_2 < (l1_0.length : Int) := of_decide_eq_true (by first | (with_reducible assumption) | assumption)
                      obtain ⟨ad321, A321_1, c321_1, e321, hx321_0, hx321_1, hl321_1, hi321_1⟩ := at_T69 HR1_0.out x5_2 p321 q321
                      obtain rfl : ad319 = ad321 := (by injection e321)
                      replace hx321_0 := (HB.out.cell (World.block_lt_of_cell? w _ hx321_0)).trans hx321_0
                      replace hx321_1 := (HB.out.cell (World.block_lt_of_cell? w _ hx321_1)).trans hx321_1
                      have HR321_1 := Aside0.mk hi321_1
                      have HC321_1 := Aside0.mk hl321_1
                      clear hi321_1 hl321_1
                      replace p321 := eq_true p321
                      replace q321 := eq_true q321
                      have ea_ := Option.some.inj (hx319_1.symm.trans hx321_1)
                      injection ea_ with ea_ en_ ec_
                      subst ea_
                      subst ec_
                      clear en_
                      go_wp2_with (first | (go_at_call 8; (with_reducible refine (ostiarybook_Same_string.calls k2 _ _ ((rd_T52 l0_0 x5_2).f1) _ _ ((rd_T69 l1_0 x5_2).f1) false _ ?side1 ?side2 ?side3 ?side4 A18.out).mono ?_); (case side1 => repeat (first | exact (Kd.C_below HR320_1.out HB.out) | (first | (with_reducible refine Kd.C_alloc ?_ _) | (with_reducible refine Kd.C_drewN ?_ _) | (with_reducible refine Kd.C_drew ?_)))); (case side2 => exact HC320_1.out); (case side3 => repeat (first | exact (Kd.C_below HR321_1.out HB.out) | (first | (with_reducible refine Kd.C_alloc ?_ _) | (with_reducible refine Kd.C_drewN ?_ _) | (with_reducible refine Kd.C_drew ?_)))); (case side4 => exact HC321_1.out); rintro e w' ⟨rfl, ⟨nd, rfl⟩⟩; (try first | exact ⟨rfl, _, World.drewN_drewN _ _ _⟩ | exact ⟨rfl, _, Eq.trans (World.drewN_drewN _ _ _) (congrArg (World.drewN _) (Nat.add_assoc _ _ _))⟩)))
                      repeat (go_quiet (first | (go_at_call 8; (with_reducible refine (ostiarybook_Same_string.calls k2 _ _ ((rd_T52 l0_0 x5_2).f1) _ _ ((rd_T69 l1_0 x5_2).f1) false _ ?side1 ?side2 ?side3 ?side4 A18.out).mono ?_); (case side1 => repeat (first | exact (Kd.C_below HR320_1.out HB.out) | (first | (with_reducible refine Kd.C_alloc ?_ _) | (with_reducible refine Kd.C_drewN ?_ _) | (with_reducible refine Kd.C_drew ?_)))); (case side2 => exact HC320_1.out); (case side3 => repeat (first | exact (Kd.C_below HR321_1.out HB.out) | (first | (with_reducible refine Kd.C_alloc ?_ _) | (with_reducible refine Kd.C_drewN ?_ _) | (with_reducible refine Kd.C_drew ?_)))); (case side4 => exact HC321_1.out); rintro e w' ⟨rfl, ⟨nd, rfl⟩⟩; (try first | exact ⟨rfl, _, World.drewN_drewN _ _ _⟩ | exact ⟨rfl, _, Eq.trans (World.drewN_drewN _ _ _) (congrArg (World.drewN _) (Nat.add_assoc _ _ _))⟩))); try go_wp2_with (first | (go_at_call 8; (with_reducible refine (ostiarybook_Same_string.calls k2 _ _ ((rd_T52 l0_0 x5_2).f1) _ _ ((rd_T69 l1_0 x5_2).f1) false _ ?side1 ?side2 ?side3 ?side4 A18.out).mono ?_); (case side1 => repeat (first | exact (Kd.C_below HR320_1.out HB.out) | (first | (with_reducible refine Kd.C_alloc ?_ _) | (with_reducible refine Kd.C_drewN ?_ _) | (with_reducible refine Kd.C_drew ?_)))); (case side2 => exact HC320_1.out); (case side3 => repeat (first | exact (Kd.C_below HR321_1.out HB.out) | (first | (with_reducible refine Kd.C_alloc ?_ _) | (with_reducible refine Kd.C_drewN ?_ _) | (with_reducible refine Kd.C_drew ?_)))); (case side4 => exact HC321_1.out); rintro e w' ⟨rfl, ⟨nd, rfl⟩⟩; (try first | exact ⟨rfl, _, World.drewN_drewN _ _ _⟩ | exact ⟨rfl, _, Eq.trans (World.drewN_drewN _ _ _) (congrArg (World.drewN _) (Nat.add_assoc _ _ _))⟩))))
                      go_ret
                      exact ⟨by (first | rfl | (simp [errW_none, errW_some] <;> rfl) | (simp [*, errW_none, errW_some] <;> rfl)), by (repeat (first | (with_reducible first | exact HB.out | apply below_alloc | apply pw_below_drewN | apply below_drew1 | refine below_set ?_ (Aside0.out GE316) | refine below_set ?_ (Aside0.out GE317)) | exact HB.out))⟩
                  · rw [if_neg c17] at H
                    have c17b0 : (((rd_T52 l0_0 x5_2).f0).toList == ((rd_T69 l1_0 x5_2).f0).toList) = false := beq_eq_false_iff_ne.mpr c17
                    have c17b1 : (((rd_T52 l0_0 x5_2).f0).toList != ((rd_T69 l1_0 x5_2).f0).toList) = true := bne_iff_ne.mpr c17
                    obtain rfl := Option.some.inj H
                    have hnb26 := NB316_317.out
                    have hnc26 := NB317_316.out
                    have hcz27_0 : wr.cell? ⟨gb316, 0, none⟩ = some (.slice A0_0 l0_0.length c0_0) := (blk_cell BK316.out 0).trans rfl
                    have hcz27_1 : wr.cell? ⟨gb316, 1, none⟩ = some (.bool a0_1) := (blk_cell BK316.out 1).trans rfl
                    have hfz27_0 := blk_frozen BK316.out 0
                    have hfz27_1 := blk_frozen BK316.out 1
                    have p318 : 0 ≤ (x5_2 : Int) := of_decide_eq_true (by first | (with_reducible assumption) | assumption)
                    have q318 : x5_2 < (l0_0.length : Int) := of_decide_eq_true (by first | (with_reducible assumption) | assumption)
                    obtain ⟨ad318, A318_1, c318_1, e318, hx318_0, hx318_1, hl318_1, hi318_1⟩ := at_T52 HR0_0.out x5_2 p318 q318
                    cases e318
                    replace hx318_0 := (HB.out.cell (World.block_lt_of_cell? w _ hx318_0)).trans hx318_0
                    replace hx318_1 := (HB.out.cell (World.block_lt_of_cell? w _ hx318_1)).trans hx318_1
                    have HR318_1 := Aside0.mk hi318_1
                    have HC318_1 := Aside0.mk hl318_1
                    clear hi318_1 hl318_1
                    replace p318 := eq_true p318
                    replace q318 := eq_true q318
                    have hcz28_0 : wr.cell? ⟨gb317, 0, none⟩ = some (.slice A1_0 l1_0.length c1_0) := (blk_cell BK317.out 0).trans rfl
                    have hcz28_1 : wr.cell? ⟨gb317, 1, none⟩ = some (.bool a1_1) := (blk_cell BK317.out 1).trans rfl
                    have hfz28_0 := blk_frozen BK317.out 0
                    have hfz28_1 := blk_frozen BK317.out 1
                    have p319 : 0 ≤ (x5_2 : Int) := of_decide_eq_true (by first | (with_reducible assumption) | assumption)
                    have q319 : x5_2 < (l1_0.length : Int) := of_decide_eq_true (by first | (with_reducible assumption) | assumption)
                    obtain ⟨ad319, A319_1, c319_1, e319, hx319_0, hx319_1, hl319_1, hi319_1⟩ := at_T69 HR1_0.out x5_2 p319 q319
                    cases e319
                    replace hx319_0 := (HB.out.cell (World.block_lt_of_cell? w _ hx319_0)).trans hx319_0
                    replace hx319_1 := (HB.out.cell (World.block_lt_of_cell? w _ hx319_1)).trans hx319_1
                    have HR319_1 := Aside0.mk hi319_1
                    have HC319_1 := Aside0.mk hl319_1
                    clear hi319_1 hl319_1
                    replace p319 := eq_true p319
                    replace q319 := eq_true q319
                    go_wp2
                    repeat (go_quiet (fail); try go_wp2)
                    go_ret
                    exact ⟨by (first | rfl | (simp [errW_none, errW_some] <;> rfl) | (simp [*, errW_none, errW_some] <;> rfl)), by (repeat (first | (with_reducible first | exact HB.out | apply below_alloc | apply pw_below_drewN | apply below_drew1 | refine below_set ?_ (Aside0.out GE316) | refine below_set ?_ (Aside0.out GE317)) | exact HB.out))⟩
                · rw [if_neg c16] at H
                  exact absurd H (by simp)
              · rw [if_neg c15] at H
                exact absurd H (by simp)
            · rw [if_neg c14] at H
              have c14b0 : decide (x5_2 < (l0_0.length : Int)) = false := decide_eq_false c14
              clear c14
              obtain rfl := Option.some.inj H
              have hnb29 := NB316_317.out
              have hnc29 := NB317_316.out
              have hcz30_0 : wr.cell? ⟨gb316, 0, none⟩ = some (.slice A0_0 l0_0.length c0_0) := (blk_cell BK316.out 0).trans rfl
              have hcz30_1 : wr.cell? ⟨gb316, 1, none⟩ = some (.bool a0_1) := (blk_cell BK316.out 1).trans rfl
              have hfz30_0 := blk_frozen BK316.out 0
              have hfz30_1 := blk_frozen BK316.out 1
              go_wp2
              repeat (go_quiet (fail); try go_wp2)
              go_ret
              exact ⟨by (first | rfl | (simp [errW_none, errW_some] <;> rfl) | (simp [*, errW_none, errW_some] <;> rfl)), by (repeat (first | (with_reducible first | exact HB.out | apply below_alloc | apply pw_below_drewN | apply below_drew1 | refine below_set ?_ (Aside0.out GE316) | refine below_set ?_ (Aside0.out GE317)) | exact HB.out))⟩

/-! ### ostiaryref10_Text: function 21 -/
mutual
def ostiaryref10_Text.l0 : Nat → ByteArray → Int → List (S69) → Bool → Option (ByteArray)
  | 0, _, _, _, _ => none
  | k + 1, x3, x4, x324000, x324001 => if x4 < (x324000.length : Int) then (if x4 > 0 then (if x3.size + 2 ≤ 9223372036854775807 then (ostiaryref10_Text.j1 k (x3 ++ (⟨#[59, 32]⟩ : ByteArray)) x4 x324000 x324001) else (none)) else (ostiaryref10_Text.j1 k x3 x4 x324000 x324001)) else (some x3)
def ostiaryref10_Text.j1 : Nat → ByteArray → Int → List (S69) → Bool → Option (ByteArray)
  | 0, _, _, _, _ => none
  | k + 1, x3, x4, x324000, x324001 => if 0 ≤ x4 then (if x4 < (x324000.length : Int) then (if x3.size + ((rd_T69 x324000 x4).f0).size ≤ 9223372036854775807 then (ostiaryref10_Text.l1 k (x3 ++ ((rd_T69 x324000 x4).f0)) x4 0 x324000 x324001) else (none)) else (none)) else (none)
def ostiaryref10_Text.l1 : Nat → ByteArray → Int → Int → List (S69) → Bool → Option (ByteArray)
  | 0, _, _, _, _, _ => none
  | k + 1, x3, x4, x5, x324000, x324001 => if 0 ≤ x4 then (if x4 < (x324000.length : Int) then (if x5 < (((rd_T69 x324000 x4).f1).length : Int) then (if x3.size + 1 ≤ 9223372036854775807 then (if 0 ≤ x5 then (if (x3 ++ (⟨#[32]⟩ : ByteArray)).size + (rdOf ByteArray.empty ((rd_T69 x324000 x4).f1) x5).size ≤ 9223372036854775807 then (ostiaryref10_Text.l1 k ((x3 ++ (⟨#[32]⟩ : ByteArray)) ++ (rdOf ByteArray.empty ((rd_T69 x324000 x4).f1) x5)) x4 (wrap64 (x5 + 1)) x324000 x324001) else (none)) else (none)) else (none)) else (ostiaryref10_Text.l0 k x3 (wrap64 (x4 + 1)) x324000 x324001)) else (none)) else (none)
end
def ostiaryref10_Text.f (k : Nat) (l0_0 : List (S69)) (a0_1 : Bool) : Option (ByteArray) := ostiaryref10_Text.l0 k (⟨#[]⟩ : ByteArray) 0 l0_0 a0_1
theorem ostiaryref10_Text.mono_l : ∀ k, (∀ y0 y1 y2 y3, LeO (ostiaryref10_Text.l0 k y0 y1 y2 y3) (ostiaryref10_Text.l0 (k + 1) y0 y1 y2 y3)) ∧ (∀ y0 y1 y2 y3, LeO (ostiaryref10_Text.j1 k y0 y1 y2 y3) (ostiaryref10_Text.j1 (k + 1) y0 y1 y2 y3)) ∧ (∀ y0 y1 y2 y3 y4, LeO (ostiaryref10_Text.l1 k y0 y1 y2 y3 y4) (ostiaryref10_Text.l1 (k + 1) y0 y1 y2 y3 y4))
  | 0 => ⟨fun _ _ _ _ r h => by simp [ostiaryref10_Text.l0] at h, fun _ _ _ _ r h => by simp [ostiaryref10_Text.j1] at h, fun _ _ _ _ _ r h => by simp [ostiaryref10_Text.l1] at h⟩
  | k + 1 => by
    obtain ⟨ih0, ih1, ih2⟩ := ostiaryref10_Text.mono_l k
    refine ⟨?_, ?_, ?_⟩
    · intro y0 y1 y2 y3
      unfold ostiaryref10_Text.l0
      repeat' first
      | (with_reducible exact ih0 _ _ _ _)
      | (with_reducible exact ih1 _ _ _ _)
      | (with_reducible exact ih2 _ _ _ _ _)
      | (with_reducible exact LeO.refl _)
      | (with_reducible exact LeO.none _)
      | (with_reducible refine LeO.ite ?_ ?_)
      | (with_reducible refine LeO.bind ?_ (fun _ => ?_))
      | exact ih0 _ _ _ _
      | exact ih1 _ _ _ _
      | exact ih2 _ _ _ _ _
      | exact LeO.none _
      | refine LeO.ite ?_ ?_
      | refine LeO.bind ?_ (fun _ => ?_)
    · intro y0 y1 y2 y3
      unfold ostiaryref10_Text.j1
      repeat' first
      | (with_reducible exact ih0 _ _ _ _)
      | (with_reducible exact ih1 _ _ _ _)
      | (with_reducible exact ih2 _ _ _ _ _)
      | (with_reducible exact LeO.refl _)
      | (with_reducible exact LeO.none _)
      | (with_reducible refine LeO.ite ?_ ?_)
      | (with_reducible refine LeO.bind ?_ (fun _ => ?_))
      | exact ih0 _ _ _ _
      | exact ih1 _ _ _ _
      | exact ih2 _ _ _ _ _
      | exact LeO.none _
      | refine LeO.ite ?_ ?_
      | refine LeO.bind ?_ (fun _ => ?_)
    · intro y0 y1 y2 y3 y4
      unfold ostiaryref10_Text.l1
      repeat' first
      | (with_reducible exact ih0 _ _ _ _)
      | (with_reducible exact ih1 _ _ _ _)
      | (with_reducible exact ih2 _ _ _ _ _)
      | (with_reducible exact LeO.refl _)
      | (with_reducible exact LeO.none _)
      | (with_reducible refine LeO.ite ?_ ?_)
      | (with_reducible refine LeO.bind ?_ (fun _ => ?_))
      | exact ih0 _ _ _ _
      | exact ih1 _ _ _ _
      | exact ih2 _ _ _ _ _
      | exact LeO.none _
      | refine LeO.ite ?_ ?_
      | refine LeO.bind ?_ (fun _ => ?_)
theorem ostiaryref10_Text.mono : ∀ a0 a1 k, LeO (ostiaryref10_Text.f k a0 a1) (ostiaryref10_Text.f (k + 1) a0 a1) := by
  intro a0 a1 k
  obtain ⟨ih0, ih1, ih2⟩ := ostiaryref10_Text.mono_l k
  unfold ostiaryref10_Text.f
  repeat' first
      | (with_reducible exact ih0 _ _ _ _)
      | (with_reducible exact ih1 _ _ _ _)
      | (with_reducible exact ih2 _ _ _ _ _)
      | (with_reducible exact LeO.refl _)
      | (with_reducible exact LeO.none _)
      | (with_reducible refine LeO.ite ?_ ?_)
      | (with_reducible refine LeO.bind ?_ (fun _ => ?_))
      | exact ih0 _ _ _ _
      | exact ih1 _ _ _ _
      | exact ih2 _ _ _ _ _
      | exact LeO.none _
      | refine LeO.ite ?_ ?_
      | refine LeO.bind ?_ (fun _ => ?_)
set_option maxHeartbeats 8000000 in
set_option maxRecDepth 100000 in
theorem ostiaryref10_Text.calls (k : Nat) (A0_0 : Option Addr) (c0_0 : Nat) (l0_0 : List (S69)) (a0_1 : Bool) (r : ByteArray) (w : World) (hr0_0 : Kd.C k69 w A0_0 l0_0.length l0_0) (hc0_0 : l0_0.length ≤ c0_0) (h : ostiaryref10_Text.f k l0_0 a0_1 = some r) :
    Calls Tryd.prog 21 #[.agg #[.slice A0_0 l0_0.length c0_0, .bool a0_1]] w fun e w' => e = .returned (.string r) ∧ Below w.heap.size w w' := by
  have hu41 := Tryd.underlying41
  have HR0_0 := Aside0.mk hr0_0
  have HC0_0 := Aside0.mk hc0_0
  clear hr0_0 hc0_0
  have HB := Am (Below.refl w.heap.size w)
  have H : (ostiaryref10_Text.l0 k (⟨#[]⟩ : ByteArray) 0 l0_0 a0_1) = some r := h
  clear h
  have H' := Aside0.mk H
  clear H
  go_enter Tryd.func21, Tryd.ntmps21
  go_wp2_with (first | ((with_reducible refine gate_dst (N := 1) rfl ?_); refine box_event ?hg (N := 1) ?hd (cs := #[.slice A0_0 l0_0.length c0_0, .bool a0_1]) (t := 41) ?hr ?_; ((case hd => rfl); (case hg => rfl); (case hr => first | (go_simp; done) | (go_simp; rfl))); intro gb323 hg w2 hbox hb; have n0_ := Am (below_step (by (repeat (first | (with_reducible first | exact HB.out | apply below_alloc | apply pw_below_drewN | apply below_drew1) | exact HB.out))) hb); have n1_ := Am (hbox); have n2_ := Am ((by rw [hg]; exact (below_size (by (repeat (first | (with_reducible first | exact HB.out | apply below_alloc | apply pw_below_drewN | apply below_drew1) | exact HB.out)))) : w.heap.size ≤ gb323)); have n3_ := Am ((by rw [hg]; exact (below_size (by (repeat (first | (with_reducible first | exact HB.out | apply below_alloc | apply pw_below_drewN | apply below_drew1) | exact HB.out)))) : w.heap.size ≤ gb323)); clear HB; have HB := n0_; have BK323 := n1_; have GW323 := n2_; have GE323 := n3_; clear n0_ n1_ n2_ n3_; clear hb hbox hg))
  go_loopg [3, 4] k (fun kq v3 v4 w' => ∃ (x3_1 : ByteArray) (x4_1 : Int), v3 = .string x3_1 ∧ v4 = .int .i64 x4_1 ∧ Aside0 (ostiaryref10_Text.l0 kq x3_1 x4_1 l0_0 a0_1 = some r) ∧ Aside0 (kq ≤ k) ∧ Aside0 (w'.heap[gb323]? = some (.cells #[(.slice A0_0 l0_0.length c0_0), .bool a0_1] 41 (0, 0))) ∧ Aside0 (Below w.heap.size w w'))
  case atStart => exact ⟨((⟨#[]⟩ : ByteArray)), (0), (by first | rfl | (simp; done) | (simp [*]; done)), (by first | rfl | (simp; done) | (simp [*]; done)), H', ⟨Nat.le_refl _⟩, ⟨by (with_reducible repeat (first | refine blk_drewN ?_ _ | refine blk_drew ?_ | refine blk_alloc ?_ _)); exact BK323.out⟩, ⟨by (repeat (first | (with_reducible first | exact HB.out | apply below_alloc | apply pw_below_drewN | apply below_drew1 | refine below_set ?_ (Aside0.out GE323)) | exact HB.out))⟩⟩
  case round =>
    clear H'
    try clear c2
    try clear p2
    obtain ⟨x3_1, x4_1, rfl, rfl, HA, HK1, BK323, HB⟩ := hrel
    cases gk with
    | zero => exact absurd HA.out (by simp [ostiaryref10_Text.l0])
    | succ k1 =>
      have H := HA.out
      clear HA
      simp only [ostiaryref10_Text.l0] at H
      by_cases c3 : x4_1 < (l0_0.length : Int)
      · rw [if_pos c3] at H
        have c3b0 : decide (x4_1 < (l0_0.length : Int)) = true := decide_eq_true c3
        clear c3
        have HC4 := Aside0.mk H
        clear H
        have hcz5_0 : wr.cell? ⟨gb323, 0, none⟩ = some (.slice A0_0 l0_0.length c0_0) := (blk_cell BK323.out 0).trans rfl
        have hcz5_1 : wr.cell? ⟨gb323, 1, none⟩ = some (.bool a0_1) := (blk_cell BK323.out 1).trans rfl
        have hfz5_0 := blk_frozen BK323.out 0
        have hfz5_1 := blk_frozen BK323.out 1
        go_upto_if 14 with (fail)
        go_cut [3] (fun v3 wc => ∃ (kq : Nat) (x3_3 : ByteArray), v3 = .string x3_3 ∧ Aside0 (ostiaryref10_Text.j1 kq x3_3 x4_1 l0_0 a0_1 = some r) ∧ Aside0 (kq ≤ k1) ∧ Aside0 (wc.heap[gb323]? = some (.cells #[(.slice A0_0 l0_0.length c0_0), .bool a0_1] 41 (0, 0))) ∧ Aside0 (Below w.heap.size w wc))
        case first =>
          have H := HC4.out
          clear HC4
          by_cases c6 : x4_1 > 0
          · rw [if_pos c6] at H
            have c6b0 : decide (0 < x4_1) = true := decide_eq_true c6
            clear c6
            (first | rw [c6b0] | (simp only [i64_w, i32_w]; rw [c6b0]) | skip)
            by_cases c7 : x3_1.size + 2 ≤ 9223372036854775807
            · rw [if_pos c7] at H
              have c7b0 := eq_true c7
              have c7b1 : decide (x3_1.size + 2 ≤ 9223372036854775807) = true := decide_eq_true c7
              try have c7b2 : (9223372036854775807 < x3_1.size + 2) = False := eq_false (Nat.not_lt.2 c7)
              have H' := Aside0.mk H
              clear H
              go_wp2
              go_meet
              case rel => exact ⟨_, (x3_1 ++ (⟨#[59, 32]⟩ : ByteArray)), (by first | rfl | (simp; done) | (simp [*]; done)), H', ⟨by have := HK1.out; first | omega | exact Nat.le_refl _⟩, ⟨by (with_reducible repeat (first | refine blk_drewN ?_ _ | refine blk_drew ?_ | refine blk_alloc ?_ _)); exact BK323.out⟩, ⟨by (repeat (first | (with_reducible first | exact HB.out | apply below_alloc | apply pw_below_drewN | apply below_drew1 | refine below_set ?_ (Aside0.out GE323)) | exact HB.out))⟩⟩
            · rw [if_neg c7] at H
              exact absurd H (by simp)
          · rw [if_neg c6] at H
            have c6b0 : decide (0 < x4_1) = false := decide_eq_false c6
            clear c6
            (first | rw [c6b0] | (simp only [i64_w, i32_w]; rw [c6b0]) | skip)
            have H' := Aside0.mk H
            clear H
            go_wp2
            go_meet
            case rel => exact ⟨_, (x3_1), (by first | rfl | (simp; done) | (simp [*]; done)), H', ⟨by have := HK1.out; first | omega | exact Nat.le_refl _⟩, ⟨by (with_reducible repeat (first | refine blk_drewN ?_ _ | refine blk_drew ?_ | refine blk_alloc ?_ _)); exact BK323.out⟩, ⟨by (repeat (first | (with_reducible first | exact HB.out | apply below_alloc | apply pw_below_drewN | apply below_drew1 | refine below_set ?_ (Aside0.out GE323)) | exact HB.out))⟩⟩
        case rest =>
          clear HC4
          try clear c2
          try clear p2
          try clear c3
          try clear c3b0
          try clear c6
          try clear c6b0
          try clear c7
          try clear c7b0
          try clear c7b1
          try clear c7b2
          try clear hcz5_0
          try clear hcz5_1
          try clear hfz5_0
          try clear hfz5_1
          try clear p2
          obtain ⟨kq, x3_3, rfl, HA, HJ3, BK323, HB⟩ := hcut
          cases kq with
          | zero => exact absurd HA.out (by simp [ostiaryref10_Text.j1])
          | succ kj3 =>
            have H := HA.out
            clear HA
            simp only [ostiaryref10_Text.j1] at H
            by_cases c8 : 0 ≤ x4_1
            · rw [if_pos c8] at H
              have c8b0 : decide (0 ≤ x4_1) = true := decide_eq_true c8
              clear c8
              by_cases c9 : x4_1 < (l0_0.length : Int)
              · rw [if_pos c9] at H
                have c9b0 : decide (x4_1 < (l0_0.length : Int)) = true := decide_eq_true c9
                clear c9
                by_cases c10 : x3_3.size + ((rd_T69 l0_0 x4_1).f0).size ≤ 9223372036854775807
                · rw [if_pos c10] at H
                  have c10b0 := eq_true c10
                  have c10b1 : decide (x3_3.size + ((rd_T69 l0_0 x4_1).f0).size ≤ 9223372036854775807) = true := decide_eq_true c10
                  try have c10b2 : (9223372036854775807 < x3_3.size + ((rd_T69 l0_0 x4_1).f0).size) = False := eq_false (Nat.not_lt.2 c10)
                  have H' := Aside0.mk H
                  clear H
                  have hcz11_0 : wc.cell? ⟨gb323, 0, none⟩ = some (.slice A0_0 l0_0.length c0_0) := (blk_cell BK323.out 0).trans rfl
                  have hcz11_1 : wc.cell? ⟨gb323, 1, none⟩ = some (.bool a0_1) := (blk_cell BK323.out 1).trans rfl
                  have hfz11_0 := blk_frozen BK323.out 0
                  have hfz11_1 := blk_frozen BK323.out 1
                  have p324 : 0 ≤ (x4_1 : Int) := of_decide_eq_true (by first | (with_reducible assumption) | assumption)
                  have q324 : x4_1 < (l0_0.length : Int) := of_decide_eq_true (by first | (with_reducible assumption) | assumption)
                  obtain ⟨ad324, A324_1, c324_1, e324, hx324_0, hx324_1, hl324_1, hi324_1⟩ := at_T69 HR0_0.out x4_1 p324 q324
                  cases e324
                  replace hx324_0 := (HB.out.cell (World.block_lt_of_cell? w _ hx324_0)).trans hx324_0
                  replace hx324_1 := (HB.out.cell (World.block_lt_of_cell? w _ hx324_1)).trans hx324_1
                  have HR324_1 := Aside0.mk hi324_1
                  have HC324_1 := Aside0.mk hl324_1
                  clear hi324_1 hl324_1
                  replace p324 := eq_true p324
                  replace q324 := eq_true q324
                  go_wp2
                  go_loopg [3, 5] kj3 (fun kq v3 v5 w' => ∃ (x3_3 : ByteArray) (x5_3 : Int), v3 = .string x3_3 ∧ v5 = .int .i64 x5_3 ∧ Aside0 (ostiaryref10_Text.l1 kq x3_3 x4_1 x5_3 l0_0 a0_1 = some r) ∧ Aside0 (kq ≤ kj3) ∧ Aside0 (w'.heap[gb323]? = some (.cells #[(.slice (some ad324) l0_0.length c0_0), .bool a0_1] 41 (0, 0))) ∧ Aside0 (Below w.heap.size w w'))
                  case atStart => exact ⟨(x3_3 ++ ((rd_T69 l0_0 x4_1).f0)), (0), (by first | rfl | (simp; done) | (simp [*]; done)), (by first | rfl | (simp; done) | (simp [*]; done)), H', ⟨Nat.le_refl _⟩, ⟨by (with_reducible repeat (first | refine blk_drewN ?_ _ | refine blk_drew ?_ | refine blk_alloc ?_ _)); exact BK323.out⟩, ⟨by (repeat (first | (with_reducible first | exact HB.out | apply below_alloc | apply pw_below_drewN | apply below_drew1 | refine below_set ?_ (Aside0.out GE323)) | exact HB.out))⟩⟩
                  case round =>
                    clear H'
                    try clear c1
                    try clear c2
                    try clear p2
                    try clear c3
                    try clear c3b0
                    try clear p3
                    try clear q3
                    try clear hx3
                    try clear c6
                    try clear c6b0
                    try clear c7
                    try clear c7b0
                    try clear c7b1
                    try clear c7b2
                    try clear c8
                    try clear c8b0
                    try clear c9
                    try clear c9b0
                    try clear c10
                    try clear c10b0
                    try clear c10b1
                    try clear c10b2
                    try clear hcz11_0
                    try clear hcz11_1
                    try clear hcz5_0
                    try clear hcz5_1
                    try clear hfz11_0
                    try clear hfz11_1
                    try clear hfz5_0
                    try clear hfz5_1
                    try clear hx324_0
                    try clear hx324_1
                    try clear p2
                    try clear p324
                    try clear q324
                    obtain ⟨x3_3, x5_3, rfl, rfl, HA, HK3, BK323, HB⟩ := hrel
                    cases gk with
                    | zero => exact absurd HA.out (by simp [ostiaryref10_Text.l1])
                    | succ k3 =>
                      have H := HA.out
                      clear HA
                      simp only [ostiaryref10_Text.l1] at H
                      by_cases c12 : 0 ≤ x4_1
                      · rw [if_pos c12] at H
                        have c12b0 : decide (0 ≤ x4_1) = true := decide_eq_true c12
                        clear c12
                        by_cases c13 : x4_1 < (l0_0.length : Int)
                        · rw [if_pos c13] at H
                          have c13b0 : decide (x4_1 < (l0_0.length : Int)) = true := decide_eq_true c13
                          clear c13
                          by_cases c14 : x5_3 < (((rd_T69 l0_0 x4_1).f1).length : Int)
                          · rw [if_pos c14] at H
                            have c14b0 : decide (x5_3 < (((rd_T69 l0_0 x4_1).f1).length : Int)) = true := decide_eq_true c14
                            clear c14
                            by_cases c15 : x3_3.size + 1 ≤ 9223372036854775807
                            · rw [if_pos c15] at H
                              have c15b0 := eq_true c15
                              have c15b1 : decide (x3_3.size + 1 ≤ 9223372036854775807) = true := decide_eq_true c15
                              try have c15b2 : (9223372036854775807 < x3_3.size + 1) = False := eq_false (Nat.not_lt.2 c15)
                              by_cases c16 : 0 ≤ x5_3
                              · rw [if_pos c16] at H
                                have c16b0 : decide (0 ≤ x5_3) = true := decide_eq_true c16
                                clear c16
                                by_cases c17 : (x3_3 ++ (⟨#[32]⟩ : ByteArray)).size + (rdOf ByteArray.empty ((rd_T69 l0_0 x4_1).f1) x5_3).size ≤ 9223372036854775807
                                · rw [if_pos c17] at H
                                  have c17b0 := eq_true c17
                                  have c17b1 : decide ((x3_3 ++ (⟨#[32]⟩ : ByteArray)).size + (rdOf ByteArray.empty ((rd_T69 l0_0 x4_1).f1) x5_3).size ≤ 9223372036854775807) = true := decide_eq_true c17
                                  try have c17b2 : (9223372036854775807 < (x3_3 ++ (⟨#[32]⟩ : ByteArray)).size + (rdOf ByteArray.empty ((rd_T69 l0_0 x4_1).f1) x5_3).size) = False := eq_false (Nat.not_lt.2 c17)
                                  have H' := Aside0.mk H
                                  clear H
                                  have hcz18_0 : wr.cell? ⟨gb323, 0, none⟩ = some (.slice (some ad324) l0_0.length c0_0) := (blk_cell BK323.out 0).trans rfl
                                  have hcz18_1 : wr.cell? ⟨gb323, 1, none⟩ = some (.bool a0_1) := (blk_cell BK323.out 1).trans rfl
                                  have hfz18_0 := blk_frozen BK323.out 0
                                  have hfz18_1 := blk_frozen BK323.out 1
                                  have p325 : 0 ≤ (x4_1 : Int) := of_decide_eq_true (by first | (with_reducible assumption) | assumption)
                                  have q325 : x4_1 < (l0_0.length : Int) := of_decide_eq_true (by first | (with_reducible assumption) | assumption)
                                  obtain ⟨ad325, A325_1, c325_1, e325, hx325_0, hx325_1, hl325_1, hi325_1⟩ := at_T69 HR0_0.out x4_1 p325 q325
                                  obtain rfl : ad324 = ad325 := (by injection e325)
                                  replace hx325_0 := (HB.out.cell (World.block_lt_of_cell? w _ hx325_0)).trans hx325_0
                                  replace hx325_1 := (HB.out.cell (World.block_lt_of_cell? w _ hx325_1)).trans hx325_1
                                  have HR325_1 := Aside0.mk hi325_1
                                  have HC325_1 := Aside0.mk hl325_1
                                  clear hi325_1 hl325_1
                                  replace p325 := eq_true p325
                                  replace q325 := eq_true q325
                                  have p326 : 0 ≤ (x4_1 : Int) := of_decide_eq_true (by first | (with_reducible assumption) | assumption)
                                  have q326 : x4_1 < (l0_0.length : Int) := of_decide_eq_true (by first | (with_reducible assumption) | assumption)
                                  obtain ⟨ad326, A326_1, c326_1, e326, hx326_0, hx326_1, hl326_1, hi326_1⟩ := at_T69 HR0_0.out x4_1 p326 q326
                                  obtain rfl : ad324 = ad326 := (by injection e326)
                                  replace hx326_0 := (HB.out.cell (World.block_lt_of_cell? w _ hx326_0)).trans hx326_0
                                  replace hx326_1 := (HB.out.cell (World.block_lt_of_cell? w _ hx326_1)).trans hx326_1
                                  have HR326_1 := Aside0.mk hi326_1
                                  have HC326_1 := Aside0.mk hl326_1
                                  clear hi326_1 hl326_1
                                  replace p326 := eq_true p326
                                  replace q326 := eq_true q326
                                  have ea_ := Option.some.inj (hx325_1.symm.trans hx326_1)
                                  injection ea_ with ea_ en_ ec_
                                  subst ea_
                                  subst ec_
                                  clear en_
                                  have p327 : 0 ≤ (x5_3 : Int) := of_decide_eq_true (by first | (with_reducible assumption) | assumption)
                                  have q327 : x5_3 < (((rd_T69 l0_0 x4_1).f1).length : Int) := of_decide_eq_true (by first | (with_reducible assumption) | assumption)
                                  obtain ⟨ad327, e327, hx327_0⟩ := Kd.at_string HR326_1.out x5_3 p327 q327
                                  cases e327
                                  replace hx327_0 := (HB.out.cell (World.block_lt_of_cell? w _ hx327_0)).trans hx327_0
                                  replace p327 := eq_true p327
                                  replace q327 := eq_true q327
                                  go_wp2
                                  go_roundg k3
                                  case measure => have := HK1.out; have := HJ3.out; have := HK3.out; omega
                                  case rel => exact ⟨((x3_3 ++ (⟨#[32]⟩ : ByteArray)) ++ (rdOf ByteArray.empty ((rd_T69 l0_0 x4_1).f1) x5_3)), (wrap64 (x5_3 + 1)), (by first | rfl | (simp; done) | (simp [*]; done)), (by first | rfl | (simp; done) | (simp [*]; done)), H', ⟨by have := HK1.out; have := HJ3.out; have := HK3.out; omega⟩, ⟨by (with_reducible repeat (first | refine blk_drewN ?_ _ | refine blk_drew ?_ | refine blk_alloc ?_ _)); exact BK323.out⟩, ⟨by (repeat (first | (with_reducible first | exact HB.out | apply below_alloc | apply pw_below_drewN | apply below_drew1 | refine below_set ?_ (Aside0.out GE323)) | exact HB.out))⟩⟩
                                · rw [if_neg c17] at H
                                  exact absurd H (by simp)
                              · rw [if_neg c16] at H
                                exact absurd H (by simp)
                            · rw [if_neg c15] at H
                              exact absurd H (by simp)
                          · rw [if_neg c14] at H
                            have c14b0 : decide (x5_3 < (((rd_T69 l0_0 x4_1).f1).length : Int)) = false := decide_eq_false c14
                            clear c14
                            have H' := Aside0.mk H
                            clear H
                            have hcz19_0 : wr.cell? ⟨gb323, 0, none⟩ = some (.slice (some ad324) l0_0.length c0_0) := (blk_cell BK323.out 0).trans rfl
                            have hcz19_1 : wr.cell? ⟨gb323, 1, none⟩ = some (.bool a0_1) := (blk_cell BK323.out 1).trans rfl
                            have hfz19_0 := blk_frozen BK323.out 0
                            have hfz19_1 := blk_frozen BK323.out 1
                            have p325 : 0 ≤ (x4_1 : Int) := of_decide_eq_true (by first | (with_reducible assumption) | assumption)
                            have q325 : x4_1 < (l0_0.length : Int) := of_decide_eq_true (by first | (with_reducible assumption) | assumption)
                            obtain ⟨ad325, A325_1, c325_1, e325, hx325_0, hx325_1, hl325_1, hi325_1⟩ := at_T69 HR0_0.out x4_1 p325 q325
                            obtain rfl : ad324 = ad325 := (by injection e325)
                            replace hx325_0 := (HB.out.cell (World.block_lt_of_cell? w _ hx325_0)).trans hx325_0
                            replace hx325_1 := (HB.out.cell (World.block_lt_of_cell? w _ hx325_1)).trans hx325_1
                            have HR325_1 := Aside0.mk hi325_1
                            have HC325_1 := Aside0.mk hl325_1
                            clear hi325_1 hl325_1
                            replace p325 := eq_true p325
                            replace q325 := eq_true q325
                            go_wp2
                            go_roundg k3
                            case measure => have := HK1.out; have := HJ3.out; have := HK3.out; omega
                            case rel => exact ⟨(x3_3), (wrap64 (x4_1 + 1)), (by first | rfl | (simp; done) | (simp [*]; done)), (by first | rfl | (simp; done) | (simp [*]; done)), H', ⟨by have := HK1.out; have := HJ3.out; have := HK3.out; omega⟩, ⟨by (with_reducible repeat (first | refine blk_drewN ?_ _ | refine blk_drew ?_ | refine blk_alloc ?_ _)); exact BK323.out⟩, ⟨by (repeat (first | (with_reducible first | exact HB.out | apply below_alloc | apply pw_below_drewN | apply below_drew1 | refine below_set ?_ (Aside0.out GE323)) | exact HB.out))⟩⟩
                        · rw [if_neg c13] at H
                          exact absurd H (by simp)
                      · rw [if_neg c12] at H
                        exact absurd H (by simp)
                · rw [if_neg c10] at H
                  exact absurd H (by simp)
              · rw [if_neg c9] at H
                exact absurd H (by simp)
            · rw [if_neg c8] at H
              exact absurd H (by simp)
      · rw [if_neg c3] at H
        have c3b0 : decide (x4_1 < (l0_0.length : Int)) = false := decide_eq_false c3
        clear c3
        obtain rfl := Option.some.inj H
        have hcz20_0 : wr.cell? ⟨gb323, 0, none⟩ = some (.slice A0_0 l0_0.length c0_0) := (blk_cell BK323.out 0).trans rfl
        have hcz20_1 : wr.cell? ⟨gb323, 1, none⟩ = some (.bool a0_1) := (blk_cell BK323.out 1).trans rfl
        have hfz20_0 := blk_frozen BK323.out 0
        have hfz20_1 := blk_frozen BK323.out 1
        go_wp2
        go_ret
        exact ⟨by (first | rfl | (simp [errW_none, errW_some] <;> rfl) | (simp [*, errW_none, errW_some] <;> rfl)), by (repeat (first | (with_reducible first | exact HB.out | apply below_alloc | apply pw_below_drewN | apply below_drew1 | refine below_set ?_ (Aside0.out GE323)) | exact HB.out))⟩

end Go.Proofs.YtohcjdninpjpgaaDoor.PX
