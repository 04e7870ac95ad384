/- Functions of the program and their walks, printed by a program. -/
import Derived.Test.YtohcjdninpjpgaaDoorCpolicyPolicyrule
import Derived.Test.YtohcjdninpjpgaaDoorCpolicyRule
import Derived.Test.YtohcjdninpjpgaaDoorCstringsJoin
import Derived.Test.YtohcjdninpjpgaaDoorCslicesClonestringstring
import Derived.Test.YtohcjdninpjpgaaDoorCpolicywords
import Derived.Test.YtohcjdninpjpgaaDoorCstringsSplit
import Derived.Test.YtohcjdninpjpgaaDoorCostiaryref1Lower
import Derived.Test.YtohcjdninpjpgaaDoorCinfraLower
import Derived.Test.YtohcjdninpjpgaaDoorPXx0
import Derived.Test.YtohcjdninpjpgaaDoorPXx2
import Derived.Test.YtohcjdninpjpgaaDoorPXx3
namespace Go.Proofs.YtohcjdninpjpgaaDoor.PX
open Go.Proofs.YtohcjdninpjpgaaDoor.Own
open Go.RowKit Go.Proofs.YtohcjdninpjpgaaDoorW.PrintWords Go.Proofs.YtohcjdninpjpgaaDoorW.PrintLast Go.Proofs.YtohcjdninpjpgaaDoorW.PrintMore
attribute [local go_sem] max2_int min2_int max_two min_two max_three min_three max_four min_four   -- for this text's walks alone
set_option linter.unusedVariables false
set_option linter.unusedSimpArgs false

/-! ### ostiarylaw10_PolicyBack: function 5 -/
mutual
def ostiarylaw10_PolicyBack.l0 : Nat → Bool → ByteArray → Int → List (S52) → Bool → List (S52) → Bool → Option (Bool)
  | 0, _, _, _, _, _, _, _ => none
  | k + 1, x1, x6, x8, x410000, x410001, x416000, x416001 => if x8 < (x410000.length : Int) then (ostiarylaw10_PolicyBack.l1 k x1 x6 x8 0 x410000 x410001 x416000 x416001) else ((policy_Text.f k x416000 x416001).bind fun t416 => (if t416.toList = x6.toList then (if (x416000.length : Int) = (x410000.length : Int) then (if (x410001 == x1) = true then ((ostiarylaw10_known.f k).bind fun t417 => (some t417)) else (some false)) else (some false)) else (some false)))
def ostiarylaw10_PolicyBack.l1 : Nat → Bool → ByteArray → Int → Int → List (S52) → Bool → List (S52) → Bool → Option (Bool)
  | 0, _, _, _, _, _, _, _, _ => none
  | k + 1, x1, x6, x8, x9, x410000, x410001, x416000, x416001 => if x9 < x8 then (if 0 ≤ x9 then (if x9 < (x410000.length : Int) then (if 0 ≤ x8 then (if x8 < (x410000.length : Int) then (if ((rd_T52 x410000 x9).f0).toList = ((rd_T52 x410000 x8).f0).toList then (some false) else (ostiarylaw10_PolicyBack.l1 k x1 x6 x8 (wrap64 (x9 + 1)) x410000 x410001 x416000 x416001)) else (none)) else (none)) else (none)) else (none)) else (ostiarylaw10_PolicyBack.l0 k x1 x6 (wrap64 (x8 + 1)) x410000 x410001 x416000 x416001)
end
def ostiarylaw10_PolicyBack.f (k : Nat) (a0 : ByteArray) (a1 : Bool) : Option (Bool) := (ostiarykeep_Few.f a0 800).bind fun t404 => ((policy_Parse.f k t404 a1).bind fun bt405 => ((policy_Text.f k bt405.1 bt405.2).bind fun t410 => ((policy_Parse.f k t410 a1).bind fun bt411 => (ostiarylaw10_PolicyBack.l0 k a1 t410 0 bt405.1 bt405.2 bt411.1 bt411.2))))
theorem ostiarylaw10_PolicyBack.mono_l : ∀ k, (∀ y0 y1 y2 y3 y4 y5 y6, LeO (ostiarylaw10_PolicyBack.l0 k y0 y1 y2 y3 y4 y5 y6) (ostiarylaw10_PolicyBack.l0 (k + 1) y0 y1 y2 y3 y4 y5 y6)) ∧ (∀ y0 y1 y2 y3 y4 y5 y6 y7, LeO (ostiarylaw10_PolicyBack.l1 k y0 y1 y2 y3 y4 y5 y6 y7) (ostiarylaw10_PolicyBack.l1 (k + 1) y0 y1 y2 y3 y4 y5 y6 y7))
  | 0 => ⟨fun _ _ _ _ _ _ _ r h => by simp [ostiarylaw10_PolicyBack.l0] at h, fun _ _ _ _ _ _ _ _ r h => by simp [ostiarylaw10_PolicyBack.l1] at h⟩
  | k + 1 => by
    obtain ⟨ih0, ih1⟩ := ostiarylaw10_PolicyBack.mono_l k
    refine ⟨?_, ?_⟩
    · intro y0 y1 y2 y3 y4 y5 y6
      unfold ostiarylaw10_PolicyBack.l0
      repeat' first
      | (with_reducible exact ih0 _ _ _ _ _ _ _)
      | (with_reducible exact ih1 _ _ _ _ _ _ _ _)
      | (with_reducible exact ostiarylaw10_known.mono _)
      | (with_reducible exact policy_Parse.mono _ _ _)
      | (with_reducible exact policy_Text.mono _ _ _)
      | (with_reducible exact LeO.refl _)
      | (with_reducible exact LeO.none _)
      | (with_reducible refine LeO.ite ?_ ?_)
      | (with_reducible refine LeO.bind ?_ (fun _ => ?_))
      | exact ih0 _ _ _ _ _ _ _
      | exact ih1 _ _ _ _ _ _ _ _
      | exact ostiarylaw10_known.mono _
      | exact policy_Parse.mono _ _ _
      | exact policy_Text.mono _ _ _
      | exact LeO.none _
      | refine LeO.ite ?_ ?_
      | refine LeO.bind ?_ (fun _ => ?_)
    · intro y0 y1 y2 y3 y4 y5 y6 y7
      unfold ostiarylaw10_PolicyBack.l1
      repeat' first
      | (with_reducible exact ih0 _ _ _ _ _ _ _)
      | (with_reducible exact ih1 _ _ _ _ _ _ _ _)
      | (with_reducible exact ostiarylaw10_known.mono _)
      | (with_reducible exact policy_Parse.mono _ _ _)
      | (with_reducible exact policy_Text.mono _ _ _)
      | (with_reducible exact LeO.refl _)
      | (with_reducible exact LeO.none _)
      | (with_reducible refine LeO.ite ?_ ?_)
      | (with_reducible refine LeO.bind ?_ (fun _ => ?_))
      | exact ih0 _ _ _ _ _ _ _
      | exact ih1 _ _ _ _ _ _ _ _
      | exact ostiarylaw10_known.mono _
      | exact policy_Parse.mono _ _ _
      | exact policy_Text.mono _ _ _
      | exact LeO.none _
      | refine LeO.ite ?_ ?_
      | refine LeO.bind ?_ (fun _ => ?_)
theorem ostiarylaw10_PolicyBack.mono : ∀ a0 a1 k, LeO (ostiarylaw10_PolicyBack.f k a0 a1) (ostiarylaw10_PolicyBack.f (k + 1) a0 a1) := by
  intro a0 a1 k
  obtain ⟨ih0, ih1⟩ := ostiarylaw10_PolicyBack.mono_l k
  unfold ostiarylaw10_PolicyBack.f
  repeat' first
      | (with_reducible exact ih0 _ _ _ _ _ _ _)
      | (with_reducible exact ih1 _ _ _ _ _ _ _ _)
      | (with_reducible exact ostiarylaw10_known.mono _)
      | (with_reducible exact policy_Parse.mono _ _ _)
      | (with_reducible exact policy_Text.mono _ _ _)
      | (with_reducible exact LeO.refl _)
      | (with_reducible exact LeO.none _)
      | (with_reducible refine LeO.ite ?_ ?_)
      | (with_reducible refine LeO.bind ?_ (fun _ => ?_))
      | exact ih0 _ _ _ _ _ _ _
      | exact ih1 _ _ _ _ _ _ _ _
      | exact ostiarylaw10_known.mono _
      | exact policy_Parse.mono _ _ _
      | exact policy_Text.mono _ _ _
      | exact LeO.none _
      | refine LeO.ite ?_ ?_
      | refine LeO.bind ?_ (fun _ => ?_)
set_option maxHeartbeats 8000000 in
set_option maxRecDepth 100000 in
theorem ostiarylaw10_PolicyBack.calls (k : Nat) (a0 : ByteArray) (a1 : Bool) (r : Bool) (w : World) (h : ostiarylaw10_PolicyBack.f k a0 a1 = some r) :
    Calls Tryd.prog 5 #[.string a0, .bool a1] w fun e w' => e = .returned (.bool r) ∧ Below w.heap.size w w' := by
  have hu33 := Tryd.underlying33
  have HB := Am (Below.refl w.heap.size w)
  have H : ((ostiarykeep_Few.f a0 800).bind fun t404 => ((policy_Parse.f k t404 a1).bind fun bt405 => ((policy_Text.f k bt405.1 bt405.2).bind fun t410 => ((policy_Parse.f k t410 a1).bind fun bt411 => (ostiarylaw10_PolicyBack.l0 k a1 t410 0 bt405.1 bt405.2 bt411.1 bt411.2))))) = some r := h
  clear h
  replace H := Option.bind_eq_some_iff.mp H
  obtain ⟨t404, A30, H⟩ := H
  replace H : ((policy_Parse.f k t404 a1).bind fun bt405 => ((policy_Text.f k bt405.1 bt405.2).bind fun t410 => ((policy_Parse.f k t410 a1).bind fun bt411 => (ostiarylaw10_PolicyBack.l0 k a1 t410 0 bt405.1 bt405.2 bt411.1 bt411.2)))) = some r := H
  have A3 := Aside0.mk A30
  clear A30
  replace H := Option.bind_eq_some_iff.mp H
  obtain ⟨⟨t405, t408⟩, A40, H⟩ := H
  replace H : ((policy_Text.f k t405 t408).bind fun t410 => ((policy_Parse.f k t410 a1).bind fun bt411 => (ostiarylaw10_PolicyBack.l0 k a1 t410 0 t405 t408 bt411.1 bt411.2))) = some r := H
  have A4 := Aside0.mk A40
  clear A40
  replace H := Option.bind_eq_some_iff.mp H
  obtain ⟨t410, A50, H⟩ := H
  replace H : ((policy_Parse.f k t410 a1).bind fun bt411 => (ostiarylaw10_PolicyBack.l0 k a1 t410 0 t405 t408 bt411.1 bt411.2)) = some r := H
  have A5 := Aside0.mk A50
  clear A50
  replace H := Option.bind_eq_some_iff.mp H
  obtain ⟨⟨t411, t414⟩, A60, H⟩ := H
  replace H : (ostiarylaw10_PolicyBack.l0 k a1 t410 0 t405 t408 t411 t414) = some r := H
  have A6 := Aside0.mk A60
  clear A60
  have H' := Aside0.mk H
  clear H
  go_enter Tryd.func5, Tryd.ntmps5
  go_wp2_with (first | (go_at_call 17; (with_reducible refine (ostiarykeep_Few.calls a0 800 t404 _ A3.out).mono ?_); rintro e w' ⟨rfl, ⟨nd, rfl⟩⟩; (try first | exact ⟨rfl, _, World.drewN_drewN _ _ _⟩ | exact ⟨rfl, _, Eq.trans (World.drewN_drewN _ _ _) (congrArg (World.drewN _) (Nat.add_assoc _ _ _))⟩)) | (go_at_call 14; (with_reducible refine (policy_Parse.calls k t404 a1 t405 t408 _ A4.out).mono ?_); rintro e w7 ⟨v406, rfl, ho0, hb⟩; have n0_ := Am (Kd.S_lower ho0 (below_size (by (repeat (first | (with_reducible first | exact HB.out | apply below_alloc | apply pw_below_drewN | apply below_drew1) | exact HB.out))))); have n1_ := Am (below_step (by (repeat (first | (with_reducible first | exact HB.out | apply below_alloc | apply pw_below_drewN | apply below_drew1) | exact HB.out))) hb); clear HB; have HO407 := n0_; have HB := n1_; clear n0_ n1_; ((try clear hb); (try clear hb2); (try clear hk); (try clear hi); (try clear ho0))) | ((with_reducible refine gate_dst (N := 5) rfl ?_); (try (refine gate_guard (by rfl) ?_; dsimp only)); refine box_event ?hg (N := 5) ?hd (cs := #[.slice none 0 0, .bool false]) (t := 33) ?hr ?_; ((case hd => rfl); (case hg => rfl); (case hr => first | (go_simp; done) | (go_simp; rfl))); intro gb409 hg w8 hbox hb; have n0_ := Am (Kd.S_below (by (with_reducible repeat (first | apply Kd.S_alloc | apply Kd.S_drewN | apply Kd.S_drew)); exact HO407.out) hb); have n1_ := Am (below_step (by (repeat (first | (with_reducible first | exact HB.out | apply below_alloc | apply pw_below_drewN | apply below_drew1) | exact HB.out))) hb); have n2_ := Am (hbox); have n3_ := Am ((by rw [hg]; exact (below_size (by (repeat (first | (with_reducible first | exact HB.out | apply below_alloc | apply pw_below_drewN | apply below_drew1) | exact HB.out)))) : w.heap.size ≤ gb409)); have n4_ := Am ((by rw [hg]; exact (below_size (by (repeat (first | (with_reducible first | exact HB.out | apply below_alloc | apply pw_below_drewN | apply below_drew1) | exact HB.out)))) : w.heap.size ≤ gb409)); clear HO407; clear HB; have HO407 := n0_; have HB := n1_; have BK409 := n2_; have GW409 := n3_; have GE409 := n4_; clear n0_ n1_ n2_ n3_ n4_; clear hb hbox hg; obtain ⟨Ao9, co9, eo9⟩ := Kd.S_slice HO407.out; subst eo9; have hcz10_0 : w8.cell? ⟨gb409, 0, none⟩ = some (.slice none 0 0) := (blk_cell BK409.out 0).trans rfl; have hcz10_1 : w8.cell? ⟨gb409, 1, none⟩ = some (.bool false) := (blk_cell BK409.out 1).trans rfl; have hfz10_0 := blk_frozen BK409.out 0; have hfz10_1 := blk_frozen BK409.out 1) | (go_at_call 15; (with_reducible refine (policy_Text.calls k _ _ t405 t408 t410 _ ?side1 ?side2 A5.out).mono ?_); (case side1 => refine (Kd.S_reads' (e := 52) (base := w.heap.size) (ok := fun k_ => True) (n := t405.length) (c := co9) ?_).2.2; exact (by (with_reducible repeat (first | apply Kd.S_alloc | apply Kd.S_drewN | apply Kd.S_drew)); exact (Kd.S_mono (Kd.S_far (p := ⟨gb409, 1, none⟩) (Kd.S_far (p := ⟨gb409, 0, none⟩) (Kd.S_types HO407.out BK409.out (by decide)) (fun _ hk => hk.2) (.slice Ao9 t405.length co9)) (fun _ hk => hk.2) (.bool t408)) (fun _ h_ => h_.1)))); (case side2 => exact (Kd.S_reads' HO407.out).2.1); rintro e w11 ⟨rfl, hb⟩; have n0_ := Am (Kd.S_below (by (with_reducible repeat (first | apply Kd.S_alloc | apply Kd.S_drewN | apply Kd.S_drew)); exact (Kd.S_mono (Kd.S_far (p := ⟨gb409, 1, none⟩) (Kd.S_far (p := ⟨gb409, 0, none⟩) (Kd.S_types HO407.out BK409.out (by decide)) (fun _ hk => hk.2) (.slice Ao9 t405.length co9)) (fun _ hk => hk.2) (.bool t408)) (fun _ h_ => h_.1))) hb); have n1_ := Am (blk_below (g := gb409) (o := .cells #[.slice Ao9 t405.length co9, .bool t408] 33 (0, 0)) (by (with_reducible repeat (first | refine blk_drewN ?_ _ | refine blk_drew ?_ | refine blk_alloc ?_ _)); refine blk_put (cs := #[.slice Ao9 t405.length co9, .bool false]) ?_ 1 _ rfl; (with_reducible repeat (first | refine blk_drewN ?_ _ | refine blk_drew ?_ | refine blk_alloc ?_ _)); refine blk_put (cs := #[.slice none 0 0, .bool false]) ?_ 0 _ rfl; (with_reducible repeat (first | refine blk_drewN ?_ _ | refine blk_drew ?_ | refine blk_alloc ?_ _)); exact BK409.out) hb); have n2_ := Am (below_step (by (repeat (first | (with_reducible first | exact HB.out | apply below_alloc | apply pw_below_drewN | apply below_drew1 | refine below_set ?_ (Aside0.out GE409)) | exact HB.out))) hb); clear HO407; clear BK409; clear HB; have HO407 := n0_; have BK409 := n1_; have HB := n2_; clear n0_ n1_ n2_; (try clear hb); (try clear hb2); (try clear hk); (try clear hi)) | (go_at_call 14; (with_reducible refine (policy_Parse.calls k t410 a1 t411 t414 _ A6.out).mono ?_); rintro e w12 ⟨v412, rfl, ho0, hb⟩; have n0_ := Am (Kd.S_elder' (by (with_reducible repeat (first | apply Kd.S_alloc | apply Kd.S_drewN | apply Kd.S_drew)); exact HO407.out) (Kd.S_base ho0) hb); have n1_ := Am (Kd.S_lower (Kd.S_new' ho0 (Kd.S_lt (by (with_reducible repeat (first | apply Kd.S_alloc | apply Kd.S_drewN | apply Kd.S_drew)); exact HO407.out))) (below_size (by (repeat (first | (with_reducible first | exact HB.out | apply below_alloc | apply pw_below_drewN | apply below_drew1 | refine below_set ?_ (Aside0.out GE409)) | exact HB.out))))); have n2_ := Am (blk_below (g := gb409) (o := .cells #[.slice Ao9 t405.length co9, .bool t408] 33 (0, 0)) (by (with_reducible repeat (first | refine blk_drewN ?_ _ | refine blk_drew ?_ | refine blk_alloc ?_ _)); exact BK409.out) hb); have n3_ := Am (below_step (by (repeat (first | (with_reducible first | exact HB.out | apply below_alloc | apply pw_below_drewN | apply below_drew1 | refine below_set ?_ (Aside0.out GE409)) | exact HB.out))) hb); clear HO407; clear BK409; clear HB; have HO407 := n0_; have HO413 := n1_; have BK409 := n2_; have HB := n3_; clear n0_ n1_ n2_ n3_; ((try clear hb); (try clear hb2); (try clear hk); (try clear hi); (try clear ho0))) | ((with_reducible refine gate_dst (N := 7) rfl ?_); (try (refine gate_guard (by rfl) ?_; dsimp only)); refine box_event ?hg (N := 7) ?hd (cs := #[.slice none 0 0, .bool false]) (t := 33) ?hr ?_; ((case hd => rfl); (case hg => rfl); (case hr => first | (go_simp; done) | (go_simp; rfl))); intro gb415 hg w13 hbox hb; have n0_ := Am (Kd.S_below (by (with_reducible repeat (first | apply Kd.S_alloc | apply Kd.S_drewN | apply Kd.S_drew)); exact HO407.out) hb); have n1_ := Am (Kd.S_below (by (with_reducible repeat (first | apply Kd.S_alloc | apply Kd.S_drewN | apply Kd.S_drew)); exact HO413.out) hb); have n2_ := Am (blk_below (g := gb409) (o := .cells #[.slice Ao9 t405.length co9, .bool t408] 33 (0, 0)) (by (with_reducible repeat (first | refine blk_drewN ?_ _ | refine blk_drew ?_ | refine blk_alloc ?_ _)); exact BK409.out) hb); have n3_ := Am (below_step (by (repeat (first | (with_reducible first | exact HB.out | apply below_alloc | apply pw_below_drewN | apply below_drew1 | refine below_set ?_ (Aside0.out GE409)) | exact HB.out))) hb); have n4_ := Am (hbox); have n5_ := Am ((by rw [hg]; exact (below_size (by (repeat (first | (with_reducible first | exact HB.out | apply below_alloc | apply pw_below_drewN | apply below_drew1 | refine below_set ?_ (Aside0.out GE409)) | exact HB.out)))) : w.heap.size ≤ gb415)); have n6_ := Am ((by rw [hg]; exact (below_size (by (repeat (first | (with_reducible first | exact HB.out | apply below_alloc | apply pw_below_drewN | apply below_drew1 | refine below_set ?_ (Aside0.out GE409)) | exact HB.out)))) : w.heap.size ≤ gb415)); have n7_ := Am ((by rw [hg]; exact Nat.ne_of_lt (blk_lt (g := gb409) (o := .cells #[.slice Ao9 t405.length co9, .bool t408] 33 (0, 0)) (by (with_reducible repeat (first | refine blk_drewN ?_ _ | refine blk_drew ?_ | refine blk_alloc ?_ _)); exact BK409.out)) : gb409 ≠ gb415)); have n8_ := Am ((by rw [hg]; exact Nat.ne_of_gt (blk_lt (g := gb409) (o := .cells #[.slice Ao9 t405.length co9, .bool t408] 33 (0, 0)) (by (with_reducible repeat (first | refine blk_drewN ?_ _ | refine blk_drew ?_ | refine blk_alloc ?_ _)); exact BK409.out)) : gb415 ≠ gb409)); clear HO407; clear HO413; clear BK409; clear HB; have HO407 := n0_; have HO413 := n1_; have BK409 := n2_; have HB := n3_; have BK415 := n4_; have GW415 := n5_; have GE415 := n6_; have NB409_415 := n7_; have NB415_409 := n8_; clear n0_ n1_ n2_ n3_ n4_ n5_ n6_ n7_ n8_; clear hb hbox hg; obtain ⟨Ao14, co14, eo14⟩ := Kd.S_slice HO413.out; subst eo14; have hnb15 := NB415_409.out; have hnc15 := NB409_415.out; have hcz16_0 : w13.cell? ⟨gb415, 0, none⟩ = some (.slice none 0 0) := (blk_cell BK415.out 0).trans rfl; have hcz16_1 : w13.cell? ⟨gb415, 1, none⟩ = some (.bool false) := (blk_cell BK415.out 1).trans rfl; have hfz16_0 := blk_frozen BK415.out 0; have hfz16_1 := blk_frozen BK415.out 1))
  repeat (go_quiet (first | (go_at_call 17; (with_reducible refine (ostiarykeep_Few.calls a0 800 t404 _ A3.out).mono ?_); rintro e w' ⟨rfl, ⟨nd, rfl⟩⟩; (try first | exact ⟨rfl, _, World.drewN_drewN _ _ _⟩ | exact ⟨rfl, _, Eq.trans (World.drewN_drewN _ _ _) (congrArg (World.drewN _) (Nat.add_assoc _ _ _))⟩)) | (go_at_call 14; (with_reducible refine (policy_Parse.calls k t404 a1 t405 t408 _ A4.out).mono ?_); rintro e w7 ⟨v406, rfl, ho0, hb⟩; have n0_ := Am (Kd.S_lower ho0 (below_size (by (repeat (first | (with_reducible first | exact HB.out | apply below_alloc | apply pw_below_drewN | apply below_drew1) | exact HB.out))))); have n1_ := Am (below_step (by (repeat (first | (with_reducible first | exact HB.out | apply below_alloc | apply pw_below_drewN | apply below_drew1) | exact HB.out))) hb); clear HB; have HO407 := n0_; have HB := n1_; clear n0_ n1_; ((try clear hb); (try clear hb2); (try clear hk); (try clear hi); (try clear ho0))) | ((with_reducible refine gate_dst (N := 5) rfl ?_); (try (refine gate_guard (by rfl) ?_; dsimp only)); refine box_event ?hg (N := 5) ?hd (cs := #[.slice none 0 0, .bool false]) (t := 33) ?hr ?_; ((case hd => rfl); (case hg => rfl); (case hr => first | (go_simp; done) | (go_simp; rfl))); intro gb409 hg w8 hbox hb; have n0_ := Am (Kd.S_below (by (with_reducible repeat (first | apply Kd.S_alloc | apply Kd.S_drewN | apply Kd.S_drew)); exact HO407.out) hb); have n1_ := Am (below_step (by (repeat (first | (with_reducible first | exact HB.out | apply below_alloc | apply pw_below_drewN | apply below_drew1) | exact HB.out))) hb); have n2_ := Am (hbox); have n3_ := Am ((by rw [hg]; exact (below_size (by (repeat (first | (with_reducible first | exact HB.out | apply below_alloc | apply pw_below_drewN | apply below_drew1) | exact HB.out)))) : w.heap.size ≤ gb409)); have n4_ := Am ((by rw [hg]; exact (below_size (by (repeat (first | (with_reducible first | exact HB.out | apply below_alloc | apply pw_below_drewN | apply below_drew1) | exact HB.out)))) : w.heap.size ≤ gb409)); clear HO407; clear HB; have HO407 := n0_; have HB := n1_; have BK409 := n2_; have GW409 := n3_; have GE409 := n4_; clear n0_ n1_ n2_ n3_ n4_; clear hb hbox hg; obtain ⟨Ao9, co9, eo9⟩ := Kd.S_slice HO407.out; subst eo9; have hcz10_0 : w8.cell? ⟨gb409, 0, none⟩ = some (.slice none 0 0) := (blk_cell BK409.out 0).trans rfl; have hcz10_1 : w8.cell? ⟨gb409, 1, none⟩ = some (.bool false) := (blk_cell BK409.out 1).trans rfl; have hfz10_0 := blk_frozen BK409.out 0; have hfz10_1 := blk_frozen BK409.out 1) | (go_at_call 15; (with_reducible refine (policy_Text.calls k _ _ t405 t408 t410 _ ?side1 ?side2 A5.out).mono ?_); (case side1 => refine (Kd.S_reads' (e := 52) (base := w.heap.size) (ok := fun k_ => True) (n := t405.length) (c := co9) ?_).2.2; exact (by (with_reducible repeat (first | apply Kd.S_alloc | apply Kd.S_drewN | apply Kd.S_drew)); exact (Kd.S_mono (Kd.S_far (p := ⟨gb409, 1, none⟩) (Kd.S_far (p := ⟨gb409, 0, none⟩) (Kd.S_types HO407.out BK409.out (by decide)) (fun _ hk => hk.2) (.slice Ao9 t405.length co9)) (fun _ hk => hk.2) (.bool t408)) (fun _ h_ => h_.1)))); (case side2 => exact (Kd.S_reads' HO407.out).2.1); rintro e w11 ⟨rfl, hb⟩; have n0_ := Am (Kd.S_below (by (with_reducible repeat (first | apply Kd.S_alloc | apply Kd.S_drewN | apply Kd.S_drew)); exact (Kd.S_mono (Kd.S_far (p := ⟨gb409, 1, none⟩) (Kd.S_far (p := ⟨gb409, 0, none⟩) (Kd.S_types HO407.out BK409.out (by decide)) (fun _ hk => hk.2) (.slice Ao9 t405.length co9)) (fun _ hk => hk.2) (.bool t408)) (fun _ h_ => h_.1))) hb); have n1_ := Am (blk_below (g := gb409) (o := .cells #[.slice Ao9 t405.length co9, .bool t408] 33 (0, 0)) (by (with_reducible repeat (first | refine blk_drewN ?_ _ | refine blk_drew ?_ | refine blk_alloc ?_ _)); refine blk_put (cs := #[.slice Ao9 t405.length co9, .bool false]) ?_ 1 _ rfl; (with_reducible repeat (first | refine blk_drewN ?_ _ | refine blk_drew ?_ | refine blk_alloc ?_ _)); refine blk_put (cs := #[.slice none 0 0, .bool false]) ?_ 0 _ rfl; (with_reducible repeat (first | refine blk_drewN ?_ _ | refine blk_drew ?_ | refine blk_alloc ?_ _)); exact BK409.out) hb); have n2_ := Am (below_step (by (repeat (first | (with_reducible first | exact HB.out | apply below_alloc | apply pw_below_drewN | apply below_drew1 | refine below_set ?_ (Aside0.out GE409)) | exact HB.out))) hb); clear HO407; clear BK409; clear HB; have HO407 := n0_; have BK409 := n1_; have HB := n2_; clear n0_ n1_ n2_; (try clear hb); (try clear hb2); (try clear hk); (try clear hi)) | (go_at_call 14; (with_reducible refine (policy_Parse.calls k t410 a1 t411 t414 _ A6.out).mono ?_); rintro e w12 ⟨v412, rfl, ho0, hb⟩; have n0_ := Am (Kd.S_elder' (by (with_reducible repeat (first | apply Kd.S_alloc | apply Kd.S_drewN | apply Kd.S_drew)); exact HO407.out) (Kd.S_base ho0) hb); have n1_ := Am (Kd.S_lower (Kd.S_new' ho0 (Kd.S_lt (by (with_reducible repeat (first | apply Kd.S_alloc | apply Kd.S_drewN | apply Kd.S_drew)); exact HO407.out))) (below_size (by (repeat (first | (with_reducible first | exact HB.out | apply below_alloc | apply pw_below_drewN | apply below_drew1 | refine below_set ?_ (Aside0.out GE409)) | exact HB.out))))); have n2_ := Am (blk_below (g := gb409) (o := .cells #[.slice Ao9 t405.length co9, .bool t408] 33 (0, 0)) (by (with_reducible repeat (first | refine blk_drewN ?_ _ | refine blk_drew ?_ | refine blk_alloc ?_ _)); exact BK409.out) hb); have n3_ := Am (below_step (by (repeat (first | (with_reducible first | exact HB.out | apply below_alloc | apply pw_below_drewN | apply below_drew1 | refine below_set ?_ (Aside0.out GE409)) | exact HB.out))) hb); clear HO407; clear BK409; clear HB; have HO407 := n0_; have HO413 := n1_; have BK409 := n2_; have HB := n3_; clear n0_ n1_ n2_ n3_; ((try clear hb); (try clear hb2); (try clear hk); (try clear hi); (try clear ho0))) | ((with_reducible refine gate_dst (N := 7) rfl ?_); (try (refine gate_guard (by rfl) ?_; dsimp only)); refine box_event ?hg (N := 7) ?hd (cs := #[.slice none 0 0, .bool false]) (t := 33) ?hr ?_; ((case hd => rfl); (case hg => rfl); (case hr => first | (go_simp; done) | (go_simp; rfl))); intro gb415 hg w13 hbox hb; have n0_ := Am (Kd.S_below (by (with_reducible repeat (first | apply Kd.S_alloc | apply Kd.S_drewN | apply Kd.S_drew)); exact HO407.out) hb); have n1_ := Am (Kd.S_below (by (with_reducible repeat (first | apply Kd.S_alloc | apply Kd.S_drewN | apply Kd.S_drew)); exact HO413.out) hb); have n2_ := Am (blk_below (g := gb409) (o := .cells #[.slice Ao9 t405.length co9, .bool t408] 33 (0, 0)) (by (with_reducible repeat (first | refine blk_drewN ?_ _ | refine blk_drew ?_ | refine blk_alloc ?_ _)); exact BK409.out) hb); have n3_ := Am (below_step (by (repeat (first | (with_reducible first | exact HB.out | apply below_alloc | apply pw_below_drewN | apply below_drew1 | refine below_set ?_ (Aside0.out GE409)) | exact HB.out))) hb); have n4_ := Am (hbox); have n5_ := Am ((by rw [hg]; exact (below_size (by (repeat (first | (with_reducible first | exact HB.out | apply below_alloc | apply pw_below_drewN | apply below_drew1 | refine below_set ?_ (Aside0.out GE409)) | exact HB.out)))) : w.heap.size ≤ gb415)); have n6_ := Am ((by rw [hg]; exact (below_size (by (repeat (first | (with_reducible first | exact HB.out | apply below_alloc | apply pw_below_drewN | apply below_drew1 | refine below_set ?_ (Aside0.out GE409)) | exact HB.out)))) : w.heap.size ≤ gb415)); have n7_ := Am ((by rw [hg]; exact Nat.ne_of_lt (blk_lt (g := gb409) (o := .cells #[.slice Ao9 t405.length co9, .bool t408] 33 (0, 0)) (by (with_reducible repeat (first | refine blk_drewN ?_ _ | refine blk_drew ?_ | refine blk_alloc ?_ _)); exact BK409.out)) : gb409 ≠ gb415)); have n8_ := Am ((by rw [hg]; exact Nat.ne_of_gt (blk_lt (g := gb409) (o := .cells #[.slice Ao9 t405.length co9, .bool t408] 33 (0, 0)) (by (with_reducible repeat (first | refine blk_drewN ?_ _ | refine blk_drew ?_ | refine blk_alloc ?_ _)); exact BK409.out)) : gb415 ≠ gb409)); clear HO407; clear HO413; clear BK409; clear HB; have HO407 := n0_; have HO413 := n1_; have BK409 := n2_; have HB := n3_; have BK415 := n4_; have GW415 := n5_; have GE415 := n6_; have NB409_415 := n7_; have NB415_409 := n8_; clear n0_ n1_ n2_ n3_ n4_ n5_ n6_ n7_ n8_; clear hb hbox hg; obtain ⟨Ao14, co14, eo14⟩ := Kd.S_slice HO413.out; subst eo14; have hnb15 := NB415_409.out; have hnc15 := NB409_415.out; have hcz16_0 : w13.cell? ⟨gb415, 0, none⟩ = some (.slice none 0 0) := (blk_cell BK415.out 0).trans rfl; have hcz16_1 : w13.cell? ⟨gb415, 1, none⟩ = some (.bool false) := (blk_cell BK415.out 1).trans rfl; have hfz16_0 := blk_frozen BK415.out 0; have hfz16_1 := blk_frozen BK415.out 1)); try go_wp2_with (first | (go_at_call 17; (with_reducible refine (ostiarykeep_Few.calls a0 800 t404 _ A3.out).mono ?_); rintro e w' ⟨rfl, ⟨nd, rfl⟩⟩; (try first | exact ⟨rfl, _, World.drewN_drewN _ _ _⟩ | exact ⟨rfl, _, Eq.trans (World.drewN_drewN _ _ _) (congrArg (World.drewN _) (Nat.add_assoc _ _ _))⟩)) | (go_at_call 14; (with_reducible refine (policy_Parse.calls k t404 a1 t405 t408 _ A4.out).mono ?_); rintro e w7 ⟨v406, rfl, ho0, hb⟩; have n0_ := Am (Kd.S_lower ho0 (below_size (by (repeat (first | (with_reducible first | exact HB.out | apply below_alloc | apply pw_below_drewN | apply below_drew1) | exact HB.out))))); have n1_ := Am (below_step (by (repeat (first | (with_reducible first | exact HB.out | apply below_alloc | apply pw_below_drewN | apply below_drew1) | exact HB.out))) hb); clear HB; have HO407 := n0_; have HB := n1_; clear n0_ n1_; ((try clear hb); (try clear hb2); (try clear hk); (try clear hi); (try clear ho0))) | ((with_reducible refine gate_dst (N := 5) rfl ?_); (try (refine gate_guard (by rfl) ?_; dsimp only)); refine box_event ?hg (N := 5) ?hd (cs := #[.slice none 0 0, .bool false]) (t := 33) ?hr ?_; ((case hd => rfl); (case hg => rfl); (case hr => first | (go_simp; done) | (go_simp; rfl))); intro gb409 hg w8 hbox hb; have n0_ := Am (Kd.S_below (by (with_reducible repeat (first | apply Kd.S_alloc | apply Kd.S_drewN | apply Kd.S_drew)); exact HO407.out) hb); have n1_ := Am (below_step (by (repeat (first | (with_reducible first | exact HB.out | apply below_alloc | apply pw_below_drewN | apply below_drew1) | exact HB.out))) hb); have n2_ := Am (hbox); have n3_ := Am ((by rw [hg]; exact (below_size (by (repeat (first | (with_reducible first | exact HB.out | apply below_alloc | apply pw_below_drewN | apply below_drew1) | exact HB.out)))) : w.heap.size ≤ gb409)); have n4_ := Am ((by rw [hg]; exact (below_size (by (repeat (first | (with_reducible first | exact HB.out | apply below_alloc | apply pw_below_drewN | apply below_drew1) | exact HB.out)))) : w.heap.size ≤ gb409)); clear HO407; clear HB; have HO407 := n0_; have HB := n1_; have BK409 := n2_; have GW409 := n3_; have GE409 := n4_; clear n0_ n1_ n2_ n3_ n4_; clear hb hbox hg; obtain ⟨Ao9, co9, eo9⟩ := Kd.S_slice HO407.out; subst eo9; have hcz10_0 : w8.cell? ⟨gb409, 0, none⟩ = some (.slice none 0 0) := (blk_cell BK409.out 0).trans rfl; have hcz10_1 : w8.cell? ⟨gb409, 1, none⟩ = some (.bool false) := (blk_cell BK409.out 1).trans rfl; have hfz10_0 := blk_frozen BK409.out 0; have hfz10_1 := blk_frozen BK409.out 1) | (go_at_call 15; (with_reducible refine (policy_Text.calls k _ _ t405 t408 t410 _ ?side1 ?side2 A5.out).mono ?_); (case side1 => refine (Kd.S_reads' (e := 52) (base := w.heap.size) (ok := fun k_ => True) (n := t405.length) (c := co9) ?_).2.2; exact (by (with_reducible repeat (first | apply Kd.S_alloc | apply Kd.S_drewN | apply Kd.S_drew)); exact (Kd.S_mono (Kd.S_far (p := ⟨gb409, 1, none⟩) (Kd.S_far (p := ⟨gb409, 0, none⟩) (Kd.S_types HO407.out BK409.out (by decide)) (fun _ hk => hk.2) (.slice Ao9 t405.length co9)) (fun _ hk => hk.2) (.bool t408)) (fun _ h_ => h_.1)))); (case side2 => exact (Kd.S_reads' HO407.out).2.1); rintro e w11 ⟨rfl, hb⟩; have n0_ := Am (Kd.S_below (by (with_reducible repeat (first | apply Kd.S_alloc | apply Kd.S_drewN | apply Kd.S_drew)); exact (Kd.S_mono (Kd.S_far (p := ⟨gb409, 1, none⟩) (Kd.S_far (p := ⟨gb409, 0, none⟩) (Kd.S_types HO407.out BK409.out (by decide)) (fun _ hk => hk.2) (.slice Ao9 t405.length co9)) (fun _ hk => hk.2) (.bool t408)) (fun _ h_ => h_.1))) hb); have n1_ := Am (blk_below (g := gb409) (o := .cells #[.slice Ao9 t405.length co9, .bool t408] 33 (0, 0)) (by (with_reducible repeat (first | refine blk_drewN ?_ _ | refine blk_drew ?_ | refine blk_alloc ?_ _)); refine blk_put (cs := #[.slice Ao9 t405.length co9, .bool false]) ?_ 1 _ rfl; (with_reducible repeat (first | refine blk_drewN ?_ _ | refine blk_drew ?_ | refine blk_alloc ?_ _)); refine blk_put (cs := #[.slice none 0 0, .bool false]) ?_ 0 _ rfl; (with_reducible repeat (first | refine blk_drewN ?_ _ | refine blk_drew ?_ | refine blk_alloc ?_ _)); exact BK409.out) hb); have n2_ := Am (below_step (by (repeat (first | (with_reducible first | exact HB.out | apply below_alloc | apply pw_below_drewN | apply below_drew1 | refine below_set ?_ (Aside0.out GE409)) | exact HB.out))) hb); clear HO407; clear BK409; clear HB; have HO407 := n0_; have BK409 := n1_; have HB := n2_; clear n0_ n1_ n2_; (try clear hb); (try clear hb2); (try clear hk); (try clear hi)) | (go_at_call 14; (with_reducible refine (policy_Parse.calls k t410 a1 t411 t414 _ A6.out).mono ?_); rintro e w12 ⟨v412, rfl, ho0, hb⟩; have n0_ := Am (Kd.S_elder' (by (with_reducible repeat (first | apply Kd.S_alloc | apply Kd.S_drewN | apply Kd.S_drew)); exact HO407.out) (Kd.S_base ho0) hb); have n1_ := Am (Kd.S_lower (Kd.S_new' ho0 (Kd.S_lt (by (with_reducible repeat (first | apply Kd.S_alloc | apply Kd.S_drewN | apply Kd.S_drew)); exact HO407.out))) (below_size (by (repeat (first | (with_reducible first | exact HB.out | apply below_alloc | apply pw_below_drewN | apply below_drew1 | refine below_set ?_ (Aside0.out GE409)) | exact HB.out))))); have n2_ := Am (blk_below (g := gb409) (o := .cells #[.slice Ao9 t405.length co9, .bool t408] 33 (0, 0)) (by (with_reducible repeat (first | refine blk_drewN ?_ _ | refine blk_drew ?_ | refine blk_alloc ?_ _)); exact BK409.out) hb); have n3_ := Am (below_step (by (repeat (first | (with_reducible first | exact HB.out | apply below_alloc | apply pw_below_drewN | apply below_drew1 | refine below_set ?_ (Aside0.out GE409)) | exact HB.out))) hb); clear HO407; clear BK409; clear HB; have HO407 := n0_; have HO413 := n1_; have BK409 := n2_; have HB := n3_; clear n0_ n1_ n2_ n3_; ((try clear hb); (try clear hb2); (try clear hk); (try clear hi); (try clear ho0))) | ((with_reducible refine gate_dst (N := 7) rfl ?_); (try (refine gate_guard (by rfl) ?_; dsimp only)); refine box_event ?hg (N := 7) ?hd (cs := #[.slice none 0 0, .bool false]) (t := 33) ?hr ?_; ((case hd => rfl); (case hg => rfl); (case hr => first | (go_simp; done) | (go_simp; rfl))); intro gb415 hg w13 hbox hb; have n0_ := Am (Kd.S_below (by (with_reducible repeat (first | apply Kd.S_alloc | apply Kd.S_drewN | apply Kd.S_drew)); exact HO407.out) hb); have n1_ := Am (Kd.S_below (by (with_reducible repeat (first | apply Kd.S_alloc | apply Kd.S_drewN | apply Kd.S_drew)); exact HO413.out) hb); have n2_ := Am (blk_below (g := gb409) (o := .cells #[.slice Ao9 t405.length co9, .bool t408] 33 (0, 0)) (by (with_reducible repeat (first | refine blk_drewN ?_ _ | refine blk_drew ?_ | refine blk_alloc ?_ _)); exact BK409.out) hb); have n3_ := Am (below_step (by (repeat (first | (with_reducible first | exact HB.out | apply below_alloc | apply pw_below_drewN | apply below_drew1 | refine below_set ?_ (Aside0.out GE409)) | exact HB.out))) hb); have n4_ := Am (hbox); have n5_ := Am ((by rw [hg]; exact (below_size (by (repeat (first | (with_reducible first | exact HB.out | apply below_alloc | apply pw_below_drewN | apply below_drew1 | refine below_set ?_ (Aside0.out GE409)) | exact HB.out)))) : w.heap.size ≤ gb415)); have n6_ := Am ((by rw [hg]; exact (below_size (by (repeat (first | (with_reducible first | exact HB.out | apply below_alloc | apply pw_below_drewN | apply below_drew1 | refine below_set ?_ (Aside0.out GE409)) | exact HB.out)))) : w.heap.size ≤ gb415)); have n7_ := Am ((by rw [hg]; exact Nat.ne_of_lt (blk_lt (g := gb409) (o := .cells #[.slice Ao9 t405.length co9, .bool t408] 33 (0, 0)) (by (with_reducible repeat (first | refine blk_drewN ?_ _ | refine blk_drew ?_ | refine blk_alloc ?_ _)); exact BK409.out)) : gb409 ≠ gb415)); have n8_ := Am ((by rw [hg]; exact Nat.ne_of_gt (blk_lt (g := gb409) (o := .cells #[.slice Ao9 t405.length co9, .bool t408] 33 (0, 0)) (by (with_reducible repeat (first | refine blk_drewN ?_ _ | refine blk_drew ?_ | refine blk_alloc ?_ _)); exact BK409.out)) : gb415 ≠ gb409)); clear HO407; clear HO413; clear BK409; clear HB; have HO407 := n0_; have HO413 := n1_; have BK409 := n2_; have HB := n3_; have BK415 := n4_; have GW415 := n5_; have GE415 := n6_; have NB409_415 := n7_; have NB415_409 := n8_; clear n0_ n1_ n2_ n3_ n4_ n5_ n6_ n7_ n8_; clear hb hbox hg; obtain ⟨Ao14, co14, eo14⟩ := Kd.S_slice HO413.out; subst eo14; have hnb15 := NB415_409.out; have hnc15 := NB409_415.out; have hcz16_0 : w13.cell? ⟨gb415, 0, none⟩ = some (.slice none 0 0) := (blk_cell BK415.out 0).trans rfl; have hcz16_1 : w13.cell? ⟨gb415, 1, none⟩ = some (.bool false) := (blk_cell BK415.out 1).trans rfl; have hfz16_0 := blk_frozen BK415.out 0; have hfz16_1 := blk_frozen BK415.out 1)))
  go_loopg [8] k (fun kq v8 w' => ∃ (x8_1 : Int), v8 = .int .i64 x8_1 ∧ Aside0 (ostiarylaw10_PolicyBack.l0 kq a1 t410 x8_1 t405 t408 t411 t414 = some r) ∧ Aside0 (kq ≤ k) ∧ Aside0 (Kd.S k52 52 w' w.heap.size (fun k_ => some k_ ≠ ((.slice Ao14 t411.length co14) : Value).ownBlock) (.slice Ao9 t405.length co9) t405) ∧ Aside0 (Kd.S k52 52 w' w.heap.size (fun k_ => some k_ ≠ ((.slice Ao9 t405.length co9) : Value).ownBlock) (.slice Ao14 t411.length co14) t411) ∧ Aside0 (w'.heap[gb409]? = some (.cells #[(.slice Ao9 t405.length co9), .bool t408] 33 (0, 0))) ∧ Aside0 (w'.heap[gb415]? = some (.cells #[(.slice Ao14 t411.length co14), .bool t414] 33 (0, 0))) ∧ Aside0 (Below w.heap.size w w'))
  case atStart => exact ⟨(0), (by first | rfl | (simp; done) | (simp [*]; done)), H', ⟨Nat.le_refl _⟩, ⟨by (with_reducible repeat (first | apply Kd.S_alloc | apply Kd.S_drewN | apply Kd.S_drew)); exact Kd.S_mono (Kd.S_far (p := ⟨gb415, 1, none⟩) (Kd.S_far (p := ⟨gb415, 0, none⟩) (Kd.S_types HO407.out BK415.out (by decide)) (fun _ hk => hk.2) (.slice Ao14 t411.length co14)) (fun _ hk => hk.2) (.bool t414)) (fun _ hk => hk.1.2)⟩, ⟨by (with_reducible repeat (first | apply Kd.S_alloc | apply Kd.S_drewN | apply Kd.S_drew)); exact Kd.S_mono (Kd.S_far (p := ⟨gb415, 1, none⟩) (Kd.S_far (p := ⟨gb415, 0, none⟩) (Kd.S_types HO413.out BK415.out (by decide)) (fun _ hk => hk.2) (.slice Ao14 t411.length co14)) (fun _ hk => hk.2) (.bool t414)) (fun _ hk => hk.1.2)⟩, ⟨by (with_reducible repeat (first | refine blk_drewN ?_ _ | refine blk_drew ?_ | refine blk_alloc ?_ _)); refine blk_far ?_ NB409_415.out _; (with_reducible repeat (first | refine blk_drewN ?_ _ | refine blk_drew ?_ | refine blk_alloc ?_ _)); refine blk_far ?_ NB409_415.out _; (with_reducible repeat (first | refine blk_drewN ?_ _ | refine blk_drew ?_ | refine blk_alloc ?_ _)); exact BK409.out⟩, ⟨by (with_reducible repeat (first | refine blk_drewN ?_ _ | refine blk_drew ?_ | refine blk_alloc ?_ _)); refine blk_put (cs := #[.slice Ao14 t411.length co14, .bool false]) ?_ 1 _ rfl; (with_reducible repeat (first | refine blk_drewN ?_ _ | refine blk_drew ?_ | refine blk_alloc ?_ _)); refine blk_put (cs := #[.slice none 0 0, .bool false]) ?_ 0 _ rfl; (with_reducible repeat (first | refine blk_drewN ?_ _ | refine blk_drew ?_ | refine blk_alloc ?_ _)); exact BK415.out⟩, ⟨by (repeat (first | (with_reducible first | exact HB.out | apply below_alloc | apply pw_below_drewN | apply below_drew1 | refine below_set ?_ (Aside0.out GE409) | refine below_set ?_ (Aside0.out GE415)) | exact HB.out))⟩⟩
  case round =>
    clear H'
    try clear c1
    try clear p2
    try clear c5
    try clear c15
    try clear hcz10_0
    try clear hcz10_1
    try clear hcz16_0
    try clear hcz16_1
    try clear hfz10_0
    try clear hfz10_1
    try clear hfz16_0
    try clear hfz16_1
    obtain ⟨x8_1, rfl, HA, HK1, HO_410000, HO_416000, BK409, BK415, HB⟩ := hrel
    cases gk with
    | zero => exact absurd HA.out (by simp [ostiarylaw10_PolicyBack.l0])
    | succ k1 =>
      have H := HA.out
      clear HA
      simp only [ostiarylaw10_PolicyBack.l0] at H
      by_cases c17 : x8_1 < (t405.length : Int)
      · rw [if_pos c17] at H
        have c17b0 : decide (x8_1 < (t405.length : Int)) = true := decide_eq_true c17
        clear c17
        have H' := Aside0.mk H
        clear H
        have hnb18 := NB409_415.out
        have hnc18 := NB415_409.out
        have hcz19_0 : wr.cell? ⟨gb409, 0, none⟩ = some (.slice Ao9 t405.length co9) := (blk_cell BK409.out 0).trans rfl
        have hcz19_1 : wr.cell? ⟨gb409, 1, none⟩ = some (.bool t408) := (blk_cell BK409.out 1).trans rfl
        have hfz19_0 := blk_frozen BK409.out 0
        have hfz19_1 := blk_frozen BK409.out 1
        go_wp2
        repeat (go_quiet (fail); try go_wp2)
        go_loopg [9] k1 (fun kq v9 w' => ∃ (x9_2 : Int), v9 = .int .i64 x9_2 ∧ Aside0 (ostiarylaw10_PolicyBack.l1 kq a1 t410 x8_1 x9_2 t405 t408 t411 t414 = some r) ∧ Aside0 (kq ≤ k1) ∧ Aside0 (Kd.S k52 52 w' w.heap.size (fun k_ => some k_ ≠ ((.slice Ao14 t411.length co14) : Value).ownBlock) (.slice Ao9 t405.length co9) t405) ∧ Aside0 (Kd.S k52 52 w' w.heap.size (fun k_ => some k_ ≠ ((.slice Ao9 t405.length co9) : Value).ownBlock) (.slice Ao14 t411.length co14) t411) ∧ Aside0 (w'.heap[gb409]? = some (.cells #[(.slice Ao9 t405.length co9), .bool t408] 33 (0, 0))) ∧ Aside0 (w'.heap[gb415]? = some (.cells #[(.slice Ao14 t411.length co14), .bool t414] 33 (0, 0))) ∧ Aside0 (Below w.heap.size w w'))
        case atStart => exact ⟨(0), (by first | rfl | (simp; done) | (simp [*]; done)), H', ⟨Nat.le_refl _⟩, ⟨by (with_reducible repeat (first | apply Kd.S_alloc | apply Kd.S_drewN | apply Kd.S_drew)); exact HO_410000.out⟩, ⟨by (with_reducible repeat (first | apply Kd.S_alloc | apply Kd.S_drewN | apply Kd.S_drew)); exact HO_416000.out⟩, ⟨by (with_reducible repeat (first | refine blk_drewN ?_ _ | refine blk_drew ?_ | refine blk_alloc ?_ _)); exact BK409.out⟩, ⟨by (with_reducible repeat (first | refine blk_drewN ?_ _ | refine blk_drew ?_ | refine blk_alloc ?_ _)); exact BK415.out⟩, ⟨by (repeat (first | (with_reducible first | exact HB.out | apply below_alloc | apply pw_below_drewN | apply below_drew1 | refine below_set ?_ (Aside0.out GE409) | refine below_set ?_ (Aside0.out GE415)) | exact HB.out))⟩⟩
        case round =>
          clear H'
          try clear c1
          try clear p2
          try clear c5
          try clear c15
          try clear c17
          try clear c17b0
          try clear c18
          try clear hcz10_0
          try clear hcz10_1
          try clear hcz16_0
          try clear hcz16_1
          try clear hcz19_0
          try clear hcz19_1
          try clear hfz10_0
          try clear hfz10_1
          try clear hfz16_0
          try clear hfz16_1
          try clear hfz19_0
          try clear hfz19_1
          try clear p2
          obtain ⟨x9_2, rfl, HA, HK2, HO_410000, HO_416000, BK409, BK415, HB⟩ := hrel
          cases gk with
          | zero => exact absurd HA.out (by simp [ostiarylaw10_PolicyBack.l1])
          | succ k2 =>
            have H := HA.out
            clear HA
            simp only [ostiarylaw10_PolicyBack.l1] at H
            by_cases c20 : x9_2 < x8_1
            · rw [if_pos c20] at H
              have c20b0 : decide (x9_2 < x8_1) = true := decide_eq_true c20
              clear c20
              by_cases c21 : 0 ≤ x9_2
              · rw [if_pos c21] at H
                have c21b0 : decide (0 ≤ x9_2) = true := decide_eq_true c21
                clear c21
                by_cases c22 : x9_2 < (t405.length : Int)
                · rw [if_pos c22] at H
                  have c22b0 : decide (x9_2 < (t405.length : Int)) = true := decide_eq_true c22
                  clear c22
                  by_cases c23 : 0 ≤ x8_1
                  · rw [if_pos c23] at H
                    have c23b0 : decide (0 ≤ x8_1) = true := decide_eq_true c23
                    clear c23
                    by_cases c24 : x8_1 < (t405.length : Int)
                    · rw [if_pos c24] at H
                      have c24b0 : decide (x8_1 < (t405.length : Int)) = true := decide_eq_true c24
                      clear c24
                      by_cases c25 : ((rd_T52 t405 x9_2).f0).toList = ((rd_T52 t405 x8_1).f0).toList
                      · rw [if_pos c25] at H
                        have c25b0 : (((rd_T52 t405 x9_2).f0).toList == ((rd_T52 t405 x8_1).f0).toList) = true := beq_iff_eq.mpr c25
                        have c25b1 : (((rd_T52 t405 x9_2).f0).toList != ((rd_T52 t405 x8_1).f0).toList) = false := bne_eq_false_iff_eq.mpr c25
                        clear c25
                        obtain rfl := Option.some.inj H
                        have hnb26 := NB409_415.out
                        have hnc26 := NB415_409.out
                        have hcz27_0 : wr.cell? ⟨gb409, 0, none⟩ = some (.slice Ao9 t405.length co9) := (blk_cell BK409.out 0).trans rfl
                        have hcz27_1 : wr.cell? ⟨gb409, 1, none⟩ = some (.bool t408) := (blk_cell BK409.out 1).trans rfl
                        have hfz27_0 := blk_frozen BK409.out 0
                        have hfz27_1 := blk_frozen BK409.out 1
                        have p418 : 0 ≤ (x9_2 : Int) := of_decide_eq_true (by first | (with_reducible assumption) | assumption)
                        have q418 : x9_2 < (t405.length : Int) := of_decide_eq_true (by first | (with_reducible assumption) | assumption)
                        obtain ⟨ad418, A418_1, c418_1, e418, hx418_0, hx418_1, hl418_1, hi418_1⟩ := at_T52 (Kd.S_reads' HO_410000.out).2.2 x9_2 p418 q418
                        cases e418
                        obtain ⟨ce418, hce418, hMe418, hcc418⟩ := Kd.S_get HO_410000.out z52 x9_2 p418 (by first | exact q418 | exact of_decide_eq_true (by first | (with_reducible assumption) | assumption) | (have e_ := (Kd.S_reads' HO_410000.out).1; omega))
                        obtain ⟨ve418_1, rfl, ge418_1⟩ := k52_openM hMe418
                        have hv418_1 := hcc418 1 _ rfl
                        rw [add_field _ _ 1 (by omega)] at hv418_1
                        replace hv418_1 := Option.some.inj (hv418_1.symm.trans hx418_1)
                        rw [hv418_1] at ge418_1
                        have HL418_1 := Am (show Kd.R Kd.string 9 _ _ _ _ ((rd_T52 t405 x9_2).f1) from ge418_1)
                        clear hv418_1 ge418_1
                        clear hcc418 hce418
                        have HR418_1 := Aside0.mk hi418_1
                        have HC418_1 := Aside0.mk hl418_1
                        clear hi418_1 hl418_1
                        replace p418 := eq_true p418
                        replace q418 := eq_true q418
                        have p419 : 0 ≤ (x8_1 : Int) := of_decide_eq_true (by first | (with_reducible assumption) | assumption)
                        have q419 : x8_1 < (t405.length : Int) := of_decide_eq_true (by first | (with_reducible assumption) | assumption)
                        obtain ⟨ad419, A419_1, c419_1, e419, hx419_0, hx419_1, hl419_1, hi419_1⟩ := at_T52 (Kd.S_reads' HO_410000.out).2.2 x8_1 p419 q419
                        obtain rfl : ad418 = ad419 := (by injection e419)
                        obtain ⟨ce419, hce419, hMe419, hcc419⟩ := Kd.S_get HO_410000.out z52 x8_1 p419 (by first | exact q419 | exact of_decide_eq_true (by first | (with_reducible assumption) | assumption) | (have e_ := (Kd.S_reads' HO_410000.out).1; omega))
                        obtain ⟨ve419_1, rfl, ge419_1⟩ := k52_openM hMe419
                        have hv419_1 := hcc419 1 _ rfl
                        rw [add_field _ _ 1 (by omega)] at hv419_1
                        replace hv419_1 := Option.some.inj (hv419_1.symm.trans hx419_1)
                        rw [hv419_1] at ge419_1
                        have HL419_1 := Am (show Kd.R Kd.string 9 _ _ _ _ ((rd_T52 t405 x8_1).f1) from ge419_1)
                        clear hv419_1 ge419_1
                        clear hcc419 hce419
                        have HR419_1 := Aside0.mk hi419_1
                        have HC419_1 := Aside0.mk hl419_1
                        clear hi419_1 hl419_1
                        replace p419 := eq_true p419
                        replace q419 := eq_true q419
                        go_wp2
                        repeat (go_quiet (fail); try go_wp2)
                        go_ret
                        exact ⟨by (first | rfl | (simp [errW_none, errW_some] <;> rfl) | (simp [*, errW_none, errW_some] <;> rfl)), by (repeat (first | (with_reducible first | exact HB.out | apply below_alloc | apply pw_below_drewN | apply below_drew1 | refine below_set ?_ (Aside0.out GE409) | refine below_set ?_ (Aside0.out GE415)) | exact HB.out))⟩
                      · rw [if_neg c25] at H
                        have c25b0 : (((rd_T52 t405 x9_2).f0).toList == ((rd_T52 t405 x8_1).f0).toList) = false := beq_eq_false_iff_ne.mpr c25
                        have c25b1 : (((rd_T52 t405 x9_2).f0).toList != ((rd_T52 t405 x8_1).f0).toList) = true := bne_iff_ne.mpr c25
                        have H' := Aside0.mk H
                        clear H
                        have hnb28 := NB409_415.out
                        have hnc28 := NB415_409.out
                        have hcz29_0 : wr.cell? ⟨gb409, 0, none⟩ = some (.slice Ao9 t405.length co9) := (blk_cell BK409.out 0).trans rfl
                        have hcz29_1 : wr.cell? ⟨gb409, 1, none⟩ = some (.bool t408) := (blk_cell BK409.out 1).trans rfl
                        have hfz29_0 := blk_frozen BK409.out 0
                        have hfz29_1 := blk_frozen BK409.out 1
                        have p418 : 0 ≤ (x9_2 : Int) := of_decide_eq_true (by first | (with_reducible assumption) | assumption)
                        have q418 : x9_2 < (t405.length : Int) := of_decide_eq_true (by first | (with_reducible assumption) | assumption)
                        obtain ⟨ad418, A418_1, c418_1, e418, hx418_0, hx418_1, hl418_1, hi418_1⟩ := at_T52 (Kd.S_reads' HO_410000.out).2.2 x9_2 p418 q418
                        cases e418
                        obtain ⟨ce418, hce418, hMe418, hcc418⟩ := Kd.S_get HO_410000.out z52 x9_2 p418 (by first | exact q418 | exact of_decide_eq_true (by first | (with_reducible assumption) | assumption) | (have e_ := (Kd.S_reads' HO_410000.out).1; omega))
                        obtain ⟨ve418_1, rfl, ge418_1⟩ := k52_openM hMe418
                        have hv418_1 := hcc418 1 _ rfl
                        rw [add_field _ _ 1 (by omega)] at hv418_1
                        replace hv418_1 := Option.some.inj (hv418_1.symm.trans hx418_1)
                        rw [hv418_1] at ge418_1
                        have HL418_1 := Am (show Kd.R Kd.string 9 _ _ _ _ ((rd_T52 t405 x9_2).f1) from ge418_1)
                        clear hv418_1 ge418_1
                        clear hcc418 hce418
                        have HR418_1 := Aside0.mk hi418_1
                        have HC418_1 := Aside0.mk hl418_1
                        clear hi418_1 hl418_1
                        replace p418 := eq_true p418
                        replace q418 := eq_true q418
                        have p419 : 0 ≤ (x8_1 : Int) := of_decide_eq_true (by first | (with_reducible assumption) | assumption)
                        have q419 : x8_1 < (t405.length : Int) := of_decide_eq_true (by first | (with_reducible assumption) | assumption)
                        obtain ⟨ad419, A419_1, c419_1, e419, hx419_0, hx419_1, hl419_1, hi419_1⟩ := at_T52 (Kd.S_reads' HO_410000.out).2.2 x8_1 p419 q419
                        obtain rfl : ad418 = ad419 := (by injection e419)
                        obtain ⟨ce419, hce419, hMe419, hcc419⟩ := Kd.S_get HO_410000.out z52 x8_1 p419 (by first | exact q419 | exact of_decide_eq_true (by first | (with_reducible assumption) | assumption) | (have e_ := (Kd.S_reads' HO_410000.out).1; omega))
                        obtain ⟨ve419_1, rfl, ge419_1⟩ := k52_openM hMe419
                        have hv419_1 := hcc419 1 _ rfl
                        rw [add_field _ _ 1 (by omega)] at hv419_1
                        replace hv419_1 := Option.some.inj (hv419_1.symm.trans hx419_1)
                        rw [hv419_1] at ge419_1
                        have HL419_1 := Am (show Kd.R Kd.string 9 _ _ _ _ ((rd_T52 t405 x8_1).f1) from ge419_1)
                        clear hv419_1 ge419_1
                        clear hcc419 hce419
                        have HR419_1 := Aside0.mk hi419_1
                        have HC419_1 := Aside0.mk hl419_1
                        clear hi419_1 hl419_1
                        replace p419 := eq_true p419
                        replace q419 := eq_true q419
                        go_wp2
                        repeat (go_quiet (fail); try go_wp2)
                        go_roundg k2
                        case measure => have := HK1.out; have := HK2.out; omega
                        case rel => exact ⟨(wrap64 (x9_2 + 1)), (by first | rfl | (simp; done) | (simp [*]; done)), H', ⟨by have := HK1.out; have := HK2.out; omega⟩, ⟨by (with_reducible repeat (first | apply Kd.S_alloc | apply Kd.S_drewN | apply Kd.S_drew)); exact HO_410000.out⟩, ⟨by (with_reducible repeat (first | apply Kd.S_alloc | apply Kd.S_drewN | apply Kd.S_drew)); exact HO_416000.out⟩, ⟨by (with_reducible repeat (first | refine blk_drewN ?_ _ | refine blk_drew ?_ | refine blk_alloc ?_ _)); exact BK409.out⟩, ⟨by (with_reducible repeat (first | refine blk_drewN ?_ _ | refine blk_drew ?_ | refine blk_alloc ?_ _)); exact BK415.out⟩, ⟨by (repeat (first | (with_reducible first | exact HB.out | apply below_alloc | apply pw_below_drewN | apply below_drew1 | refine below_set ?_ (Aside0.out GE409) | refine below_set ?_ (Aside0.out GE415)) | exact HB.out))⟩⟩
                    · rw [if_neg c24] at H
                      exact absurd H (by simp)
                  · rw [if_neg c23] at H
                    exact absurd H (by simp)
                · rw [if_neg c22] at H
                  exact absurd H (by simp)
              · rw [if_neg c21] at H
                exact absurd H (by simp)
            · rw [if_neg c20] at H
              have c20b0 : decide (x9_2 < x8_1) = false := decide_eq_false c20
              clear c20
              have H' := Aside0.mk H
              clear H
              go_wp2
              repeat (go_quiet (fail); try go_wp2)
              go_roundg k2
              case measure => have := HK1.out; have := HK2.out; omega
              case rel => exact ⟨(wrap64 (x8_1 + 1)), (by first | rfl | (simp; done) | (simp [*]; done)), H', ⟨by have := HK1.out; have := HK2.out; omega⟩, ⟨by (with_reducible repeat (first | apply Kd.S_alloc | apply Kd.S_drewN | apply Kd.S_drew)); exact HO_410000.out⟩, ⟨by (with_reducible repeat (first | apply Kd.S_alloc | apply Kd.S_drewN | apply Kd.S_drew)); exact HO_416000.out⟩, ⟨by (with_reducible repeat (first | refine blk_drewN ?_ _ | refine blk_drew ?_ | refine blk_alloc ?_ _)); exact BK409.out⟩, ⟨by (with_reducible repeat (first | refine blk_drewN ?_ _ | refine blk_drew ?_ | refine blk_alloc ?_ _)); exact BK415.out⟩, ⟨by (repeat (first | (with_reducible first | exact HB.out | apply below_alloc | apply pw_below_drewN | apply below_drew1 | refine below_set ?_ (Aside0.out GE409) | refine below_set ?_ (Aside0.out GE415)) | exact HB.out))⟩⟩
      · rw [if_neg c17] at H
        have c17b0 : decide (x8_1 < (t405.length : Int)) = false := decide_eq_false c17
        clear c17
        replace H := Option.bind_eq_some_iff.mp H
        obtain ⟨t416, A300, H⟩ := H
        replace H : (if t416.toList = t410.toList then (if (t411.length : Int) = (t405.length : Int) then (if (t408 == a1) = true then ((ostiarylaw10_known.f k1).bind fun t417 => (some t417)) else (some false)) else (some false)) else (some false)) = some r := H
        have A30 := Aside0.mk A300
        clear A300
        by_cases c31 : t416.toList = t410.toList
        · rw [if_pos c31] at H
          have c31b0 : (t416.toList == t410.toList) = true := beq_iff_eq.mpr c31
          have c31b1 : (t416.toList != t410.toList) = false := bne_eq_false_iff_eq.mpr c31
          clear c31
          by_cases c32 : (t411.length : Int) = (t405.length : Int)
          · rw [if_pos c32] at H
            have c32b0 : ((t411.length : Int) == (t405.length : Int)) = true := beq_iff_eq.mpr c32
            have c32b1 : ((t411.length : Int) != (t405.length : Int)) = false := bne_eq_false_iff_eq.mpr c32
            have c32b2 : (t411.length == t405.length) = true := by first | simpa using c32 | (simp at c32 ⊢; omega)
            clear c32
            by_cases c33 : (t408 == a1) = true
            · rw [if_pos c33] at H
              have c33b0 : (t408 == a1) = true := c33
              (try (have c33b1 : decide (t408 = a1) = true := by simpa using c33))
              (try (have c33b2 : (t408 == a1) = true := by simpa using c33))
              clear c33
              replace H := Option.bind_eq_some_iff.mp H
              obtain ⟨t417, A340, H⟩ := H
              replace H : (some t417) = some r := H
              have A34 := Aside0.mk A340
              clear A340
              obtain rfl := Option.some.inj H
              have hnb35 := NB409_415.out
              have hnc35 := NB415_409.out
              have hcz36_0 : wr.cell? ⟨gb409, 0, none⟩ = some (.slice Ao9 t405.length co9) := (blk_cell BK409.out 0).trans rfl
              have hcz36_1 : wr.cell? ⟨gb409, 1, none⟩ = some (.bool t408) := (blk_cell BK409.out 1).trans rfl
              have hfz36_0 := blk_frozen BK409.out 0
              have hfz36_1 := blk_frozen BK409.out 1
              have hcz37_0 : wr.cell? ⟨gb415, 0, none⟩ = some (.slice Ao14 t411.length co14) := (blk_cell BK415.out 0).trans rfl
              have hcz37_1 : wr.cell? ⟨gb415, 1, none⟩ = some (.bool t414) := (blk_cell BK415.out 1).trans rfl
              have hfz37_0 := blk_frozen BK415.out 0
              have hfz37_1 := blk_frozen BK415.out 1
              go_wp2_with (first | (go_at_call 15; (with_reducible refine (policy_Text.calls k1 _ _ t411 t414 t416 _ ?side1 ?side2 A30.out).mono ?_); (case side1 => repeat (first | exact (Kd.S_reads' HO_416000.out).2.2 | (first | (with_reducible refine Kd.C_alloc ?_ _) | (with_reducible refine Kd.C_drewN ?_ _) | (with_reducible refine Kd.C_drew ?_)))); (case side2 => exact (Kd.S_reads' HO_416000.out).2.1); rintro e w38 ⟨rfl, hb⟩; have n0_ := Am (Kd.S_below (by (with_reducible repeat (first | apply Kd.S_alloc | apply Kd.S_drewN | apply Kd.S_drew)); exact HO_410000.out) hb); have n1_ := Am (Kd.S_below (by (with_reducible repeat (first | apply Kd.S_alloc | apply Kd.S_drewN | apply Kd.S_drew)); exact HO_416000.out) hb); have n2_ := Am (blk_below (g := gb409) (o := .cells #[.slice Ao9 t405.length co9, .bool t408] 33 (0, 0)) (by (with_reducible repeat (first | refine blk_drewN ?_ _ | refine blk_drew ?_ | refine blk_alloc ?_ _)); exact BK409.out) hb); have n3_ := Am (blk_below (g := gb415) (o := .cells #[.slice Ao14 t411.length co14, .bool t414] 33 (0, 0)) (by (with_reducible repeat (first | refine blk_drewN ?_ _ | refine blk_drew ?_ | refine blk_alloc ?_ _)); exact BK415.out) hb); have n4_ := Am (below_step (by (repeat (first | (with_reducible first | exact HB.out | apply below_alloc | apply pw_below_drewN | apply below_drew1 | refine below_set ?_ (Aside0.out GE409) | refine below_set ?_ (Aside0.out GE415)) | exact HB.out))) hb); clear HO_410000; clear HO_416000; clear BK409; clear BK415; clear HB; have HO_410000 := n0_; have HO_416000 := n1_; have BK409 := n2_; have BK415 := n3_; have HB := n4_; clear n0_ n1_ n2_ n3_ n4_; (try clear hb); (try clear hb2); (try clear hk); (try clear hi); have hcz39_0 : w38.cell? ⟨gb415, 0, none⟩ = some (.slice Ao14 t411.length co14) := (blk_cell BK415.out 0).trans rfl; have hcz39_1 : w38.cell? ⟨gb415, 1, none⟩ = some (.bool t414) := (blk_cell BK415.out 1).trans rfl; have hfz39_0 := blk_frozen BK415.out 0; have hfz39_1 := blk_frozen BK415.out 1; have hcz40_0 : w38.cell? ⟨gb409, 0, none⟩ = some (.slice Ao9 t405.length co9) := (blk_cell BK409.out 0).trans rfl; have hcz40_1 : w38.cell? ⟨gb409, 1, none⟩ = some (.bool t408) := (blk_cell BK409.out 1).trans rfl; have hfz40_0 := blk_frozen BK409.out 0; have hfz40_1 := blk_frozen BK409.out 1) | (go_at_call 16; (with_reducible refine (ostiarylaw10_known.calls k1  t417 _ A34.out).mono ?_); rintro e w41 ⟨rfl, hb⟩; have n0_ := Am (Kd.S_below (by (with_reducible repeat (first | apply Kd.S_alloc | apply Kd.S_drewN | apply Kd.S_drew)); exact HO_410000.out) hb); have n1_ := Am (Kd.S_below (by (with_reducible repeat (first | apply Kd.S_alloc | apply Kd.S_drewN | apply Kd.S_drew)); exact HO_416000.out) hb); have n2_ := Am (blk_below (g := gb409) (o := .cells #[.slice Ao9 t405.length co9, .bool t408] 33 (0, 0)) (by (with_reducible repeat (first | refine blk_drewN ?_ _ | refine blk_drew ?_ | refine blk_alloc ?_ _)); exact BK409.out) hb); have n3_ := Am (blk_below (g := gb415) (o := .cells #[.slice Ao14 t411.length co14, .bool t414] 33 (0, 0)) (by (with_reducible repeat (first | refine blk_drewN ?_ _ | refine blk_drew ?_ | refine blk_alloc ?_ _)); exact BK415.out) hb); have n4_ := Am (below_step (by (repeat (first | (with_reducible first | exact HB.out | apply below_alloc | apply pw_below_drewN | apply below_drew1 | refine below_set ?_ (Aside0.out GE409) | refine below_set ?_ (Aside0.out GE415)) | exact HB.out))) hb); clear HO_410000; clear HO_416000; clear BK409; clear BK415; clear HB; have HO_410000 := n0_; have HO_416000 := n1_; have BK409 := n2_; have BK415 := n3_; have HB := n4_; clear n0_ n1_ n2_ n3_ n4_; (try clear hb); (try clear hb2); (try clear hk); (try clear hi)))
              repeat (go_quiet (first | (go_at_call 15; (with_reducible refine (policy_Text.calls k1 _ _ t411 t414 t416 _ ?side1 ?side2 A30.out).mono ?_); (case side1 => repeat (first | exact (Kd.S_reads' HO_416000.out).2.2 | (first | (with_reducible refine Kd.C_alloc ?_ _) | (with_reducible refine Kd.C_drewN ?_ _) | (with_reducible refine Kd.C_drew ?_)))); (case side2 => exact (Kd.S_reads' HO_416000.out).2.1); rintro e w38 ⟨rfl, hb⟩; have n0_ := Am (Kd.S_below (by (with_reducible repeat (first | apply Kd.S_alloc | apply Kd.S_drewN | apply Kd.S_drew)); exact HO_410000.out) hb); have n1_ := Am (Kd.S_below (by (with_reducible repeat (first | apply Kd.S_alloc | apply Kd.S_drewN | apply Kd.S_drew)); exact HO_416000.out) hb); have n2_ := Am (blk_below (g := gb409) (o := .cells #[.slice Ao9 t405.length co9, .bool t408] 33 (0, 0)) (by (with_reducible repeat (first | refine blk_drewN ?_ _ | refine blk_drew ?_ | refine blk_alloc ?_ _)); exact BK409.out) hb); have n3_ := Am (blk_below (g := gb415) (o := .cells #[.slice Ao14 t411.length co14, .bool t414] 33 (0, 0)) (by (with_reducible repeat (first | refine blk_drewN ?_ _ | refine blk_drew ?_ | refine blk_alloc ?_ _)); exact BK415.out) hb); have n4_ := Am (below_step (by (repeat (first | (with_reducible first | exact HB.out | apply below_alloc | apply pw_below_drewN | apply below_drew1 | refine below_set ?_ (Aside0.out GE409) | refine below_set ?_ (Aside0.out GE415)) | exact HB.out))) hb); clear HO_410000; clear HO_416000; clear BK409; clear BK415; clear HB; have HO_410000 := n0_; have HO_416000 := n1_; have BK409 := n2_; have BK415 := n3_; have HB := n4_; clear n0_ n1_ n2_ n3_ n4_; (try clear hb); (try clear hb2); (try clear hk); (try clear hi); have hcz39_0 : w38.cell? ⟨gb415, 0, none⟩ = some (.slice Ao14 t411.length co14) := (blk_cell BK415.out 0).trans rfl; have hcz39_1 : w38.cell? ⟨gb415, 1, none⟩ = some (.bool t414) := (blk_cell BK415.out 1).trans rfl; have hfz39_0 := blk_frozen BK415.out 0; have hfz39_1 := blk_frozen BK415.out 1; have hcz40_0 : w38.cell? ⟨gb409, 0, none⟩ = some (.slice Ao9 t405.length co9) := (blk_cell BK409.out 0).trans rfl; have hcz40_1 : w38.cell? ⟨gb409, 1, none⟩ = some (.bool t408) := (blk_cell BK409.out 1).trans rfl; have hfz40_0 := blk_frozen BK409.out 0; have hfz40_1 := blk_frozen BK409.out 1) | (go_at_call 16; (with_reducible refine (ostiarylaw10_known.calls k1  t417 _ A34.out).mono ?_); rintro e w41 ⟨rfl, hb⟩; have n0_ := Am (Kd.S_below (by (with_reducible repeat (first | apply Kd.S_alloc | apply Kd.S_drewN | apply Kd.S_drew)); exact HO_410000.out) hb); have n1_ := Am (Kd.S_below (by (with_reducible repeat (first | apply Kd.S_alloc | apply Kd.S_drewN | apply Kd.S_drew)); exact HO_416000.out) hb); have n2_ := Am (blk_below (g := gb409) (o := .cells #[.slice Ao9 t405.length co9, .bool t408] 33 (0, 0)) (by (with_reducible repeat (first | refine blk_drewN ?_ _ | refine blk_drew ?_ | refine blk_alloc ?_ _)); exact BK409.out) hb); have n3_ := Am (blk_below (g := gb415) (o := .cells #[.slice Ao14 t411.length co14, .bool t414] 33 (0, 0)) (by (with_reducible repeat (first | refine blk_drewN ?_ _ | refine blk_drew ?_ | refine blk_alloc ?_ _)); exact BK415.out) hb); have n4_ := Am (below_step (by (repeat (first | (with_reducible first | exact HB.out | apply below_alloc | apply pw_below_drewN | apply below_drew1 | refine below_set ?_ (Aside0.out GE409) | refine below_set ?_ (Aside0.out GE415)) | exact HB.out))) hb); clear HO_410000; clear HO_416000; clear BK409; clear BK415; clear HB; have HO_410000 := n0_; have HO_416000 := n1_; have BK409 := n2_; have BK415 := n3_; have HB := n4_; clear n0_ n1_ n2_ n3_ n4_; (try clear hb); (try clear hb2); (try clear hk); (try clear hi))); try go_wp2_with (first | (go_at_call 15; (with_reducible refine (policy_Text.calls k1 _ _ t411 t414 t416 _ ?side1 ?side2 A30.out).mono ?_); (case side1 => repeat (first | exact (Kd.S_reads' HO_416000.out).2.2 | (first | (with_reducible refine Kd.C_alloc ?_ _) | (with_reducible refine Kd.C_drewN ?_ _) | (with_reducible refine Kd.C_drew ?_)))); (case side2 => exact (Kd.S_reads' HO_416000.out).2.1); rintro e w38 ⟨rfl, hb⟩; have n0_ := Am (Kd.S_below (by (with_reducible repeat (first | apply Kd.S_alloc | apply Kd.S_drewN | apply Kd.S_drew)); exact HO_410000.out) hb); have n1_ := Am (Kd.S_below (by (with_reducible repeat (first | apply Kd.S_alloc | apply Kd.S_drewN | apply Kd.S_drew)); exact HO_416000.out) hb); have n2_ := Am (blk_below (g := gb409) (o := .cells #[.slice Ao9 t405.length co9, .bool t408] 33 (0, 0)) (by (with_reducible repeat (first | refine blk_drewN ?_ _ | refine blk_drew ?_ | refine blk_alloc ?_ _)); exact BK409.out) hb); have n3_ := Am (blk_below (g := gb415) (o := .cells #[.slice Ao14 t411.length co14, .bool t414] 33 (0, 0)) (by (with_reducible repeat (first | refine blk_drewN ?_ _ | refine blk_drew ?_ | refine blk_alloc ?_ _)); exact BK415.out) hb); have n4_ := Am (below_step (by (repeat (first | (with_reducible first | exact HB.out | apply below_alloc | apply pw_below_drewN | apply below_drew1 | refine below_set ?_ (Aside0.out GE409) | refine below_set ?_ (Aside0.out GE415)) | exact HB.out))) hb); clear HO_410000; clear HO_416000; clear BK409; clear BK415; clear HB; have HO_410000 := n0_; have HO_416000 := n1_; have BK409 := n2_; have BK415 := n3_; have HB := n4_; clear n0_ n1_ n2_ n3_ n4_; (try clear hb); (try clear hb2); (try clear hk); (try clear hi); have hcz39_0 : w38.cell? ⟨gb415, 0, none⟩ = some (.slice Ao14 t411.length co14) := (blk_cell BK415.out 0).trans rfl; have hcz39_1 : w38.cell? ⟨gb415, 1, none⟩ = some (.bool t414) := (blk_cell BK415.out 1).trans rfl; have hfz39_0 := blk_frozen BK415.out 0; have hfz39_1 := blk_frozen BK415.out 1; have hcz40_0 : w38.cell? ⟨gb409, 0, none⟩ = some (.slice Ao9 t405.length co9) := (blk_cell BK409.out 0).trans rfl; have hcz40_1 : w38.cell? ⟨gb409, 1, none⟩ = some (.bool t408) := (blk_cell BK409.out 1).trans rfl; have hfz40_0 := blk_frozen BK409.out 0; have hfz40_1 := blk_frozen BK409.out 1) | (go_at_call 16; (with_reducible refine (ostiarylaw10_known.calls k1  t417 _ A34.out).mono ?_); rintro e w41 ⟨rfl, hb⟩; have n0_ := Am (Kd.S_below (by (with_reducible repeat (first | apply Kd.S_alloc | apply Kd.S_drewN | apply Kd.S_drew)); exact HO_410000.out) hb); have n1_ := Am (Kd.S_below (by (with_reducible repeat (first | apply Kd.S_alloc | apply Kd.S_drewN | apply Kd.S_drew)); exact HO_416000.out) hb); have n2_ := Am (blk_below (g := gb409) (o := .cells #[.slice Ao9 t405.length co9, .bool t408] 33 (0, 0)) (by (with_reducible repeat (first | refine blk_drewN ?_ _ | refine blk_drew ?_ | refine blk_alloc ?_ _)); exact BK409.out) hb); have n3_ := Am (blk_below (g := gb415) (o := .cells #[.slice Ao14 t411.length co14, .bool t414] 33 (0, 0)) (by (with_reducible repeat (first | refine blk_drewN ?_ _ | refine blk_drew ?_ | refine blk_alloc ?_ _)); exact BK415.out) hb); have n4_ := Am (below_step (by (repeat (first | (with_reducible first | exact HB.out | apply below_alloc | apply pw_below_drewN | apply below_drew1 | refine below_set ?_ (Aside0.out GE409) | refine below_set ?_ (Aside0.out GE415)) | exact HB.out))) hb); clear HO_410000; clear HO_416000; clear BK409; clear BK415; clear HB; have HO_410000 := n0_; have HO_416000 := n1_; have BK409 := n2_; have BK415 := n3_; have HB := n4_; clear n0_ n1_ n2_ n3_ n4_; (try clear hb); (try clear hb2); (try clear hk); (try clear hi))))
              go_ret
              exact ⟨by (first | rfl | (simp [errW_none, errW_some] <;> rfl) | (simp [*, errW_none, errW_some] <;> rfl)), by (repeat (first | (with_reducible first | exact HB.out | apply below_alloc | apply pw_below_drewN | apply below_drew1 | refine below_set ?_ (Aside0.out GE409) | refine below_set ?_ (Aside0.out GE415)) | exact HB.out))⟩
            · rw [if_neg c33] at H
              have c33b0 : (t408 == a1) = false := by simpa using c33
              (try (have c33b1 : decide (t408 = a1) = false := by simpa using c33))
              (try (have c33b2 : (t408 == a1) = false := by simpa using c33))
              (try (have c33b3 : ¬ (t408 = a1) := by simpa using c33))
              clear c33
              obtain rfl := Option.some.inj H
              have hnb42 := NB409_415.out
              have hnc42 := NB415_409.out
              have hcz43_0 : wr.cell? ⟨gb409, 0, none⟩ = some (.slice Ao9 t405.length co9) := (blk_cell BK409.out 0).trans rfl
              have hcz43_1 : wr.cell? ⟨gb409, 1, none⟩ = some (.bool t408) := (blk_cell BK409.out 1).trans rfl
              have hfz43_0 := blk_frozen BK409.out 0
              have hfz43_1 := blk_frozen BK409.out 1
              have hcz44_0 : wr.cell? ⟨gb415, 0, none⟩ = some (.slice Ao14 t411.length co14) := (blk_cell BK415.out 0).trans rfl
              have hcz44_1 : wr.cell? ⟨gb415, 1, none⟩ = some (.bool t414) := (blk_cell BK415.out 1).trans rfl
              have hfz44_0 := blk_frozen BK415.out 0
              have hfz44_1 := blk_frozen BK415.out 1
              go_wp2_with (first | (go_at_call 15; (with_reducible refine (policy_Text.calls k1 _ _ t411 t414 t416 _ ?side1 ?side2 A30.out).mono ?_); (case side1 => repeat (first | exact (Kd.S_reads' HO_416000.out).2.2 | (first | (with_reducible refine Kd.C_alloc ?_ _) | (with_reducible refine Kd.C_drewN ?_ _) | (with_reducible refine Kd.C_drew ?_)))); (case side2 => exact (Kd.S_reads' HO_416000.out).2.1); rintro e w45 ⟨rfl, hb⟩; have n0_ := Am (Kd.S_below (by (with_reducible repeat (first | apply Kd.S_alloc | apply Kd.S_drewN | apply Kd.S_drew)); exact HO_410000.out) hb); have n1_ := Am (Kd.S_below (by (with_reducible repeat (first | apply Kd.S_alloc | apply Kd.S_drewN | apply Kd.S_drew)); exact HO_416000.out) hb); have n2_ := Am (blk_below (g := gb409) (o := .cells #[.slice Ao9 t405.length co9, .bool t408] 33 (0, 0)) (by (with_reducible repeat (first | refine blk_drewN ?_ _ | refine blk_drew ?_ | refine blk_alloc ?_ _)); exact BK409.out) hb); have n3_ := Am (blk_below (g := gb415) (o := .cells #[.slice Ao14 t411.length co14, .bool t414] 33 (0, 0)) (by (with_reducible repeat (first | refine blk_drewN ?_ _ | refine blk_drew ?_ | refine blk_alloc ?_ _)); exact BK415.out) hb); have n4_ := Am (below_step (by (repeat (first | (with_reducible first | exact HB.out | apply below_alloc | apply pw_below_drewN | apply below_drew1 | refine below_set ?_ (Aside0.out GE409) | refine below_set ?_ (Aside0.out GE415)) | exact HB.out))) hb); clear HO_410000; clear HO_416000; clear BK409; clear BK415; clear HB; have HO_410000 := n0_; have HO_416000 := n1_; have BK409 := n2_; have BK415 := n3_; have HB := n4_; clear n0_ n1_ n2_ n3_ n4_; (try clear hb); (try clear hb2); (try clear hk); (try clear hi); have hcz46_0 : w45.cell? ⟨gb415, 0, none⟩ = some (.slice Ao14 t411.length co14) := (blk_cell BK415.out 0).trans rfl; have hcz46_1 : w45.cell? ⟨gb415, 1, none⟩ = some (.bool t414) := (blk_cell BK415.out 1).trans rfl; have hfz46_0 := blk_frozen BK415.out 0; have hfz46_1 := blk_frozen BK415.out 1; have hcz47_0 : w45.cell? ⟨gb409, 0, none⟩ = some (.slice Ao9 t405.length co9) := (blk_cell BK409.out 0).trans rfl; have hcz47_1 : w45.cell? ⟨gb409, 1, none⟩ = some (.bool t408) := (blk_cell BK409.out 1).trans rfl; have hfz47_0 := blk_frozen BK409.out 0; have hfz47_1 := blk_frozen BK409.out 1))
              repeat (go_quiet (first | (go_at_call 15; (with_reducible refine (policy_Text.calls k1 _ _ t411 t414 t416 _ ?side1 ?side2 A30.out).mono ?_); (case side1 => repeat (first | exact (Kd.S_reads' HO_416000.out).2.2 | (first | (with_reducible refine Kd.C_alloc ?_ _) | (with_reducible refine Kd.C_drewN ?_ _) | (with_reducible refine Kd.C_drew ?_)))); (case side2 => exact (Kd.S_reads' HO_416000.out).2.1); rintro e w45 ⟨rfl, hb⟩; have n0_ := Am (Kd.S_below (by (with_reducible repeat (first | apply Kd.S_alloc | apply Kd.S_drewN | apply Kd.S_drew)); exact HO_410000.out) hb); have n1_ := Am (Kd.S_below (by (with_reducible repeat (first | apply Kd.S_alloc | apply Kd.S_drewN | apply Kd.S_drew)); exact HO_416000.out) hb); have n2_ := Am (blk_below (g := gb409) (o := .cells #[.slice Ao9 t405.length co9, .bool t408] 33 (0, 0)) (by (with_reducible repeat (first | refine blk_drewN ?_ _ | refine blk_drew ?_ | refine blk_alloc ?_ _)); exact BK409.out) hb); have n3_ := Am (blk_below (g := gb415) (o := .cells #[.slice Ao14 t411.length co14, .bool t414] 33 (0, 0)) (by (with_reducible repeat (first | refine blk_drewN ?_ _ | refine blk_drew ?_ | refine blk_alloc ?_ _)); exact BK415.out) hb); have n4_ := Am (below_step (by (repeat (first | (with_reducible first | exact HB.out | apply below_alloc | apply pw_below_drewN | apply below_drew1 | refine below_set ?_ (Aside0.out GE409) | refine below_set ?_ (Aside0.out GE415)) | exact HB.out))) hb); clear HO_410000; clear HO_416000; clear BK409; clear BK415; clear HB; have HO_410000 := n0_; have HO_416000 := n1_; have BK409 := n2_; have BK415 := n3_; have HB := n4_; clear n0_ n1_ n2_ n3_ n4_; (try clear hb); (try clear hb2); (try clear hk); (try clear hi); have hcz46_0 : w45.cell? ⟨gb415, 0, none⟩ = some (.slice Ao14 t411.length co14) := (blk_cell BK415.out 0).trans rfl; have hcz46_1 : w45.cell? ⟨gb415, 1, none⟩ = some (.bool t414) := (blk_cell BK415.out 1).trans rfl; have hfz46_0 := blk_frozen BK415.out 0; have hfz46_1 := blk_frozen BK415.out 1; have hcz47_0 : w45.cell? ⟨gb409, 0, none⟩ = some (.slice Ao9 t405.length co9) := (blk_cell BK409.out 0).trans rfl; have hcz47_1 : w45.cell? ⟨gb409, 1, none⟩ = some (.bool t408) := (blk_cell BK409.out 1).trans rfl; have hfz47_0 := blk_frozen BK409.out 0; have hfz47_1 := blk_frozen BK409.out 1)); try go_wp2_with (first | (go_at_call 15; (with_reducible refine (policy_Text.calls k1 _ _ t411 t414 t416 _ ?side1 ?side2 A30.out).mono ?_); (case side1 => repeat (first | exact (Kd.S_reads' HO_416000.out).2.2 | (first | (with_reducible refine Kd.C_alloc ?_ _) | (with_reducible refine Kd.C_drewN ?_ _) | (with_reducible refine Kd.C_drew ?_)))); (case side2 => exact (Kd.S_reads' HO_416000.out).2.1); rintro e w45 ⟨rfl, hb⟩; have n0_ := Am (Kd.S_below (by (with_reducible repeat (first | apply Kd.S_alloc | apply Kd.S_drewN | apply Kd.S_drew)); exact HO_410000.out) hb); have n1_ := Am (Kd.S_below (by (with_reducible repeat (first | apply Kd.S_alloc | apply Kd.S_drewN | apply Kd.S_drew)); exact HO_416000.out) hb); have n2_ := Am (blk_below (g := gb409) (o := .cells #[.slice Ao9 t405.length co9, .bool t408] 33 (0, 0)) (by (with_reducible repeat (first | refine blk_drewN ?_ _ | refine blk_drew ?_ | refine blk_alloc ?_ _)); exact BK409.out) hb); have n3_ := Am (blk_below (g := gb415) (o := .cells #[.slice Ao14 t411.length co14, .bool t414] 33 (0, 0)) (by (with_reducible repeat (first | refine blk_drewN ?_ _ | refine blk_drew ?_ | refine blk_alloc ?_ _)); exact BK415.out) hb); have n4_ := Am (below_step (by (repeat (first | (with_reducible first | exact HB.out | apply below_alloc | apply pw_below_drewN | apply below_drew1 | refine below_set ?_ (Aside0.out GE409) | refine below_set ?_ (Aside0.out GE415)) | exact HB.out))) hb); clear HO_410000; clear HO_416000; clear BK409; clear BK415; clear HB; have HO_410000 := n0_; have HO_416000 := n1_; have BK409 := n2_; have BK415 := n3_; have HB := n4_; clear n0_ n1_ n2_ n3_ n4_; (try clear hb); (try clear hb2); (try clear hk); (try clear hi); have hcz46_0 : w45.cell? ⟨gb415, 0, none⟩ = some (.slice Ao14 t411.length co14) := (blk_cell BK415.out 0).trans rfl; have hcz46_1 : w45.cell? ⟨gb415, 1, none⟩ = some (.bool t414) := (blk_cell BK415.out 1).trans rfl; have hfz46_0 := blk_frozen BK415.out 0; have hfz46_1 := blk_frozen BK415.out 1; have hcz47_0 : w45.cell? ⟨gb409, 0, none⟩ = some (.slice Ao9 t405.length co9) := (blk_cell BK409.out 0).trans rfl; have hcz47_1 : w45.cell? ⟨gb409, 1, none⟩ = some (.bool t408) := (blk_cell BK409.out 1).trans rfl; have hfz47_0 := blk_frozen BK409.out 0; have hfz47_1 := blk_frozen BK409.out 1)))
              go_ret
              exact ⟨by (first | rfl | (simp [errW_none, errW_some] <;> rfl) | (simp [*, errW_none, errW_some] <;> rfl)), by (repeat (first | (with_reducible first | exact HB.out | apply below_alloc | apply pw_below_drewN | apply below_drew1 | refine below_set ?_ (Aside0.out GE409) | refine below_set ?_ (Aside0.out GE415)) | exact HB.out))⟩
          · rw [if_neg c32] at H
            have c32b0 : ((t411.length : Int) == (t405.length : Int)) = false := beq_eq_false_iff_ne.mpr c32
            have c32b1 : ((t411.length : Int) != (t405.length : Int)) = true := bne_iff_ne.mpr c32
            have c32b2 : (t411.length == t405.length) = false := by first | simpa using c32 | (simp at c32 ⊢; omega)
            obtain rfl := Option.some.inj H
            have hnb48 := NB409_415.out
            have hnc48 := NB415_409.out
            have hcz49_0 : wr.cell? ⟨gb409, 0, none⟩ = some (.slice Ao9 t405.length co9) := (blk_cell BK409.out 0).trans rfl
            have hcz49_1 : wr.cell? ⟨gb409, 1, none⟩ = some (.bool t408) := (blk_cell BK409.out 1).trans rfl
            have hfz49_0 := blk_frozen BK409.out 0
            have hfz49_1 := blk_frozen BK409.out 1
            have hcz50_0 : wr.cell? ⟨gb415, 0, none⟩ = some (.slice Ao14 t411.length co14) := (blk_cell BK415.out 0).trans rfl
            have hcz50_1 : wr.cell? ⟨gb415, 1, none⟩ = some (.bool t414) := (blk_cell BK415.out 1).trans rfl
            have hfz50_0 := blk_frozen BK415.out 0
            have hfz50_1 := blk_frozen BK415.out 1
            go_wp2_with (first | (go_at_call 15; (with_reducible refine (policy_Text.calls k1 _ _ t411 t414 t416 _ ?side1 ?side2 A30.out).mono ?_); (case side1 => repeat (first | exact (Kd.S_reads' HO_416000.out).2.2 | (first | (with_reducible refine Kd.C_alloc ?_ _) | (with_reducible refine Kd.C_drewN ?_ _) | (with_reducible refine Kd.C_drew ?_)))); (case side2 => exact (Kd.S_reads' HO_416000.out).2.1); rintro e w51 ⟨rfl, hb⟩; have n0_ := Am (Kd.S_below (by (with_reducible repeat (first | apply Kd.S_alloc | apply Kd.S_drewN | apply Kd.S_drew)); exact HO_410000.out) hb); have n1_ := Am (Kd.S_below (by (with_reducible repeat (first | apply Kd.S_alloc | apply Kd.S_drewN | apply Kd.S_drew)); exact HO_416000.out) hb); have n2_ := Am (blk_below (g := gb409) (o := .cells #[.slice Ao9 t405.length co9, .bool t408] 33 (0, 0)) (by (with_reducible repeat (first | refine blk_drewN ?_ _ | refine blk_drew ?_ | refine blk_alloc ?_ _)); exact BK409.out) hb); have n3_ := Am (blk_below (g := gb415) (o := .cells #[.slice Ao14 t411.length co14, .bool t414] 33 (0, 0)) (by (with_reducible repeat (first | refine blk_drewN ?_ _ | refine blk_drew ?_ | refine blk_alloc ?_ _)); exact BK415.out) hb); have n4_ := Am (below_step (by (repeat (first | (with_reducible first | exact HB.out | apply below_alloc | apply pw_below_drewN | apply below_drew1 | refine below_set ?_ (Aside0.out GE409) | refine below_set ?_ (Aside0.out GE415)) | exact HB.out))) hb); clear HO_410000; clear HO_416000; clear BK409; clear BK415; clear HB; have HO_410000 := n0_; have HO_416000 := n1_; have BK409 := n2_; have BK415 := n3_; have HB := n4_; clear n0_ n1_ n2_ n3_ n4_; (try clear hb); (try clear hb2); (try clear hk); (try clear hi); have hcz52_0 : w51.cell? ⟨gb415, 0, none⟩ = some (.slice Ao14 t411.length co14) := (blk_cell BK415.out 0).trans rfl; have hcz52_1 : w51.cell? ⟨gb415, 1, none⟩ = some (.bool t414) := (blk_cell BK415.out 1).trans rfl; have hfz52_0 := blk_frozen BK415.out 0; have hfz52_1 := blk_frozen BK415.out 1; have hcz53_0 : w51.cell? ⟨gb409, 0, none⟩ = some (.slice Ao9 t405.length co9) := (blk_cell BK409.out 0).trans rfl; have hcz53_1 : w51.cell? ⟨gb409, 1, none⟩ = some (.bool t408) := (blk_cell BK409.out 1).trans rfl; have hfz53_0 := blk_frozen BK409.out 0; have hfz53_1 := blk_frozen BK409.out 1))
            repeat (go_quiet (first | (go_at_call 15; (with_reducible refine (policy_Text.calls k1 _ _ t411 t414 t416 _ ?side1 ?side2 A30.out).mono ?_); (case side1 => repeat (first | exact (Kd.S_reads' HO_416000.out).2.2 | (first | (with_reducible refine Kd.C_alloc ?_ _) | (with_reducible refine Kd.C_drewN ?_ _) | (with_reducible refine Kd.C_drew ?_)))); (case side2 => exact (Kd.S_reads' HO_416000.out).2.1); rintro e w51 ⟨rfl, hb⟩; have n0_ := Am (Kd.S_below (by (with_reducible repeat (first | apply Kd.S_alloc | apply Kd.S_drewN | apply Kd.S_drew)); exact HO_410000.out) hb); have n1_ := Am (Kd.S_below (by (with_reducible repeat (first | apply Kd.S_alloc | apply Kd.S_drewN | apply Kd.S_drew)); exact HO_416000.out) hb); have n2_ := Am (blk_below (g := gb409) (o := .cells #[.slice Ao9 t405.length co9, .bool t408] 33 (0, 0)) (by (with_reducible repeat (first | refine blk_drewN ?_ _ | refine blk_drew ?_ | refine blk_alloc ?_ _)); exact BK409.out) hb); have n3_ := Am (blk_below (g := gb415) (o := .cells #[.slice Ao14 t411.length co14, .bool t414] 33 (0, 0)) (by (with_reducible repeat (first | refine blk_drewN ?_ _ | refine blk_drew ?_ | refine blk_alloc ?_ _)); exact BK415.out) hb); have n4_ := Am (below_step (by (repeat (first | (with_reducible first | exact HB.out | apply below_alloc | apply pw_below_drewN | apply below_drew1 | refine below_set ?_ (Aside0.out GE409) | refine below_set ?_ (Aside0.out GE415)) | exact HB.out))) hb); clear HO_410000; clear HO_416000; clear BK409; clear BK415; clear HB; have HO_410000 := n0_; have HO_416000 := n1_; have BK409 := n2_; have BK415 := n3_; have HB := n4_; clear n0_ n1_ n2_ n3_ n4_; (try clear hb); (try clear hb2); (try clear hk); (try clear hi); have hcz52_0 : w51.cell? ⟨gb415, 0, none⟩ = some (.slice Ao14 t411.length co14) := (blk_cell BK415.out 0).trans rfl; have hcz52_1 : w51.cell? ⟨gb415, 1, none⟩ = some (.bool t414) := (blk_cell BK415.out 1).trans rfl; have hfz52_0 := blk_frozen BK415.out 0; have hfz52_1 := blk_frozen BK415.out 1; have hcz53_0 : w51.cell? ⟨gb409, 0, none⟩ = some (.slice Ao9 t405.length co9) := (blk_cell BK409.out 0).trans rfl; have hcz53_1 : w51.cell? ⟨gb409, 1, none⟩ = some (.bool t408) := (blk_cell BK409.out 1).trans rfl; have hfz53_0 := blk_frozen BK409.out 0; have hfz53_1 := blk_frozen BK409.out 1)); try go_wp2_with (first | (go_at_call 15; (with_reducible refine (policy_Text.calls k1 _ _ t411 t414 t416 _ ?side1 ?side2 A30.out).mono ?_); (case side1 => repeat (first | exact (Kd.S_reads' HO_416000.out).2.2 | (first | (with_reducible refine Kd.C_alloc ?_ _) | (with_reducible refine Kd.C_drewN ?_ _) | (with_reducible refine Kd.C_drew ?_)))); (case side2 => exact (Kd.S_reads' HO_416000.out).2.1); rintro e w51 ⟨rfl, hb⟩; have n0_ := Am (Kd.S_below (by (with_reducible repeat (first | apply Kd.S_alloc | apply Kd.S_drewN | apply Kd.S_drew)); exact HO_410000.out) hb); have n1_ := Am (Kd.S_below (by (with_reducible repeat (first | apply Kd.S_alloc | apply Kd.S_drewN | apply Kd.S_drew)); exact HO_416000.out) hb); have n2_ := Am (blk_below (g := gb409) (o := .cells #[.slice Ao9 t405.length co9, .bool t408] 33 (0, 0)) (by (with_reducible repeat (first | refine blk_drewN ?_ _ | refine blk_drew ?_ | refine blk_alloc ?_ _)); exact BK409.out) hb); have n3_ := Am (blk_below (g := gb415) (o := .cells #[.slice Ao14 t411.length co14, .bool t414] 33 (0, 0)) (by (with_reducible repeat (first | refine blk_drewN ?_ _ | refine blk_drew ?_ | refine blk_alloc ?_ _)); exact BK415.out) hb); have n4_ := Am (below_step (by (repeat (first | (with_reducible first | exact HB.out | apply below_alloc | apply pw_below_drewN | apply below_drew1 | refine below_set ?_ (Aside0.out GE409) | refine below_set ?_ (Aside0.out GE415)) | exact HB.out))) hb); clear HO_410000; clear HO_416000; clear BK409; clear BK415; clear HB; have HO_410000 := n0_; have HO_416000 := n1_; have BK409 := n2_; have BK415 := n3_; have HB := n4_; clear n0_ n1_ n2_ n3_ n4_; (try clear hb); (try clear hb2); (try clear hk); (try clear hi); have hcz52_0 : w51.cell? ⟨gb415, 0, none⟩ = some (.slice Ao14 t411.length co14) := (blk_cell BK415.out 0).trans rfl; have hcz52_1 : w51.cell? ⟨gb415, 1, none⟩ = some (.bool t414) := (blk_cell BK415.out 1).trans rfl; have hfz52_0 := blk_frozen BK415.out 0; have hfz52_1 := blk_frozen BK415.out 1; have hcz53_0 : w51.cell? ⟨gb409, 0, none⟩ = some (.slice Ao9 t405.length co9) := (blk_cell BK409.out 0).trans rfl; have hcz53_1 : w51.cell? ⟨gb409, 1, none⟩ = some (.bool t408) := (blk_cell BK409.out 1).trans rfl; have hfz53_0 := blk_frozen BK409.out 0; have hfz53_1 := blk_frozen BK409.out 1)))
            go_ret
            exact ⟨by (first | rfl | (simp [errW_none, errW_some] <;> rfl) | (simp [*, errW_none, errW_some] <;> rfl)), by (repeat (first | (with_reducible first | exact HB.out | apply below_alloc | apply pw_below_drewN | apply below_drew1 | refine below_set ?_ (Aside0.out GE409) | refine below_set ?_ (Aside0.out GE415)) | exact HB.out))⟩
        · rw [if_neg c31] at H
          have c31b0 : (t416.toList == t410.toList) = false := beq_eq_false_iff_ne.mpr c31
          have c31b1 : (t416.toList != t410.toList) = true := bne_iff_ne.mpr c31
          obtain rfl := Option.some.inj H
          have hnb54 := NB409_415.out
          have hnc54 := NB415_409.out
          have hcz55_0 : wr.cell? ⟨gb409, 0, none⟩ = some (.slice Ao9 t405.length co9) := (blk_cell BK409.out 0).trans rfl
          have hcz55_1 : wr.cell? ⟨gb409, 1, none⟩ = some (.bool t408) := (blk_cell BK409.out 1).trans rfl
          have hfz55_0 := blk_frozen BK409.out 0
          have hfz55_1 := blk_frozen BK409.out 1
          have hcz56_0 : wr.cell? ⟨gb415, 0, none⟩ = some (.slice Ao14 t411.length co14) := (blk_cell BK415.out 0).trans rfl
          have hcz56_1 : wr.cell? ⟨gb415, 1, none⟩ = some (.bool t414) := (blk_cell BK415.out 1).trans rfl
          have hfz56_0 := blk_frozen BK415.out 0
          have hfz56_1 := blk_frozen BK415.out 1
          go_wp2_with (first | (go_at_call 15; (with_reducible refine (policy_Text.calls k1 _ _ t411 t414 t416 _ ?side1 ?side2 A30.out).mono ?_); (case side1 => repeat (first | exact (Kd.S_reads' HO_416000.out).2.2 | (first | (with_reducible refine Kd.C_alloc ?_ _) | (with_reducible refine Kd.C_drewN ?_ _) | (with_reducible refine Kd.C_drew ?_)))); (case side2 => exact (Kd.S_reads' HO_416000.out).2.1); rintro e w57 ⟨rfl, hb⟩; have n0_ := Am (Kd.S_below (by (with_reducible repeat (first | apply Kd.S_alloc | apply Kd.S_drewN | apply Kd.S_drew)); exact HO_410000.out) hb); have n1_ := Am (Kd.S_below (by (with_reducible repeat (first | apply Kd.S_alloc | apply Kd.S_drewN | apply Kd.S_drew)); exact HO_416000.out) hb); have n2_ := Am (blk_below (g := gb409) (o := .cells #[.slice Ao9 t405.length co9, .bool t408] 33 (0, 0)) (by (with_reducible repeat (first | refine blk_drewN ?_ _ | refine blk_drew ?_ | refine blk_alloc ?_ _)); exact BK409.out) hb); have n3_ := Am (blk_below (g := gb415) (o := .cells #[.slice Ao14 t411.length co14, .bool t414] 33 (0, 0)) (by (with_reducible repeat (first | refine blk_drewN ?_ _ | refine blk_drew ?_ | refine blk_alloc ?_ _)); exact BK415.out) hb); have n4_ := Am (below_step (by (repeat (first | (with_reducible first | exact HB.out | apply below_alloc | apply pw_below_drewN | apply below_drew1 | refine below_set ?_ (Aside0.out GE409) | refine below_set ?_ (Aside0.out GE415)) | exact HB.out))) hb); clear HO_410000; clear HO_416000; clear BK409; clear BK415; clear HB; have HO_410000 := n0_; have HO_416000 := n1_; have BK409 := n2_; have BK415 := n3_; have HB := n4_; clear n0_ n1_ n2_ n3_ n4_; (try clear hb); (try clear hb2); (try clear hk); (try clear hi)))
          repeat (go_quiet (first | (go_at_call 15; (with_reducible refine (policy_Text.calls k1 _ _ t411 t414 t416 _ ?side1 ?side2 A30.out).mono ?_); (case side1 => repeat (first | exact (Kd.S_reads' HO_416000.out).2.2 | (first | (with_reducible refine Kd.C_alloc ?_ _) | (with_reducible refine Kd.C_drewN ?_ _) | (with_reducible refine Kd.C_drew ?_)))); (case side2 => exact (Kd.S_reads' HO_416000.out).2.1); rintro e w57 ⟨rfl, hb⟩; have n0_ := Am (Kd.S_below (by (with_reducible repeat (first | apply Kd.S_alloc | apply Kd.S_drewN | apply Kd.S_drew)); exact HO_410000.out) hb); have n1_ := Am (Kd.S_below (by (with_reducible repeat (first | apply Kd.S_alloc | apply Kd.S_drewN | apply Kd.S_drew)); exact HO_416000.out) hb); have n2_ := Am (blk_below (g := gb409) (o := .cells #[.slice Ao9 t405.length co9, .bool t408] 33 (0, 0)) (by (with_reducible repeat (first | refine blk_drewN ?_ _ | refine blk_drew ?_ | refine blk_alloc ?_ _)); exact BK409.out) hb); have n3_ := Am (blk_below (g := gb415) (o := .cells #[.slice Ao14 t411.length co14, .bool t414] 33 (0, 0)) (by (with_reducible repeat (first | refine blk_drewN ?_ _ | refine blk_drew ?_ | refine blk_alloc ?_ _)); exact BK415.out) hb); have n4_ := Am (below_step (by (repeat (first | (with_reducible first | exact HB.out | apply below_alloc | apply pw_below_drewN | apply below_drew1 | refine below_set ?_ (Aside0.out GE409) | refine below_set ?_ (Aside0.out GE415)) | exact HB.out))) hb); clear HO_410000; clear HO_416000; clear BK409; clear BK415; clear HB; have HO_410000 := n0_; have HO_416000 := n1_; have BK409 := n2_; have BK415 := n3_; have HB := n4_; clear n0_ n1_ n2_ n3_ n4_; (try clear hb); (try clear hb2); (try clear hk); (try clear hi))); try go_wp2_with (first | (go_at_call 15; (with_reducible refine (policy_Text.calls k1 _ _ t411 t414 t416 _ ?side1 ?side2 A30.out).mono ?_); (case side1 => repeat (first | exact (Kd.S_reads' HO_416000.out).2.2 | (first | (with_reducible refine Kd.C_alloc ?_ _) | (with_reducible refine Kd.C_drewN ?_ _) | (with_reducible refine Kd.C_drew ?_)))); (case side2 => exact (Kd.S_reads' HO_416000.out).2.1); rintro e w57 ⟨rfl, hb⟩; have n0_ := Am (Kd.S_below (by (with_reducible repeat (first | apply Kd.S_alloc | apply Kd.S_drewN | apply Kd.S_drew)); exact HO_410000.out) hb); have n1_ := Am (Kd.S_below (by (with_reducible repeat (first | apply Kd.S_alloc | apply Kd.S_drewN | apply Kd.S_drew)); exact HO_416000.out) hb); have n2_ := Am (blk_below (g := gb409) (o := .cells #[.slice Ao9 t405.length co9, .bool t408] 33 (0, 0)) (by (with_reducible repeat (first | refine blk_drewN ?_ _ | refine blk_drew ?_ | refine blk_alloc ?_ _)); exact BK409.out) hb); have n3_ := Am (blk_below (g := gb415) (o := .cells #[.slice Ao14 t411.length co14, .bool t414] 33 (0, 0)) (by (with_reducible repeat (first | refine blk_drewN ?_ _ | refine blk_drew ?_ | refine blk_alloc ?_ _)); exact BK415.out) hb); have n4_ := Am (below_step (by (repeat (first | (with_reducible first | exact HB.out | apply below_alloc | apply pw_below_drewN | apply below_drew1 | refine below_set ?_ (Aside0.out GE409) | refine below_set ?_ (Aside0.out GE415)) | exact HB.out))) hb); clear HO_410000; clear HO_416000; clear BK409; clear BK415; clear HB; have HO_410000 := n0_; have HO_416000 := n1_; have BK409 := n2_; have BK415 := n3_; have HB := n4_; clear n0_ n1_ n2_ n3_ n4_; (try clear hb); (try clear hb2); (try clear hk); (try clear hi))))
          go_ret
          exact ⟨by (first | rfl | (simp [errW_none, errW_some] <;> rfl) | (simp [*, errW_none, errW_some] <;> rfl)), by (repeat (first | (with_reducible first | exact HB.out | apply below_alloc | apply pw_below_drewN | apply below_drew1 | refine below_set ?_ (Aside0.out GE409) | refine below_set ?_ (Aside0.out GE415)) | exact HB.out))⟩

/-- THE ONE PURE STATEMENT of ostiarylaw10_PolicyBack: yours. -/
def ostiarylaw10_PolicyBack.Pure : Prop := ∀ (a0 : ByteArray) (a1 : Bool), a0.size ≤ 140737488351232 → ∃ k, ostiarylaw10_PolicyBack.f k a0 a1 = some true
theorem ostiarylaw10_PolicyBack.walk (P : ostiarylaw10_PolicyBack.Pure) (a0 : ByteArray) (a1 : Bool) (w : World) (w0 : a0.size ≤ 140737488351232) :
    Calls Tryd.prog 5 #[.string a0, .bool a1] w fun e w' => e = .returned (.bool true) ∧ Below w.heap.size w w' := by
  obtain ⟨k, h⟩ := P a0 a1 w0
  refine (ostiarylaw10_PolicyBack.calls k a0 a1 true w h).mono ?_
  rintro e w' ⟨rfl, hd⟩
  exact ⟨rfl, hd⟩

-- NOT PRINTED: function 25 (ostiarybook_Book_string_Keep)

-- NOT PRINTED: function 40 (ostiarybook_Book_string_Stays)

-- NOT PRINTED: function 26 (ostiarybook_Book_string_Apart)

/-! ### ostiarybook_Strings: function 27 -/
def ostiarybook_Strings.f (a0 : Int) (a1 : Int) : Option (ByteArray) := (some (([(a0) % 256, (a0 / 256) % 256, (a0 / 65536) % 256] : List Int) : List Int)).bind fun y423 => (if 5 + (strOfNums y423).size ≤ 9223372036854775807 then (some ((⟨#[109, 97, 114, 107, 32]⟩ : ByteArray) ++ (strOfNums y423))) else (none))
set_option maxHeartbeats 8000000 in
set_option maxRecDepth 100000 in
theorem ostiarybook_Strings.calls (a0 : Int) (a1 : Int) (r : ByteArray) (w : World) (h : ostiarybook_Strings.f a0 a1 = some r) :
    Calls Tryd.prog 27 #[.int .i64 a0, .int .i64 a1] w fun e w' => e = .returned (.string r) ∧ Below w.heap.size w w' := by
  have HB := Am (Below.refl w.heap.size w)
  have H : ((some (([(a0) % 256, (a0 / 256) % 256, (a0 / 65536) % 256] : List Int) : List Int)).bind fun y423 => (if 5 + (strOfNums y423).size ≤ 9223372036854775807 then (some ((⟨#[109, 97, 114, 107, 32]⟩ : ByteArray) ++ (strOfNums y423))) else (none))) = some r := h
  clear h
  obtain ⟨y423, hy423⟩ : ∃ y_ : List Int, y_ = (([(a0) % 256, (a0 / 256) % 256, (a0 / 65536) % 256] : List Int)) := ⟨_, rfl⟩
  replace H : (if 5 + (strOfNums y423).size ≤ 9223372036854775807 then (some ((⟨#[109, 97, 114, 107, 32]⟩ : ByteArray) ++ (strOfNums y423))) else (none)) = some r := by first | (rw [hy423]; with_reducible exact H) | (have H2_ := (Option.bind_some _ _).symm.trans H; rw [hy423]; with_reducible exact H2_) | (have H2_ := (Option.bind_some _ _).symm.trans H; with_reducible exact H2_) | with_reducible exact H | (rw [hy423]; exact H) | exact H
  have Ny423 := Aside0.mk hy423
  clear hy423
  by_cases c3 : 5 + (strOfNums y423).size ≤ 9223372036854775807
  · rw [if_pos c3] at H
    have c3b0 := eq_true c3
    have c3b1 : decide (5 + (strOfNums y423).size ≤ 9223372036854775807) = true := decide_eq_true c3
    try have c3b2 : (9223372036854775807 < 5 + (strOfNums y423).size) = False := eq_false (Nat.not_lt.2 c3)
    obtain rfl := Option.some.inj H
    go_enter Tryd.func27, Tryd.ntmps27
    go_wp2_with (first | ((with_reducible refine gate_dst (N := 13) rfl ?_); refine Kd.R_lit (Kd.int .u8) _ 5 ?hg (N := 13) ?hd (xs := ([(a0) % 256, (a0 / 256) % 256, (a0 / 65536) % 256] : List Int)) (inner := [.int .u8 ((a0) % 256), .int .u8 ((a0 / 256) % 256), .int .u8 ((a0 / 65536) % 256)]) (ok := fun _ => True) (okp := fun _ => True) ?hr ?hp (fun _ hk => hk) trivial (Below.refl _ _) (Nat.le_refl _) (by simp) ?_; ((case hd => rfl); (case hg => rfl); (case hr => first | (go_simp; done) | (go_simp; rfl))); (case hp => exact (Reps.one (show Kd.M (Kd.int .u8) _ _ _ ((a0) % 256) [.int .u8 ((a0) % 256)] from rfl) (Reps.one (show Kd.M (Kd.int .u8) _ _ _ ((a0 / 256) % 256) [.int .u8 ((a0 / 256) % 256)] from rfl) (Reps.one (show Kd.M (Kd.int .u8) _ _ _ ((a0 / 65536) % 256) [.int .u8 ((a0 / 65536) % 256)] from rfl) (Reps.none _ _))))); intro v424 w4 ho5 hb hg_ hnew_; clear hg_ hnew_; (first | rw [← Ny423.out] at ho5 | (simp only [Int.reduceToNat] at ho5; rw [← Ny423.out] at ho5)); have n0_ := Am (Kd.R_lower ho5 (below_size (by (repeat (first | (with_reducible first | exact HB.out | apply below_alloc | apply pw_below_drewN | apply below_drew1) | exact HB.out))))); have n1_ := Am (below_step (by (repeat (first | (with_reducible first | exact HB.out | apply below_alloc | apply pw_below_drewN | apply below_drew1) | exact HB.out))) hb); clear HB; have HO425 := n0_; have HB := n1_; clear n0_ n1_; clear hb ho5; have hcv6 := own_string (P := Tryd.prog) Tryd.underlying73 Tryd.underlying5 Tryd.underlying9 (Kd.own_of_R HO425.out)))
    go_ret
    exact ⟨by (first | rfl | (simp [errW_none, errW_some] <;> rfl) | (simp [*, errW_none, errW_some] <;> rfl)), by (repeat (first | (with_reducible first | exact HB.out | apply below_alloc | apply pw_below_drewN | apply below_drew1) | exact HB.out))⟩
  · rw [if_neg c3] at H
    exact absurd H (by simp)

-- NOT PRINTED: function 6 (ostiarylaw10_PolicyKept)

/-! ### ostiarylaw10_word: function 28 -/
mutual
def ostiarylaw10_word.l0 : Nat → ByteArray → ByteArray → Int → Option (ByteArray)
  | 0, _, _, _ => none
  | k + 1, x0, x3, x4 => if x4 < (x0.size : Int) then (ostiarylaw10_word.j1 k x0 x3 x4 (decide ((x3.size : Int) < 12))) else (ostiarylaw10_word.j1 k x0 x3 x4 false)
def ostiarylaw10_word.j1 : Nat → ByteArray → ByteArray → Int → Bool → Option (ByteArray)
  | 0, _, _, _, _ => none
  | k + 1, x0, x3, x4, x13 => if x13 = true then (if 0 ≤ x4 then (if x4 < (x0.size : Int) then (if (bt x0 x4) ≥ 97 then (if (bt x0 x4) ≤ 122 then (if x4 ≤ (wrap64 (x4 + 1)) then (if (wrap64 (x4 + 1)) ≤ (x0.size : Int) then (if x3.size + (x0.extract (x4 : Int).toNat ((wrap64 (x4 + 1)) : Int).toNat).size ≤ 9223372036854775807 then (ostiarylaw10_word.l0 k x0 (x3 ++ (x0.extract (x4 : Int).toNat ((wrap64 (x4 + 1)) : Int).toNat)) (wrap64 (x4 + 1))) else (none)) else (none)) else (none)) else (ostiarylaw10_word.l0 k x0 x3 (wrap64 (x4 + 1)))) else (ostiarylaw10_word.l0 k x0 x3 (wrap64 (x4 + 1)))) else (none)) else (none)) else (some x3)
end
def ostiarylaw10_word.f (k : Nat) (a0 : ByteArray) : Option (ByteArray) := ostiarylaw10_word.l0 k a0 (⟨#[113]⟩ : ByteArray) 0
theorem ostiarylaw10_word.mono_l : ∀ k, (∀ y0 y1 y2, LeO (ostiarylaw10_word.l0 k y0 y1 y2) (ostiarylaw10_word.l0 (k + 1) y0 y1 y2)) ∧ (∀ y0 y1 y2 y3, LeO (ostiarylaw10_word.j1 k y0 y1 y2 y3) (ostiarylaw10_word.j1 (k + 1) y0 y1 y2 y3))
  | 0 => ⟨fun _ _ _ r h => by simp [ostiarylaw10_word.l0] at h, fun _ _ _ _ r h => by simp [ostiarylaw10_word.j1] at h⟩
  | k + 1 => by
    obtain ⟨ih0, ih1⟩ := ostiarylaw10_word.mono_l k
    refine ⟨?_, ?_⟩
    · intro y0 y1 y2
      unfold ostiarylaw10_word.l0
      repeat' first
      | (with_reducible exact ih0 _ _ _)
      | (with_reducible exact ih1 _ _ _ _)
      | (with_reducible exact LeO.refl _)
      | (with_reducible exact LeO.none _)
      | (with_reducible refine LeO.ite ?_ ?_)
      | (with_reducible refine LeO.bind ?_ (fun _ => ?_))
      | exact ih0 _ _ _
      | exact ih1 _ _ _ _
      | exact LeO.none _
      | refine LeO.ite ?_ ?_
      | refine LeO.bind ?_ (fun _ => ?_)
    · intro y0 y1 y2 y3
      unfold ostiarylaw10_word.j1
      repeat' first
      | (with_reducible exact ih0 _ _ _)
      | (with_reducible exact ih1 _ _ _ _)
      | (with_reducible exact LeO.refl _)
      | (with_reducible exact LeO.none _)
      | (with_reducible refine LeO.ite ?_ ?_)
      | (with_reducible refine LeO.bind ?_ (fun _ => ?_))
      | exact ih0 _ _ _
      | exact ih1 _ _ _ _
      | exact LeO.none _
      | refine LeO.ite ?_ ?_
      | refine LeO.bind ?_ (fun _ => ?_)
theorem ostiarylaw10_word.mono : ∀ a0 k, LeO (ostiarylaw10_word.f k a0) (ostiarylaw10_word.f (k + 1) a0) := by
  intro a0 k
  obtain ⟨ih0, ih1⟩ := ostiarylaw10_word.mono_l k
  unfold ostiarylaw10_word.f
  repeat' first
      | (with_reducible exact ih0 _ _ _)
      | (with_reducible exact ih1 _ _ _ _)
      | (with_reducible exact LeO.refl _)
      | (with_reducible exact LeO.none _)
      | (with_reducible refine LeO.ite ?_ ?_)
      | (with_reducible refine LeO.bind ?_ (fun _ => ?_))
      | exact ih0 _ _ _
      | exact ih1 _ _ _ _
      | exact LeO.none _
      | refine LeO.ite ?_ ?_
      | refine LeO.bind ?_ (fun _ => ?_)
set_option maxHeartbeats 8000000 in
set_option maxRecDepth 100000 in
theorem ostiarylaw10_word.calls (k : Nat) (a0 : ByteArray) (r : ByteArray) (w : World) (h : ostiarylaw10_word.f k a0 = some r) :
    Calls Tryd.prog 28 #[.string a0] w fun e w' => e = .returned (.string r) ∧ Drawn0 w w' := by
  have H : (ostiarylaw10_word.l0 k a0 (⟨#[113]⟩ : ByteArray) 0) = some r := h
  clear h
  have H' := Aside0.mk H
  clear H
  go_enter Tryd.func28, Tryd.ntmps28
  go_wp2
  go_loopg [3, 4] k (fun kq v3 v4 w' => ∃ (x3_1 : ByteArray) (x4_1 : Int), v3 = .string x3_1 ∧ v4 = .int .i64 x4_1 ∧ Aside0 (ostiarylaw10_word.l0 kq a0 x3_1 x4_1 = some r) ∧ Aside0 (kq ≤ k) ∧ Drawn0 w w')
  case atStart => exact ⟨((⟨#[113]⟩ : ByteArray)), (0), (by first | rfl | (simp; done) | (simp [*]; done)), (by first | rfl | (simp; done) | (simp [*]; done)), H', ⟨Nat.le_refl _⟩, by repeat (first | exact Drawn0.refl _ | apply Drawn0.step)⟩
  case round =>
    clear H'
    obtain ⟨x3_1, x4_1, rfl, rfl, HA, HK1, ⟨m1, rfl⟩⟩ := hrel
    cases gk with
    | zero => exact absurd HA.out (by simp [ostiarylaw10_word.l0])
    | succ k1 =>
      have H := HA.out
      clear HA
      simp only [ostiarylaw10_word.l0] at H
      have HC2 := Aside0.mk H
      clear H
      go_upto_region 3 with (fail)
      go_cut [13] (fun v13 wc => ∃ (kq : Nat) (x13_1 : Bool), v13 = .bool x13_1 ∧ Aside0 (ostiarylaw10_word.j1 kq a0 x3_1 x4_1 x13_1 = some r) ∧ Aside0 (kq ≤ k1) ∧ Drawn0 w wc)
      case first =>
        have H := HC2.out
        clear HC2
        by_cases c3 : x4_1 < (a0.size : Int)
        · rw [if_pos c3] at H
          have c3b0 : decide (x4_1 < (a0.size : Int)) = true := decide_eq_true c3
          clear c3
          (first | rw [c3b0] | (simp only [i64_w, i32_w]; rw [c3b0]) | skip)
          have H' := Aside0.mk H
          clear H
          go_wp2
          go_meet
          case rel => exact ⟨_, (decide ((x3_1.size : Int) < 12)), (by first | rfl | (simp; done) | (simp [*]; done)), H', ⟨by have := HK1.out; first | omega | exact Nat.le_refl _⟩, by repeat (first | exact Drawn0.refl _ | apply Drawn0.step)⟩
        · rw [if_neg c3] at H
          have c3b0 : decide (x4_1 < (a0.size : Int)) = false := decide_eq_false c3
          clear c3
          (first | rw [c3b0] | (simp only [i64_w, i32_w]; rw [c3b0]) | skip)
          have H' := Aside0.mk H
          clear H
          go_wp2
          go_meet
          case rel => exact ⟨_, (false), (by first | rfl | (simp; done) | (simp [*]; done)), H', ⟨by have := HK1.out; first | omega | exact Nat.le_refl _⟩, by repeat (first | exact Drawn0.refl _ | apply Drawn0.step)⟩
      case rest =>
        clear HC2
        try clear c2
        try clear p2
        try clear c3
        try clear c3b0
        obtain ⟨kq, x13_1, rfl, HA, HJ1, ⟨mc1, rfl⟩⟩ := hcut
        cases kq with
        | zero => exact absurd HA.out (by simp [ostiarylaw10_word.j1])
        | succ kj1 =>
          have H := HA.out
          clear HA
          simp only [ostiarylaw10_word.j1] at H
          by_cases c4 : x13_1 = true
          · subst c4
            have H1 : (if 0 ≤ x4_1 then (if x4_1 < (a0.size : Int) then (if (bt a0 x4_1) ≥ 97 then (if (bt a0 x4_1) ≤ 122 then (if x4_1 ≤ (wrap64 (x4_1 + 1)) then (if (wrap64 (x4_1 + 1)) ≤ (a0.size : Int) then (if x3_1.size + (a0.extract (x4_1 : Int).toNat ((wrap64 (x4_1 + 1)) : Int).toNat).size ≤ 9223372036854775807 then (ostiarylaw10_word.l0 kj1 a0 (x3_1 ++ (a0.extract (x4_1 : Int).toNat ((wrap64 (x4_1 + 1)) : Int).toNat)) (wrap64 (x4_1 + 1))) else (none)) else (none)) else (none)) else (ostiarylaw10_word.l0 kj1 a0 x3_1 (wrap64 (x4_1 + 1)))) else (ostiarylaw10_word.l0 kj1 a0 x3_1 (wrap64 (x4_1 + 1)))) else (none)) else (none)) = some r := by rw [if_pos rfl] at H; exact H
            clear H
            have H := H1
            clear H1
            by_cases c5 : 0 ≤ x4_1
            · rw [if_pos c5] at H
              have c5b0 : decide (0 ≤ x4_1) = true := decide_eq_true c5
              clear c5
              by_cases c6 : x4_1 < (a0.size : Int)
              · rw [if_pos c6] at H
                have c6b0 : decide (x4_1 < (a0.size : Int)) = true := decide_eq_true c6
                clear c6
                by_cases c8 : (bt a0 x4_1) ≥ 97
                · rw [if_pos c8] at H
                  have c8b0 : decide (97 ≤ (bt a0 x4_1)) = true := decide_eq_true c8
                  clear c8
                  by_cases c10 : (bt a0 x4_1) ≤ 122
                  · rw [if_pos c10] at H
                    have c10b0 : decide ((bt a0 x4_1) ≤ 122) = true := decide_eq_true c10
                    clear c10
                    have c11b0 := eq_true (of_decide_eq_true (by first | (with_reducible assumption) | assumption) : 0 ≤ x4_1)
                    by_cases c12 : x4_1 ≤ (wrap64 (x4_1 + 1))
                    · rw [if_pos c12] at H
                      have c12b0 := eq_true c12
                      have c12b1 : decide (x4_1 ≤ (wrap64 (x4_1 + 1))) = true := decide_eq_true c12
                      by_cases c13 : (wrap64 (x4_1 + 1)) ≤ (a0.size : Int)
                      · rw [if_pos c13] at H
                        have c13b0 := eq_true c13
                        have c13b1 : decide ((wrap64 (x4_1 + 1)) ≤ (a0.size : Int)) = true := decide_eq_true c13
                        by_cases c14 : x3_1.size + (a0.extract (x4_1 : Int).toNat ((wrap64 (x4_1 + 1)) : Int).toNat).size ≤ 9223372036854775807
                        · rw [if_pos c14] at H
                          have c14b0 := eq_true c14
                          have c14b1 : decide (x3_1.size + (a0.extract (x4_1 : Int).toNat ((wrap64 (x4_1 + 1)) : Int).toNat).size ≤ 9223372036854775807) = true := decide_eq_true c14
                          try have c14b2 : (9223372036854775807 < x3_1.size + (a0.extract (x4_1 : Int).toNat ((wrap64 (x4_1 + 1)) : Int).toNat).size) = False := eq_false (Nat.not_lt.2 c14)
                          have H' := Aside0.mk H
                          clear H
                          have p7 : 0 ≤ (x4_1 : Int) := of_decide_eq_true (by first | (with_reducible assumption) | assumption)
                          have q7 : x4_1 < (a0.size : Int) := of_decide_eq_true (by first | (with_reducible assumption) | assumption)
                          have hx7 := bt_at a0 x4_1
                          replace p7 := eq_true p7
                          replace q7 := eq_true q7
                          have p9 : 0 ≤ (x4_1 : Int) := of_decide_eq_true (by first | (with_reducible assumption) | assumption)
                          have q9 : x4_1 < (a0.size : Int) := of_decide_eq_true (by first | (with_reducible assumption) | assumption)
                          have hx9 := bt_at a0 x4_1
                          replace p9 := eq_true p9
                          replace q9 := eq_true q9
                          go_wp2
                          go_roundg kj1
                          case measure => have := HK1.out; have := HJ1.out; omega
                          case rel => exact ⟨(x3_1 ++ (a0.extract (x4_1 : Int).toNat ((wrap64 (x4_1 + 1)) : Int).toNat)), (wrap64 (x4_1 + 1)), (by first | rfl | (simp; done) | (simp [*]; done)), (by first | rfl | (simp; done) | (simp [*]; done)), H', ⟨by have := HK1.out; have := HJ1.out; omega⟩, by repeat (first | exact Drawn0.refl _ | apply Drawn0.step)⟩
                        · rw [if_neg c14] at H
                          exact absurd H (by simp)
                      · rw [if_neg c13] at H
                        exact absurd H (by simp)
                    · rw [if_neg c12] at H
                      exact absurd H (by simp)
                  · rw [if_neg c10] at H
                    have c10b0 : decide ((bt a0 x4_1) ≤ 122) = false := decide_eq_false c10
                    clear c10
                    have H' := Aside0.mk H
                    clear H
                    have p7 : 0 ≤ (x4_1 : Int) := of_decide_eq_true (by first | (with_reducible assumption) | assumption)
                    have q7 : x4_1 < (a0.size : Int) := of_decide_eq_true (by first | (with_reducible assumption) | assumption)
                    have hx7 := bt_at a0 x4_1
                    replace p7 := eq_true p7
                    replace q7 := eq_true q7
                    have p9 : 0 ≤ (x4_1 : Int) := of_decide_eq_true (by first | (with_reducible assumption) | assumption)
                    have q9 : x4_1 < (a0.size : Int) := of_decide_eq_true (by first | (with_reducible assumption) | assumption)
                    have hx9 := bt_at a0 x4_1
                    replace p9 := eq_true p9
                    replace q9 := eq_true q9
                    go_wp2
                    go_roundg kj1
                    case measure => have := HK1.out; have := HJ1.out; omega
                    case rel => exact ⟨(x3_1), (wrap64 (x4_1 + 1)), (by first | rfl | (simp; done) | (simp [*]; done)), (by first | rfl | (simp; done) | (simp [*]; done)), H', ⟨by have := HK1.out; have := HJ1.out; omega⟩, by repeat (first | exact Drawn0.refl _ | apply Drawn0.step)⟩
                · rw [if_neg c8] at H
                  have c8b0 : decide (97 ≤ (bt a0 x4_1)) = false := decide_eq_false c8
                  clear c8
                  have H' := Aside0.mk H
                  clear H
                  have p7 : 0 ≤ (x4_1 : Int) := of_decide_eq_true (by first | (with_reducible assumption) | assumption)
                  have q7 : x4_1 < (a0.size : Int) := of_decide_eq_true (by first | (with_reducible assumption) | assumption)
                  have hx7 := bt_at a0 x4_1
                  replace p7 := eq_true p7
                  replace q7 := eq_true q7
                  go_wp2
                  go_roundg kj1
                  case measure => have := HK1.out; have := HJ1.out; omega
                  case rel => exact ⟨(x3_1), (wrap64 (x4_1 + 1)), (by first | rfl | (simp; done) | (simp [*]; done)), (by first | rfl | (simp; done) | (simp [*]; done)), H', ⟨by have := HK1.out; have := HJ1.out; omega⟩, by repeat (first | exact Drawn0.refl _ | apply Drawn0.step)⟩
              · rw [if_neg c6] at H
                exact absurd H (by simp)
            · rw [if_neg c5] at H
              exact absurd H (by simp)
          · replace c4 := Bool.eq_false_iff.mpr c4
            subst c4
            have H1 : (some x3_1) = some r := by rw [if_neg (show ¬ (false = true) by decide)] at H; exact H
            clear H
            have H := H1
            clear H1
            obtain rfl := Option.some.inj H
            go_wp2
            go_ret
            exact ⟨by first | rfl | (simp; done) | (simp [*]; done) | (congr 2; generalize ByteArray.toList _ = l; cases l <;> rfl), by repeat (first | exact Drawn0.refl _ | apply Drawn0.step)⟩

-- NOT PRINTED: function 7 (ostiarylaw10_PolicyFirst)

end Go.Proofs.YtohcjdninpjpgaaDoor.PX
