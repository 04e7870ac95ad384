/- Functions of the program and their walks, printed by a program. -/
import Derived.Test.YtohcjdninpjpgaaDoorCpolicyPolicyrule
import Derived.Test.YtohcjdninpjpgaaDoorCpolicyRule
import Derived.Test.YtohcjdninpjpgaaDoorCstringsJoin
import Derived.Test.YtohcjdninpjpgaaDoorCslicesClonestringstring
import Derived.Test.YtohcjdninpjpgaaDoorCpolicywords
import Derived.Test.YtohcjdninpjpgaaDoorCstringsSplit
import Derived.Test.YtohcjdninpjpgaaDoorCostiaryref1Lower
import Derived.Test.YtohcjdninpjpgaaDoorCinfraLower
import Derived.Test.YtohcjdninpjpgaaDoorPXx0
import Derived.Test.YtohcjdninpjpgaaDoorPXx1
import Derived.Test.YtohcjdninpjpgaaDoorPXx4
import Derived.Test.YtohcjdninpjpgaaDoorPXx5
namespace Go.Proofs.YtohcjdninpjpgaaDoor.PX
open Go.Proofs.YtohcjdninpjpgaaDoor.Own
open Go.RowKit Go.Proofs.YtohcjdninpjpgaaDoorW.PrintWords Go.Proofs.YtohcjdninpjpgaaDoorW.PrintLast Go.Proofs.YtohcjdninpjpgaaDoorW.PrintMore
attribute [local go_sem] max2_int min2_int max_two min_two max_three min_three max_four min_four   -- for this text's walks alone
set_option linter.unusedVariables false
set_option linter.unusedSimpArgs false

/-! ### ostiaryref10_Values: function 23 -/
mutual
def ostiaryref10_Values.l0 : Nat → List ByteArray → Int → List (S69) → Bool → Option (List ByteArray × ByteArray × Bool)
  | 0, _, _, _, _ => none
  | k + 1, x7, x8, x329000, x329001 => if x8 < (x7.length : Int) then (ostiaryref10_Values.l1 k x7 x8 0 x329000 x329001) else (some (([] : List ByteArray), (⟨#[]⟩ : ByteArray), false))
def ostiaryref10_Values.l1 : Nat → List ByteArray → Int → Int → List (S69) → Bool → Option (List ByteArray × ByteArray × Bool)
  | 0, _, _, _, _, _ => none
  | k + 1, x7, x8, x9, x329000, x329001 => if x9 < (x329000.length : Int) then (if 0 ≤ x9 then (if 0 ≤ x8 then (if x8 < (x7.length : Int) then (if ((rd_T69 x329000 x9).f0).toList = (rdOf ByteArray.empty x7 x8).toList then (some ((rd_T69 x329000 x9).f1, rdOf ByteArray.empty x7 x8, true)) else (ostiaryref10_Values.l1 k x7 x8 (wrap64 (x9 + 1)) x329000 x329001)) else (none)) else (none)) else (none)) else (ostiaryref10_Values.l0 k x7 (wrap64 (x8 + 1)) x329000 x329001)
end
def ostiaryref10_Values.f (k : Nat) (l0_0 : List (S69)) (a0_1 : Bool) (a1 : ByteArray) : Option (List ByteArray × ByteArray × Bool) := (ostiaryref10_Chain.f k a1).bind fun t329 => (ostiaryref10_Values.l0 k t329 0 l0_0 a0_1)
theorem ostiaryref10_Values.mono_l : ∀ k, (∀ y0 y1 y2 y3, LeO (ostiaryref10_Values.l0 k y0 y1 y2 y3) (ostiaryref10_Values.l0 (k + 1) y0 y1 y2 y3)) ∧ (∀ y0 y1 y2 y3 y4, LeO (ostiaryref10_Values.l1 k y0 y1 y2 y3 y4) (ostiaryref10_Values.l1 (k + 1) y0 y1 y2 y3 y4))
  | 0 => ⟨fun _ _ _ _ r h => by simp [ostiaryref10_Values.l0] at h, fun _ _ _ _ _ r h => by simp [ostiaryref10_Values.l1] at h⟩
  | k + 1 => by
    obtain ⟨ih0, ih1⟩ := ostiaryref10_Values.mono_l k
    refine ⟨?_, ?_⟩
    · intro y0 y1 y2 y3
      unfold ostiaryref10_Values.l0
      repeat' first
      | (with_reducible exact ih0 _ _ _ _)
      | (with_reducible exact ih1 _ _ _ _ _)
      | (with_reducible exact ostiaryref10_Chain.mono _ _)
      | (with_reducible exact LeO.refl _)
      | (with_reducible exact LeO.none _)
      | (with_reducible refine LeO.ite ?_ ?_)
      | (with_reducible refine LeO.bind ?_ (fun _ => ?_))
      | exact ih0 _ _ _ _
      | exact ih1 _ _ _ _ _
      | exact ostiaryref10_Chain.mono _ _
      | exact LeO.none _
      | refine LeO.ite ?_ ?_
      | refine LeO.bind ?_ (fun _ => ?_)
    · intro y0 y1 y2 y3 y4
      unfold ostiaryref10_Values.l1
      repeat' first
      | (with_reducible exact ih0 _ _ _ _)
      | (with_reducible exact ih1 _ _ _ _ _)
      | (with_reducible exact ostiaryref10_Chain.mono _ _)
      | (with_reducible exact LeO.refl _)
      | (with_reducible exact LeO.none _)
      | (with_reducible refine LeO.ite ?_ ?_)
      | (with_reducible refine LeO.bind ?_ (fun _ => ?_))
      | exact ih0 _ _ _ _
      | exact ih1 _ _ _ _ _
      | exact ostiaryref10_Chain.mono _ _
      | exact LeO.none _
      | refine LeO.ite ?_ ?_
      | refine LeO.bind ?_ (fun _ => ?_)
theorem ostiaryref10_Values.mono : ∀ a0 a1 a2 k, LeO (ostiaryref10_Values.f k a0 a1 a2) (ostiaryref10_Values.f (k + 1) a0 a1 a2) := by
  intro a0 a1 a2 k
  obtain ⟨ih0, ih1⟩ := ostiaryref10_Values.mono_l k
  unfold ostiaryref10_Values.f
  repeat' first
      | (with_reducible exact ih0 _ _ _ _)
      | (with_reducible exact ih1 _ _ _ _ _)
      | (with_reducible exact ostiaryref10_Chain.mono _ _)
      | (with_reducible exact LeO.refl _)
      | (with_reducible exact LeO.none _)
      | (with_reducible refine LeO.ite ?_ ?_)
      | (with_reducible refine LeO.bind ?_ (fun _ => ?_))
      | exact ih0 _ _ _ _
      | exact ih1 _ _ _ _ _
      | exact ostiaryref10_Chain.mono _ _
      | exact LeO.none _
      | refine LeO.ite ?_ ?_
      | refine LeO.bind ?_ (fun _ => ?_)
set_option maxHeartbeats 8000000 in
set_option maxRecDepth 100000 in
theorem ostiaryref10_Values.calls (k : Nat) (P0_0_ : Nat → Prop) (A0_0 : Option Addr) (c0_0 : Nat) (l0_0 : List (S69)) (a0_1 : Bool) (a1 : ByteArray) (r1 : List ByteArray) (r2 : ByteArray) (r3 : Bool) (w : World) (hs0_0 : Kd.V k69 69 w w.heap.size (fun k_ => P0_0_ k_) (.slice A0_0 l0_0.length c0_0) l0_0) (h : ostiaryref10_Values.f k l0_0 a0_1 a1 = some (r1, r2, r3)) :
    Calls Tryd.prog 23 #[.agg #[.slice A0_0 l0_0.length c0_0, .bool a0_1], .string a1] w fun e w' => ∃ v0_ : Value, e = .returned (.tuple #[v0_, .string r2, .bool r3]) ∧ Kd.V Kd.string 9 w' w.heap.size (fun k_ => (P0_0_ k_ ∨ w.heap.size ≤ k_)) v0_ r1 ∧ Below w.heap.size w w' := by
  have hu41 := Tryd.underlying41
  have HO0_0 := Am (show Kd.V k69 69 w w.heap.size (fun k_ => (P0_0_ k_ ∨ w.heap.size ≤ k_)) (.slice A0_0 l0_0.length c0_0) l0_0 from Kd.V_mono hs0_0 (fun k_ hk => .inl hk))
  have HB := Am (Below.refl w.heap.size w)
  have H : ((ostiaryref10_Chain.f k a1).bind fun t329 => (ostiaryref10_Values.l0 k t329 0 l0_0 a0_1)) = some (r1, r2, r3) := h
  clear h
  replace H := Option.bind_eq_some_iff.mp H
  obtain ⟨t329, A30, H⟩ := H
  replace H : (ostiaryref10_Values.l0 k t329 0 l0_0 a0_1) = some (r1, r2, r3) := H
  have A3 := Aside0.mk A30
  clear A30
  have H' := Aside0.mk H
  clear H
  go_enter Tryd.func23, Tryd.ntmps23
  go_wp2_with (first | ((with_reducible refine gate_dst (N := 2) rfl ?_); refine box_event ?hg (N := 2) ?hd (cs := #[.slice A0_0 l0_0.length c0_0, .bool a0_1]) (t := 41) ?hr ?_; ((case hd => rfl); (case hg => rfl); (case hr => first | (go_simp; done) | (go_simp; rfl))); intro gb328 hg w4 hbox hb; have n0_ := Am (Kd.V_below (Kd.V_elderB (by (with_reducible repeat (first | apply Kd.V_alloc | apply Kd.V_drewN | apply Kd.V_drew)); exact HO0_0.out) gb328 (Nat.le_of_eq hg.symm)) hb); have n1_ := Am (below_step (by (repeat (first | (with_reducible first | exact HB.out | apply below_alloc | apply pw_below_drewN | apply below_drew1) | exact HB.out))) hb); have n2_ := Am (hbox); have n3_ := Am ((by rw [hg]; exact (below_size (by (repeat (first | (with_reducible first | exact HB.out | apply below_alloc | apply pw_below_drewN | apply below_drew1) | exact HB.out)))) : w.heap.size ≤ gb328)); have n4_ := Am ((by rw [hg]; exact (below_size (by (repeat (first | (with_reducible first | exact HB.out | apply below_alloc | apply pw_below_drewN | apply below_drew1) | exact HB.out)))) : w.heap.size ≤ gb328)); clear HO0_0; clear HB; have HO0_0 := n0_; have HB := n1_; have BK328 := n2_; have GW328 := n3_; have GE328 := n4_; clear n0_ n1_ n2_ n3_ n4_; clear hb hbox hg) | (go_at_call 10; (with_reducible refine (ostiaryref10_Chain.calls k a1 t329 _ A3.out).mono ?_); rintro e w5 ⟨v330, rfl, ho0, hb⟩; have n0_ := Am (Kd.V_elder' (by (with_reducible repeat (first | apply Kd.V_alloc | apply Kd.V_drewN | apply Kd.V_drew)); exact HO0_0.out) (Kd.R_base ho0) hb); have n1_ := Am (Kd.R_lower (Kd.R_newM (M := fun k_ => (w.heap.size ≤ k_)) ho0 (below_size (by (repeat (first | (with_reducible first | exact HB.out | apply below_alloc | apply pw_below_drewN | apply below_drew1 | refine below_set ?_ (Aside0.out GE328)) | exact HB.out)))) (fun k_ h_ => h_)) (below_size (by (repeat (first | (with_reducible first | exact HB.out | apply below_alloc | apply pw_below_drewN | apply below_drew1 | refine below_set ?_ (Aside0.out GE328)) | exact HB.out))))); have n2_ := Am (blk_below (g := gb328) (o := .cells #[.slice A0_0 l0_0.length c0_0, .bool a0_1] 41 (0, 0)) (by (with_reducible repeat (first | refine blk_drewN ?_ _ | refine blk_drew ?_ | refine blk_alloc ?_ _)); exact BK328.out) hb); have n3_ := Am (below_step (by (repeat (first | (with_reducible first | exact HB.out | apply below_alloc | apply pw_below_drewN | apply below_drew1 | refine below_set ?_ (Aside0.out GE328)) | exact HB.out))) hb); clear HO0_0; clear BK328; clear HB; have HO0_0 := n0_; have HO331 := n1_; have BK328 := n2_; have HB := n3_; clear n0_ n1_ n2_ n3_; ((try clear hb); (try clear hb2); (try clear hk); (try clear hi); (try clear ho0))))
  repeat (go_quiet (first | ((with_reducible refine gate_dst (N := 2) rfl ?_); refine box_event ?hg (N := 2) ?hd (cs := #[.slice A0_0 l0_0.length c0_0, .bool a0_1]) (t := 41) ?hr ?_; ((case hd => rfl); (case hg => rfl); (case hr => first | (go_simp; done) | (go_simp; rfl))); intro gb328 hg w4 hbox hb; have n0_ := Am (Kd.V_below (Kd.V_elderB (by (with_reducible repeat (first | apply Kd.V_alloc | apply Kd.V_drewN | apply Kd.V_drew)); exact HO0_0.out) gb328 (Nat.le_of_eq hg.symm)) hb); have n1_ := Am (below_step (by (repeat (first | (with_reducible first | exact HB.out | apply below_alloc | apply pw_below_drewN | apply below_drew1) | exact HB.out))) hb); have n2_ := Am (hbox); have n3_ := Am ((by rw [hg]; exact (below_size (by (repeat (first | (with_reducible first | exact HB.out | apply below_alloc | apply pw_below_drewN | apply below_drew1) | exact HB.out)))) : w.heap.size ≤ gb328)); have n4_ := Am ((by rw [hg]; exact (below_size (by (repeat (first | (with_reducible first | exact HB.out | apply below_alloc | apply pw_below_drewN | apply below_drew1) | exact HB.out)))) : w.heap.size ≤ gb328)); clear HO0_0; clear HB; have HO0_0 := n0_; have HB := n1_; have BK328 := n2_; have GW328 := n3_; have GE328 := n4_; clear n0_ n1_ n2_ n3_ n4_; clear hb hbox hg) | (go_at_call 10; (with_reducible refine (ostiaryref10_Chain.calls k a1 t329 _ A3.out).mono ?_); rintro e w5 ⟨v330, rfl, ho0, hb⟩; have n0_ := Am (Kd.V_elder' (by (with_reducible repeat (first | apply Kd.V_alloc | apply Kd.V_drewN | apply Kd.V_drew)); exact HO0_0.out) (Kd.R_base ho0) hb); have n1_ := Am (Kd.R_lower (Kd.R_newM (M := fun k_ => (w.heap.size ≤ k_)) ho0 (below_size (by (repeat (first | (with_reducible first | exact HB.out | apply below_alloc | apply pw_below_drewN | apply below_drew1 | refine below_set ?_ (Aside0.out GE328)) | exact HB.out)))) (fun k_ h_ => h_)) (below_size (by (repeat (first | (with_reducible first | exact HB.out | apply below_alloc | apply pw_below_drewN | apply below_drew1 | refine below_set ?_ (Aside0.out GE328)) | exact HB.out))))); have n2_ := Am (blk_below (g := gb328) (o := .cells #[.slice A0_0 l0_0.length c0_0, .bool a0_1] 41 (0, 0)) (by (with_reducible repeat (first | refine blk_drewN ?_ _ | refine blk_drew ?_ | refine blk_alloc ?_ _)); exact BK328.out) hb); have n3_ := Am (below_step (by (repeat (first | (with_reducible first | exact HB.out | apply below_alloc | apply pw_below_drewN | apply below_drew1 | refine below_set ?_ (Aside0.out GE328)) | exact HB.out))) hb); clear HO0_0; clear BK328; clear HB; have HO0_0 := n0_; have HO331 := n1_; have BK328 := n2_; have HB := n3_; clear n0_ n1_ n2_ n3_; ((try clear hb); (try clear hb2); (try clear hk); (try clear hi); (try clear ho0)))); try go_wp2_with (first | ((with_reducible refine gate_dst (N := 2) rfl ?_); refine box_event ?hg (N := 2) ?hd (cs := #[.slice A0_0 l0_0.length c0_0, .bool a0_1]) (t := 41) ?hr ?_; ((case hd => rfl); (case hg => rfl); (case hr => first | (go_simp; done) | (go_simp; rfl))); intro gb328 hg w4 hbox hb; have n0_ := Am (Kd.V_below (Kd.V_elderB (by (with_reducible repeat (first | apply Kd.V_alloc | apply Kd.V_drewN | apply Kd.V_drew)); exact HO0_0.out) gb328 (Nat.le_of_eq hg.symm)) hb); have n1_ := Am (below_step (by (repeat (first | (with_reducible first | exact HB.out | apply below_alloc | apply pw_below_drewN | apply below_drew1) | exact HB.out))) hb); have n2_ := Am (hbox); have n3_ := Am ((by rw [hg]; exact (below_size (by (repeat (first | (with_reducible first | exact HB.out | apply below_alloc | apply pw_below_drewN | apply below_drew1) | exact HB.out)))) : w.heap.size ≤ gb328)); have n4_ := Am ((by rw [hg]; exact (below_size (by (repeat (first | (with_reducible first | exact HB.out | apply below_alloc | apply pw_below_drewN | apply below_drew1) | exact HB.out)))) : w.heap.size ≤ gb328)); clear HO0_0; clear HB; have HO0_0 := n0_; have HB := n1_; have BK328 := n2_; have GW328 := n3_; have GE328 := n4_; clear n0_ n1_ n2_ n3_ n4_; clear hb hbox hg) | (go_at_call 10; (with_reducible refine (ostiaryref10_Chain.calls k a1 t329 _ A3.out).mono ?_); rintro e w5 ⟨v330, rfl, ho0, hb⟩; have n0_ := Am (Kd.V_elder' (by (with_reducible repeat (first | apply Kd.V_alloc | apply Kd.V_drewN | apply Kd.V_drew)); exact HO0_0.out) (Kd.R_base ho0) hb); have n1_ := Am (Kd.R_lower (Kd.R_newM (M := fun k_ => (w.heap.size ≤ k_)) ho0 (below_size (by (repeat (first | (with_reducible first | exact HB.out | apply below_alloc | apply pw_below_drewN | apply below_drew1 | refine below_set ?_ (Aside0.out GE328)) | exact HB.out)))) (fun k_ h_ => h_)) (below_size (by (repeat (first | (with_reducible first | exact HB.out | apply below_alloc | apply pw_below_drewN | apply below_drew1 | refine below_set ?_ (Aside0.out GE328)) | exact HB.out))))); have n2_ := Am (blk_below (g := gb328) (o := .cells #[.slice A0_0 l0_0.length c0_0, .bool a0_1] 41 (0, 0)) (by (with_reducible repeat (first | refine blk_drewN ?_ _ | refine blk_drew ?_ | refine blk_alloc ?_ _)); exact BK328.out) hb); have n3_ := Am (below_step (by (repeat (first | (with_reducible first | exact HB.out | apply below_alloc | apply pw_below_drewN | apply below_drew1 | refine below_set ?_ (Aside0.out GE328)) | exact HB.out))) hb); clear HO0_0; clear BK328; clear HB; have HO0_0 := n0_; have HO331 := n1_; have BK328 := n2_; have HB := n3_; clear n0_ n1_ n2_ n3_; ((try clear hb); (try clear hb2); (try clear hk); (try clear hi); (try clear ho0)))))
  go_loopg [8] k (fun kq v8 w' => ∃ (x8_1 : Int), v8 = .int .i64 x8_1 ∧ Aside0 (ostiaryref10_Values.l0 kq t329 x8_1 l0_0 a0_1 = some (r1, r2, r3)) ∧ Aside0 (kq ≤ k) ∧ Aside0 (Kd.R Kd.string 9 w' w.heap.size (fun k_ => (w.heap.size ≤ k_)) v330 t329) ∧ Aside0 (Kd.V k69 69 w' w.heap.size (fun k_ => (P0_0_ k_ ∨ w.heap.size ≤ k_) ∧ some k_ ≠ (v330 : Value).ownBlock ∧ k_ ≠ gb328) (.slice A0_0 l0_0.length c0_0) l0_0) ∧ Aside0 (w'.heap[gb328]? = some (.cells #[(.slice A0_0 l0_0.length c0_0), .bool a0_1] 41 (0, 0))) ∧ Aside0 (Below w.heap.size w w'))
  case atStart => exact ⟨(0), (by first | rfl | (simp; done) | (simp [*]; done)), H', ⟨Nat.le_refl _⟩, ⟨by (with_reducible repeat (first | apply Kd.R_alloc | apply Kd.R_drewN | apply Kd.R_drew)); exact Kd.R_mono HO331.out (fun _ hk => hk.1)⟩, ⟨by (with_reducible repeat (first | apply Kd.V_alloc | apply Kd.V_drewN | apply Kd.V_drew)); exact Kd.V_mono HO0_0.out (fun _ hk => ⟨hk.1.1, ⟨hk.2, hk.1.2⟩⟩)⟩, ⟨by (with_reducible repeat (first | refine blk_drewN ?_ _ | refine blk_drew ?_ | refine blk_alloc ?_ _)); exact BK328.out⟩, ⟨by (repeat (first | (with_reducible first | exact HB.out | apply below_alloc | apply pw_below_drewN | apply below_drew1 | refine below_set ?_ (Aside0.out GE328)) | exact HB.out))⟩⟩
  case round =>
    clear H'
    try clear c2
    try clear p2
    obtain ⟨x8_1, rfl, HA, HK1, HO_7, HO_329000, BK328, HB⟩ := hrel
    cases gk with
    | zero => exact absurd HA.out (by simp [ostiaryref10_Values.l0])
    | succ k1 =>
      have H := HA.out
      clear HA
      simp only [ostiaryref10_Values.l0] at H
      by_cases c6 : x8_1 < (t329.length : Int)
      · rw [if_pos c6] at H
        have c6b0 : decide (x8_1 < (t329.length : Int)) = true := decide_eq_true c6
        clear c6
        have H' := Aside0.mk H
        clear H
        obtain ⟨Ao7, co7, eo7⟩ := Kd.R_slice HO_7.out
        subst eo7
        go_wp2
        repeat (go_quiet (fail); try go_wp2)
        go_loopg [9] k1 (fun kq v9 w' => ∃ (x9_2 : Int), v9 = .int .i64 x9_2 ∧ Aside0 (ostiaryref10_Values.l1 kq t329 x8_1 x9_2 l0_0 a0_1 = some (r1, r2, r3)) ∧ Aside0 (kq ≤ k1) ∧ Aside0 (Kd.R Kd.string 9 w' w.heap.size (fun k_ => (w.heap.size ≤ k_)) (.slice Ao7 t329.length co7) t329) ∧ Aside0 (Kd.V k69 69 w' w.heap.size (fun k_ => (P0_0_ k_ ∨ w.heap.size ≤ k_) ∧ some k_ ≠ ((.slice Ao7 t329.length co7) : Value).ownBlock ∧ k_ ≠ gb328) (.slice A0_0 l0_0.length c0_0) l0_0) ∧ Aside0 (w'.heap[gb328]? = some (.cells #[(.slice A0_0 l0_0.length c0_0), .bool a0_1] 41 (0, 0))) ∧ Aside0 (Below w.heap.size w w'))
        case atStart => exact ⟨(0), (by first | rfl | (simp; done) | (simp [*]; done)), H', ⟨Nat.le_refl _⟩, ⟨by (with_reducible repeat (first | apply Kd.R_alloc | apply Kd.R_drewN | apply Kd.R_drew)); exact HO_7.out⟩, ⟨by (with_reducible repeat (first | apply Kd.V_alloc | apply Kd.V_drewN | apply Kd.V_drew)); exact HO_329000.out⟩, ⟨by (with_reducible repeat (first | refine blk_drewN ?_ _ | refine blk_drew ?_ | refine blk_alloc ?_ _)); exact BK328.out⟩, ⟨by (repeat (first | (with_reducible first | exact HB.out | apply below_alloc | apply pw_below_drewN | apply below_drew1 | refine below_set ?_ (Aside0.out GE328)) | exact HB.out))⟩⟩
        case round =>
          clear H'
          try clear c2
          try clear p2
          try clear c6
          try clear c6b0
          try clear p2
          obtain ⟨x9_2, rfl, HA, HK2, HO_7, HO_329000, BK328, HB⟩ := hrel
          cases gk with
          | zero => exact absurd HA.out (by simp [ostiaryref10_Values.l1])
          | succ k2 =>
            have H := HA.out
            clear HA
            simp only [ostiaryref10_Values.l1] at H
            by_cases c8 : x9_2 < (l0_0.length : Int)
            · rw [if_pos c8] at H
              have c8b0 : decide (x9_2 < (l0_0.length : Int)) = true := decide_eq_true c8
              clear c8
              by_cases c9 : 0 ≤ x9_2
              · rw [if_pos c9] at H
                have c9b0 : decide (0 ≤ x9_2) = true := decide_eq_true c9
                clear c9
                by_cases c10 : 0 ≤ x8_1
                · rw [if_pos c10] at H
                  have c10b0 : decide (0 ≤ x8_1) = true := decide_eq_true c10
                  clear c10
                  by_cases c11 : x8_1 < (t329.length : Int)
                  · rw [if_pos c11] at H
                    have c11b0 : decide (x8_1 < (t329.length : Int)) = true := decide_eq_true c11
                    clear c11
                    by_cases c12 : ((rd_T69 l0_0 x9_2).f0).toList = (rdOf ByteArray.empty t329 x8_1).toList
                    · rw [if_pos c12] at H
                      have c12b0 : (((rd_T69 l0_0 x9_2).f0).toList == (rdOf ByteArray.empty t329 x8_1).toList) = true := beq_iff_eq.mpr c12
                      have c12b1 : (((rd_T69 l0_0 x9_2).f0).toList != (rdOf ByteArray.empty t329 x8_1).toList) = false := bne_eq_false_iff_eq.mpr c12
                      clear c12
                      simp only [Option.some.injEq, Prod.mk.injEq] at H
                      obtain ⟨rfl, rfl, rfl⟩ := H
                      have hcz13_0 : wr.cell? ⟨gb328, 0, none⟩ = some (.slice A0_0 l0_0.length c0_0) := (blk_cell BK328.out 0).trans rfl
                      have hcz13_1 : wr.cell? ⟨gb328, 1, none⟩ = some (.bool a0_1) := (blk_cell BK328.out 1).trans rfl
                      have hfz13_0 := blk_frozen BK328.out 0
                      have hfz13_1 := blk_frozen BK328.out 1
                      have p332 : 0 ≤ (x9_2 : Int) := of_decide_eq_true (by first | (with_reducible assumption) | assumption)
                      have q332 : x9_2 < (l0_0.length : Int) := of_decide_eq_true (by first | (with_reducible assumption) | assumption)
                      obtain ⟨ad332, A332_1, c332_1, e332, hx332_0, hx332_1, hl332_1, hi332_1⟩ := at_T69 (Kd.V_reads' HO_329000.out).2.2 x9_2 p332 q332
                      cases e332
                      obtain ⟨ce332, hce332, hMe332, hcc332⟩ := Kd.V_get HO_329000.out z69 x9_2 p332 (by first | exact q332 | exact of_decide_eq_true (by first | (with_reducible assumption) | assumption) | (have e_ := (Kd.V_reads' HO_329000.out).1; omega))
                      obtain ⟨ua332_1, uc332_1, rfl, ul332_1, ge332_1⟩ := k69_openF hMe332
                      have hv332_1 := hcc332 1 _ rfl
                      rw [add_field _ _ 1 (by omega)] at hv332_1
                      replace hv332_1 := Option.some.inj (hv332_1.symm.trans hx332_1)
                      injection hv332_1 with hva_ hvn_ hvc_
                      rw [hva_] at ge332_1
                      rw [hvc_] at ul332_1
                      have HL332_1 := Am (show Kd.V Kd.string 9 _ w.heap.size _ _ ((rd_T69 l0_0 x9_2).f1) from Kd.V_mk ul332_1 ge332_1)
                      clear hva_ hvn_ hvc_ ge332_1 ul332_1
                      clear hcc332 hce332
                      have HR332_1 := Aside0.mk hi332_1
                      have HC332_1 := Aside0.mk hl332_1
                      clear hi332_1 hl332_1
                      replace p332 := eq_true p332
                      replace q332 := eq_true q332
                      have p333 : 0 ≤ (x8_1 : Int) := of_decide_eq_true (by first | (with_reducible assumption) | assumption)
                      have q333 : x8_1 < (t329.length : Int) := of_decide_eq_true (by first | (with_reducible assumption) | assumption)
                      obtain ⟨ad333, e333, hx333_0⟩ := Kd.at_string (Kd.R_reads' HO_7.out).2.2 x8_1 p333 q333
                      cases e333
                      replace p333 := eq_true p333
                      replace q333 := eq_true q333
                      have p334 : 0 ≤ (x9_2 : Int) := of_decide_eq_true (by first | (with_reducible assumption) | assumption)
                      have q334 : x9_2 < (l0_0.length : Int) := of_decide_eq_true (by first | (with_reducible assumption) | assumption)
                      obtain ⟨ad334, A334_1, c334_1, e334, hx334_0, hx334_1, hl334_1, hi334_1⟩ := at_T69 (Kd.V_reads' HO_329000.out).2.2 x9_2 p334 q334
                      obtain rfl : ad332 = ad334 := (by injection e334)
                      obtain ⟨ce334, hce334, hMe334, hcc334⟩ := Kd.V_get HO_329000.out z69 x9_2 p334 (by first | exact q334 | exact of_decide_eq_true (by first | (with_reducible assumption) | assumption) | (have e_ := (Kd.V_reads' HO_329000.out).1; omega))
                      obtain ⟨ua334_1, uc334_1, rfl, ul334_1, ge334_1⟩ := k69_openF hMe334
                      have hv334_1 := hcc334 1 _ rfl
                      rw [add_field _ _ 1 (by omega)] at hv334_1
                      replace hv334_1 := Option.some.inj (hv334_1.symm.trans hx334_1)
                      injection hv334_1 with hva_ hvn_ hvc_
                      rw [hva_] at ge334_1
                      rw [hvc_] at ul334_1
                      have HL334_1 := Am (show Kd.V Kd.string 9 _ w.heap.size _ _ ((rd_T69 l0_0 x9_2).f1) from Kd.V_mk ul334_1 ge334_1)
                      clear hva_ hvn_ hvc_ ge334_1 ul334_1
                      clear hcc334 hce334
                      have HR334_1 := Aside0.mk hi334_1
                      have HC334_1 := Aside0.mk hl334_1
                      clear hi334_1 hl334_1
                      replace p334 := eq_true p334
                      replace q334 := eq_true q334
                      have ea_ := Option.some.inj (hx332_1.symm.trans hx334_1)
                      injection ea_ with ea_ en_ ec_
                      subst ea_
                      subst ec_
                      clear en_
                      have p335 : 0 ≤ (x8_1 : Int) := of_decide_eq_true (by first | (with_reducible assumption) | assumption)
                      have q335 : x8_1 < (t329.length : Int) := of_decide_eq_true (by first | (with_reducible assumption) | assumption)
                      obtain ⟨ad335, e335, hx335_0⟩ := Kd.at_string (Kd.R_reads' HO_7.out).2.2 x8_1 p335 q335
                      obtain rfl : ad333 = ad335 := (by injection e335)
                      replace p335 := eq_true p335
                      replace q335 := eq_true q335
                      go_wp2
                      repeat (go_quiet (fail); try go_wp2)
                      go_ret3
                      exact ⟨_, by (first | rfl | (simp [errW_none, errW_some] <;> rfl) | (simp [*, errW_none, errW_some] <;> rfl)), by (with_reducible repeat (first | apply Kd.V_alloc | apply Kd.V_drewN | apply Kd.V_drew)); exact Kd.V_mono HL334_1.out (fun _ hk => hk.1), by (repeat (first | (with_reducible first | exact HB.out | apply below_alloc | apply pw_below_drewN | apply below_drew1 | refine below_set ?_ (Aside0.out GE328)) | exact HB.out))⟩
                    · rw [if_neg c12] at H
                      have c12b0 : (((rd_T69 l0_0 x9_2).f0).toList == (rdOf ByteArray.empty t329 x8_1).toList) = false := beq_eq_false_iff_ne.mpr c12
                      have c12b1 : (((rd_T69 l0_0 x9_2).f0).toList != (rdOf ByteArray.empty t329 x8_1).toList) = true := bne_iff_ne.mpr c12
                      have H' := Aside0.mk H
                      clear H
                      have hcz14_0 : wr.cell? ⟨gb328, 0, none⟩ = some (.slice A0_0 l0_0.length c0_0) := (blk_cell BK328.out 0).trans rfl
                      have hcz14_1 : wr.cell? ⟨gb328, 1, none⟩ = some (.bool a0_1) := (blk_cell BK328.out 1).trans rfl
                      have hfz14_0 := blk_frozen BK328.out 0
                      have hfz14_1 := blk_frozen BK328.out 1
                      have p332 : 0 ≤ (x9_2 : Int) := of_decide_eq_true (by first | (with_reducible assumption) | assumption)
                      have q332 : x9_2 < (l0_0.length : Int) := of_decide_eq_true (by first | (with_reducible assumption) | assumption)
                      obtain ⟨ad332, A332_1, c332_1, e332, hx332_0, hx332_1, hl332_1, hi332_1⟩ := at_T69 (Kd.V_reads' HO_329000.out).2.2 x9_2 p332 q332
                      cases e332
                      obtain ⟨ce332, hce332, hMe332, hcc332⟩ := Kd.V_get HO_329000.out z69 x9_2 p332 (by first | exact q332 | exact of_decide_eq_true (by first | (with_reducible assumption) | assumption) | (have e_ := (Kd.V_reads' HO_329000.out).1; omega))
                      obtain ⟨ua332_1, uc332_1, rfl, ul332_1, ge332_1⟩ := k69_openF hMe332
                      have hv332_1 := hcc332 1 _ rfl
                      rw [add_field _ _ 1 (by omega)] at hv332_1
                      replace hv332_1 := Option.some.inj (hv332_1.symm.trans hx332_1)
                      injection hv332_1 with hva_ hvn_ hvc_
                      rw [hva_] at ge332_1
                      rw [hvc_] at ul332_1
                      have HL332_1 := Am (show Kd.V Kd.string 9 _ w.heap.size _ _ ((rd_T69 l0_0 x9_2).f1) from Kd.V_mk ul332_1 ge332_1)
                      clear hva_ hvn_ hvc_ ge332_1 ul332_1
                      clear hcc332 hce332
                      have HR332_1 := Aside0.mk hi332_1
                      have HC332_1 := Aside0.mk hl332_1
                      clear hi332_1 hl332_1
                      replace p332 := eq_true p332
                      replace q332 := eq_true q332
                      have p333 : 0 ≤ (x8_1 : Int) := of_decide_eq_true (by first | (with_reducible assumption) | assumption)
                      have q333 : x8_1 < (t329.length : Int) := of_decide_eq_true (by first | (with_reducible assumption) | assumption)
                      obtain ⟨ad333, e333, hx333_0⟩ := Kd.at_string (Kd.R_reads' HO_7.out).2.2 x8_1 p333 q333
                      cases e333
                      replace p333 := eq_true p333
                      replace q333 := eq_true q333
                      go_wp2
                      repeat (go_quiet (fail); try go_wp2)
                      go_roundg k2
                      case measure => have := HK1.out; have := HK2.out; omega
                      case rel => exact ⟨(wrap64 (x9_2 + 1)), (by first | rfl | (simp; done) | (simp [*]; done)), H', ⟨by have := HK1.out; have := HK2.out; omega⟩, ⟨by (with_reducible repeat (first | apply Kd.R_alloc | apply Kd.R_drewN | apply Kd.R_drew)); exact HO_7.out⟩, ⟨by (with_reducible repeat (first | apply Kd.V_alloc | apply Kd.V_drewN | apply Kd.V_drew)); exact HO_329000.out⟩, ⟨by (with_reducible repeat (first | refine blk_drewN ?_ _ | refine blk_drew ?_ | refine blk_alloc ?_ _)); exact BK328.out⟩, ⟨by (repeat (first | (with_reducible first | exact HB.out | apply below_alloc | apply pw_below_drewN | apply below_drew1 | refine below_set ?_ (Aside0.out GE328)) | exact HB.out))⟩⟩
                  · rw [if_neg c11] at H
                    exact absurd H (by simp)
                · rw [if_neg c10] at H
                  exact absurd H (by simp)
              · rw [if_neg c9] at H
                exact absurd H (by simp)
            · rw [if_neg c8] at H
              have c8b0 : decide (x9_2 < (l0_0.length : Int)) = false := decide_eq_false c8
              clear c8
              have H' := Aside0.mk H
              clear H
              have hcz15_0 : wr.cell? ⟨gb328, 0, none⟩ = some (.slice A0_0 l0_0.length c0_0) := (blk_cell BK328.out 0).trans rfl
              have hcz15_1 : wr.cell? ⟨gb328, 1, none⟩ = some (.bool a0_1) := (blk_cell BK328.out 1).trans rfl
              have hfz15_0 := blk_frozen BK328.out 0
              have hfz15_1 := blk_frozen BK328.out 1
              go_wp2
              repeat (go_quiet (fail); try go_wp2)
              go_roundg k2
              case measure => have := HK1.out; have := HK2.out; omega
              case rel => exact ⟨(wrap64 (x8_1 + 1)), (by first | rfl | (simp; done) | (simp [*]; done)), H', ⟨by have := HK1.out; have := HK2.out; omega⟩, ⟨by (with_reducible repeat (first | apply Kd.R_alloc | apply Kd.R_drewN | apply Kd.R_drew)); exact HO_7.out⟩, ⟨by (with_reducible repeat (first | apply Kd.V_alloc | apply Kd.V_drewN | apply Kd.V_drew)); exact HO_329000.out⟩, ⟨by (with_reducible repeat (first | refine blk_drewN ?_ _ | refine blk_drew ?_ | refine blk_alloc ?_ _)); exact BK328.out⟩, ⟨by (repeat (first | (with_reducible first | exact HB.out | apply below_alloc | apply pw_below_drewN | apply below_drew1 | refine below_set ?_ (Aside0.out GE328)) | exact HB.out))⟩⟩
      · rw [if_neg c6] at H
        have c6b0 : decide (x8_1 < (t329.length : Int)) = false := decide_eq_false c6
        clear c6
        simp only [Option.some.injEq, Prod.mk.injEq] at H
        obtain ⟨rfl, rfl, rfl⟩ := H
        obtain ⟨Ao16, co16, eo16⟩ := Kd.R_slice HO_7.out
        subst eo16
        go_wp2
        repeat (go_quiet (fail); try go_wp2)
        go_ret3
        exact ⟨_, by (first | rfl | (simp [errW_none, errW_some] <;> rfl) | (simp [*, errW_none, errW_some] <;> rfl)), Kd.V_nil _ _ _ _ _, by (repeat (first | (with_reducible first | exact HB.out | apply below_alloc | apply pw_below_drewN | apply below_drew1 | refine below_set ?_ (Aside0.out GE328)) | exact HB.out))⟩

/-! ### ostiaryref5_Named: function 39 -/
def ostiaryref5_Named.f (a0_0 : ByteArray) (a0_1 : ByteArray) (a1 : ByteArray) : Option (Bool) := (ostiaryref1_Lower.f a0_0).bind fun t337 => ((ostiaryref1_Lower.f a1).bind fun t338 => (some (t337.toList == t338.toList)))
set_option maxHeartbeats 8000000 in
set_option maxRecDepth 100000 in
theorem ostiaryref5_Named.calls (a0_0 : ByteArray) (a0_1 : ByteArray) (a1 : ByteArray) (r : Bool) (w : World) (h : ostiaryref5_Named.f a0_0 a0_1 a1 = some r) :
    Calls Tryd.prog 39 #[.agg #[.string a0_0, .string a0_1], .string a1] w fun e w' => e = .returned (.bool r) ∧ Below w.heap.size w w' := by
  have hu29 := Tryd.underlying29
  have HB := Am (Below.refl w.heap.size w)
  have H : ((ostiaryref1_Lower.f a0_0).bind fun t337 => ((ostiaryref1_Lower.f a1).bind fun t338 => (some (t337.toList == t338.toList)))) = some r := h
  clear h
  replace H := Option.bind_eq_some_iff.mp H
  obtain ⟨t337, A30, H⟩ := H
  replace H : ((ostiaryref1_Lower.f a1).bind fun t338 => (some (t337.toList == t338.toList))) = some r := H
  have A3 := Aside0.mk A30
  clear A30
  replace H := Option.bind_eq_some_iff.mp H
  obtain ⟨t338, A40, H⟩ := H
  replace H : (some (t337.toList == t338.toList)) = some r := H
  have A4 := Aside0.mk A40
  clear A40
  obtain rfl := Option.some.inj H
  go_enter Tryd.func39, Tryd.ntmps39
  go_wp2_with (first | ((with_reducible refine gate_dst (N := 2) rfl ?_); refine box_event ?hg (N := 2) ?hd (cs := #[.string a0_0, .string a0_1]) (t := 29) ?hr ?_; ((case hd => rfl); (case hg => rfl); (case hr => first | (go_simp; done) | (go_simp; rfl))); intro gb336 hg w5 hbox hb; have n0_ := Am (below_step (by (repeat (first | (with_reducible first | exact HB.out | apply below_alloc | apply pw_below_drewN | apply below_drew1) | exact HB.out))) hb); have n1_ := Am (hbox); have n2_ := Am ((by rw [hg]; exact (below_size (by (repeat (first | (with_reducible first | exact HB.out | apply below_alloc | apply pw_below_drewN | apply below_drew1) | exact HB.out)))) : w.heap.size ≤ gb336)); have n3_ := Am ((by rw [hg]; exact (below_size (by (repeat (first | (with_reducible first | exact HB.out | apply below_alloc | apply pw_below_drewN | apply below_drew1) | exact HB.out)))) : w.heap.size ≤ gb336)); clear HB; have HB := n0_; have BK336 := n1_; have GW336 := n2_; have GE336 := n3_; clear n0_ n1_ n2_ n3_; clear hb hbox hg; have hcz6_0 : w5.cell? ⟨gb336, 0, none⟩ = some (.string a0_0) := (blk_cell BK336.out 0).trans rfl; have hcz6_1 : w5.cell? ⟨gb336, 1, none⟩ = some (.string a0_1) := (blk_cell BK336.out 1).trans rfl; have hfz6_0 := blk_frozen BK336.out 0; have hfz6_1 := blk_frozen BK336.out 1) | ((with_reducible refine gate_callee (f := 38) rfl ?_); refine goesL_ (some 7) rfl rfl Tryd.func38 (by kernel_rfl) rfl #[.string a0_0] rfl (by ((try simp only [List.map_toArray, List.map_cons, List.map_nil]); first | done | rfl | (simp only [List.length_drop, List.length_take]; rfl))) ?_; (with_reducible refine (ostiaryref1_Lower.calls a0_0 t337 _ A3.out).mono ?_); rintro e w7 ⟨rfl, hb⟩; refine ⟨_, rfl, ?_⟩; have n0_ := Am (blk_below (g := gb336) (o := .cells #[.string a0_0, .string a0_1] 29 (0, 0)) (by (with_reducible repeat (first | refine blk_drewN ?_ _ | refine blk_drew ?_ | refine blk_alloc ?_ _)); exact BK336.out) hb); have n1_ := Am (below_step (by (repeat (first | (with_reducible first | exact HB.out | apply below_alloc | apply pw_below_drewN | apply below_drew1 | refine below_set ?_ (Aside0.out GE336)) | exact HB.out))) hb); clear BK336; clear HB; have BK336 := n0_; have HB := n1_; clear n0_ n1_; (try clear hb); (try clear hb2); (try clear hk); (try clear hi)) | ((with_reducible refine gate_callee (f := 38) rfl ?_); refine goesL_ (some 9) rfl rfl Tryd.func38 (by kernel_rfl) rfl #[.string a1] rfl (by ((try simp only [List.map_toArray, List.map_cons, List.map_nil]); first | done | rfl | (simp only [List.length_drop, List.length_take]; rfl))) ?_; (with_reducible refine (ostiaryref1_Lower.calls a1 t338 _ A4.out).mono ?_); rintro e w8 ⟨rfl, hb⟩; refine ⟨_, rfl, ?_⟩; have n0_ := Am (blk_below (g := gb336) (o := .cells #[.string a0_0, .string a0_1] 29 (0, 0)) (by (with_reducible repeat (first | refine blk_drewN ?_ _ | refine blk_drew ?_ | refine blk_alloc ?_ _)); exact BK336.out) hb); have n1_ := Am (below_step (by (repeat (first | (with_reducible first | exact HB.out | apply below_alloc | apply pw_below_drewN | apply below_drew1 | refine below_set ?_ (Aside0.out GE336)) | exact HB.out))) hb); clear BK336; clear HB; have BK336 := n0_; have HB := n1_; clear n0_ n1_; (try clear hb); (try clear hb2); (try clear hk); (try clear hi)))
  go_ret
  exact ⟨by (first | rfl | (simp [errW_none, errW_some] <;> rfl) | (simp [*, errW_none, errW_some] <;> rfl)), by (repeat (first | (with_reducible first | exact HB.out | apply below_alloc | apply pw_below_drewN | apply below_drew1 | refine below_set ?_ (Aside0.out GE336)) | exact HB.out))⟩

/-! ### ostiaryref10_From: function 24 -/
mutual
def ostiaryref10_From.l0 : Nat → List (S29) → List (S41) → Int → Option ((List (S41)))
  | 0, _, _, _ => none
  | k + 1, x0, x3, x4 => if x4 < 2 then ((some (([(⟨#[99, 111, 110, 116, 101, 110, 116, 45, 115, 101, 99, 117, 114, 105, 116, 121, 45, 112, 111, 108, 105, 99, 121]⟩ : ByteArray), (⟨#[99, 111, 110, 116, 101, 110, 116, 45, 115, 101, 99, 117, 114, 105, 116, 121, 45, 112, 111, 108, 105, 99, 121, 45, 114, 101, 112, 111, 114, 116, 45, 111, 110, 108, 121]⟩ : ByteArray)] : List ByteArray) : List ByteArray)).bind fun y339 => (if 0 ≤ x4 then (if x4 < (y339.length : Int) then (ostiaryref10_From.l1 k x0 x3 x4 (rdOf ByteArray.empty y339 x4) 0) else (none)) else (none))) else (some x3)
def ostiaryref10_From.l1 : Nat → List (S29) → List (S41) → Int → ByteArray → Int → Option ((List (S41)))
  | 0, _, _, _, _, _ => none
  | k + 1, x0, x3, x4, x5, x6 => if x6 < (x0.length : Int) then (if 0 ≤ x6 then ((ostiaryref5_Named.f ((rd_T29 x0 x6).f0) ((rd_T29 x0 x6).f1) x5).bind fun t344 => (if t344 = true then ((ostiaryref1_Cut.f k ((rd_T29 x0 x6).f1) 44).bind fun t346 => (ostiaryref10_From.l2 k x0 x3 x4 x5 x6 t346 0)) else (ostiaryref10_From.l1 k x0 x3 x4 x5 (wrap64 (x6 + 1))))) else (none)) else (ostiaryref10_From.l0 k x0 x3 (wrap64 (x4 + 1)))
def ostiaryref10_From.l2 : Nat → List (S29) → List (S41) → Int → ByteArray → Int → List ByteArray → Int → Option ((List (S41)))
  | 0, _, _, _, _, _, _, _ => none
  | k + 1, x0, x3, x4, x5, x6, x7, x8 => if x8 < (x7.length : Int) then (if 0 ≤ x8 then ((ostiaryref10_Parse.f k (rdOf ByteArray.empty x7 x8) (x4 == 1)).bind fun bt350 => (if (bt350.1.length : Int) > 0 then (if x3.length < 4398046511104 then (ostiaryref10_From.l2 k x0 (x3 ++ [(⟨bt350.1, bt350.2⟩ : S41)]) x4 x5 x6 x7 (wrap64 (x8 + 1))) else (none)) else (ostiaryref10_From.l2 k x0 x3 x4 x5 x6 x7 (wrap64 (x8 + 1))))) else (none)) else (ostiaryref10_From.l1 k x0 x3 x4 x5 (wrap64 (x6 + 1)))
end
def ostiaryref10_From.f (k : Nat) (l0 : List (S29)) : Option ((List (S41))) := ostiaryref10_From.l0 k l0 ([] : List (S41)) 0
theorem ostiaryref10_From.mono_l : ∀ k, (∀ y0 y1 y2, LeO (ostiaryref10_From.l0 k y0 y1 y2) (ostiaryref10_From.l0 (k + 1) y0 y1 y2)) ∧ (∀ y0 y1 y2 y3 y4, LeO (ostiaryref10_From.l1 k y0 y1 y2 y3 y4) (ostiaryref10_From.l1 (k + 1) y0 y1 y2 y3 y4)) ∧ (∀ y0 y1 y2 y3 y4 y5 y6, LeO (ostiaryref10_From.l2 k y0 y1 y2 y3 y4 y5 y6) (ostiaryref10_From.l2 (k + 1) y0 y1 y2 y3 y4 y5 y6))
  | 0 => ⟨fun _ _ _ r h => by simp [ostiaryref10_From.l0] at h, fun _ _ _ _ _ r h => by simp [ostiaryref10_From.l1] at h, fun _ _ _ _ _ _ _ r h => by simp [ostiaryref10_From.l2] at h⟩
  | k + 1 => by
    obtain ⟨ih0, ih1, ih2⟩ := ostiaryref10_From.mono_l k
    refine ⟨?_, ?_, ?_⟩
    · intro y0 y1 y2
      unfold ostiaryref10_From.l0
      repeat' first
      | (with_reducible exact ih0 _ _ _)
      | (with_reducible exact ih1 _ _ _ _ _)
      | (with_reducible exact ih2 _ _ _ _ _ _ _)
      | (with_reducible exact ostiaryref10_Parse.mono _ _ _)
      | (with_reducible exact ostiaryref1_Cut.mono _ _ _)
      | (with_reducible exact LeO.refl _)
      | (with_reducible exact LeO.none _)
      | (with_reducible refine LeO.ite ?_ ?_)
      | (with_reducible refine LeO.bind ?_ (fun _ => ?_))
      | exact ih0 _ _ _
      | exact ih1 _ _ _ _ _
      | exact ih2 _ _ _ _ _ _ _
      | exact ostiaryref10_Parse.mono _ _ _
      | exact ostiaryref1_Cut.mono _ _ _
      | exact LeO.none _
      | refine LeO.ite ?_ ?_
      | refine LeO.bind ?_ (fun _ => ?_)
    · intro y0 y1 y2 y3 y4
      unfold ostiaryref10_From.l1
      repeat' first
      | (with_reducible exact ih0 _ _ _)
      | (with_reducible exact ih1 _ _ _ _ _)
      | (with_reducible exact ih2 _ _ _ _ _ _ _)
      | (with_reducible exact ostiaryref10_Parse.mono _ _ _)
      | (with_reducible exact ostiaryref1_Cut.mono _ _ _)
      | (with_reducible exact LeO.refl _)
      | (with_reducible exact LeO.none _)
      | (with_reducible refine LeO.ite ?_ ?_)
      | (with_reducible refine LeO.bind ?_ (fun _ => ?_))
      | exact ih0 _ _ _
      | exact ih1 _ _ _ _ _
      | exact ih2 _ _ _ _ _ _ _
      | exact ostiaryref10_Parse.mono _ _ _
      | exact ostiaryref1_Cut.mono _ _ _
      | exact LeO.none _
      | refine LeO.ite ?_ ?_
      | refine LeO.bind ?_ (fun _ => ?_)
    · intro y0 y1 y2 y3 y4 y5 y6
      unfold ostiaryref10_From.l2
      repeat' first
      | (with_reducible exact ih0 _ _ _)
      | (with_reducible exact ih1 _ _ _ _ _)
      | (with_reducible exact ih2 _ _ _ _ _ _ _)
      | (with_reducible exact ostiaryref10_Parse.mono _ _ _)
      | (with_reducible exact ostiaryref1_Cut.mono _ _ _)
      | (with_reducible exact LeO.refl _)
      | (with_reducible exact LeO.none _)
      | (with_reducible refine LeO.ite ?_ ?_)
      | (with_reducible refine LeO.bind ?_ (fun _ => ?_))
      | exact ih0 _ _ _
      | exact ih1 _ _ _ _ _
      | exact ih2 _ _ _ _ _ _ _
      | exact ostiaryref10_Parse.mono _ _ _
      | exact ostiaryref1_Cut.mono _ _ _
      | exact LeO.none _
      | refine LeO.ite ?_ ?_
      | refine LeO.bind ?_ (fun _ => ?_)
theorem ostiaryref10_From.mono : ∀ a0 k, LeO (ostiaryref10_From.f k a0) (ostiaryref10_From.f (k + 1) a0) := by
  intro a0 k
  obtain ⟨ih0, ih1, ih2⟩ := ostiaryref10_From.mono_l k
  unfold ostiaryref10_From.f
  repeat' first
      | (with_reducible exact ih0 _ _ _)
      | (with_reducible exact ih1 _ _ _ _ _)
      | (with_reducible exact ih2 _ _ _ _ _ _ _)
      | (with_reducible exact ostiaryref10_Parse.mono _ _ _)
      | (with_reducible exact ostiaryref1_Cut.mono _ _ _)
      | (with_reducible exact LeO.refl _)
      | (with_reducible exact LeO.none _)
      | (with_reducible refine LeO.ite ?_ ?_)
      | (with_reducible refine LeO.bind ?_ (fun _ => ?_))
      | exact ih0 _ _ _
      | exact ih1 _ _ _ _ _
      | exact ih2 _ _ _ _ _ _ _
      | exact ostiaryref10_Parse.mono _ _ _
      | exact ostiaryref1_Cut.mono _ _ _
      | exact LeO.none _
      | refine LeO.ite ?_ ?_
      | refine LeO.bind ?_ (fun _ => ?_)
set_option maxHeartbeats 8000000 in
set_option maxRecDepth 100000 in
theorem ostiaryref10_From.calls (k : Nat) (A0 : Option Addr) (c0 : Nat) (l0 : List (S29)) (r : List (S41)) (w : World) (hr0 : Kd.C k29 w A0 l0.length l0) (hc0 : l0.length ≤ c0) (h : ostiaryref10_From.f k l0 = some r) :
    Calls Tryd.prog 24 #[.slice A0 l0.length c0] w fun e w' => ∃ v0_ : Value, e = .returned (v0_) ∧ Kd.N k41 41 w' w.heap.size (fun k_ => (w.heap.size ≤ k_)) v0_ r ∧ Below w.heap.size w w' := by
  have hu29 := Tryd.underlying29
  have hu41 := Tryd.underlying41
  have HR0 := Aside0.mk hr0
  have HC0 := Aside0.mk hc0
  clear hr0 hc0
  have HB := Am (Below.refl w.heap.size w)
  have H : (ostiaryref10_From.l0 k l0 ([] : List (S41)) 0) = some r := h
  clear h
  have H' := Aside0.mk H
  clear H
  go_enter Tryd.func24, Tryd.ntmps24
  go_wp2
  go_loopg [3, 4] k (fun kq v3 v4 w' => ∃ (x3_1 : List (S41)) (x4_1 : Int), v4 = .int .i64 x4_1 ∧ Aside0 (ostiaryref10_From.l0 kq l0 x3_1 x4_1 = some r) ∧ Aside0 (kq ≤ k) ∧ Aside0 (Kd.N k41 41 w' w.heap.size (fun k_ => (w.heap.size ≤ k_)) v3 x3_1) ∧ Aside0 (Below w.heap.size w w'))
  case atStart => exact ⟨(([] : List (S41))), (0), (by first | rfl | (simp; done) | (simp [*]; done)), H', ⟨Nat.le_refl _⟩, ⟨by first | exact Kd.R_nil _ _ _ _ _ | exact Kd.N_nil _ _ _ _ _ | exact Kd.V_nil _ _ _ _ _ | exact Kd.Q_nil _ _ _ _ _ | exact Kd.S_nil _ _ _ _ _⟩, ⟨by (repeat (first | (with_reducible first | exact HB.out | apply below_alloc | apply pw_below_drewN | apply below_drew1) | exact HB.out))⟩⟩
  case round =>
    clear H'
    obtain ⟨x3_1, x4_1, rfl, HA, HK1, HO_3, HB⟩ := hrel
    cases gk with
    | zero => exact absurd HA.out (by simp [ostiaryref10_From.l0])
    | succ k1 =>
      have H := HA.out
      clear HA
      simp only [ostiaryref10_From.l0] at H
      by_cases c2 : x4_1 < 2
      · rw [if_pos c2] at H
        have c2b0 : decide (x4_1 < 2) = true := decide_eq_true c2
        clear c2
        obtain ⟨y339, hy339⟩ : ∃ y_ : List ByteArray, y_ = (([(⟨#[99, 111, 110, 116, 101, 110, 116, 45, 115, 101, 99, 117, 114, 105, 116, 121, 45, 112, 111, 108, 105, 99, 121]⟩ : ByteArray), (⟨#[99, 111, 110, 116, 101, 110, 116, 45, 115, 101, 99, 117, 114, 105, 116, 121, 45, 112, 111, 108, 105, 99, 121, 45, 114, 101, 112, 111, 114, 116, 45, 111, 110, 108, 121]⟩ : ByteArray)] : List ByteArray)) := ⟨_, rfl⟩
        replace H : (if 0 ≤ x4_1 then (if x4_1 < (y339.length : Int) then (ostiaryref10_From.l1 k1 l0 x3_1 x4_1 (rdOf ByteArray.empty y339 x4_1) 0) else (none)) else (none)) = some r := by first | (rw [hy339]; with_reducible exact H) | (have H2_ := (Option.bind_some _ _).symm.trans H; rw [hy339]; with_reducible exact H2_) | (have H2_ := (Option.bind_some _ _).symm.trans H; with_reducible exact H2_) | with_reducible exact H | (rw [hy339]; exact H) | exact H
        have Ny339 := Aside0.mk hy339
        clear hy339
        by_cases c3 : 0 ≤ x4_1
        · rw [if_pos c3] at H
          have c3b0 : decide (0 ≤ x4_1) = true := decide_eq_true c3
          clear c3
          by_cases c4 : x4_1 < (y339.length : Int)
          · rw [if_pos c4] at H
            have c4b0 : decide (x4_1 < (y339.length : Int)) = true := decide_eq_true c4
            clear c4
            have H' := Aside0.mk H
            clear H
            go_wp2_with (first | ((with_reducible refine gate_dst (N := 14) rfl ?_); refine Kd.R_lit Kd.string _ 9 ?hg (N := 14) ?hd (xs := ([(⟨#[99, 111, 110, 116, 101, 110, 116, 45, 115, 101, 99, 117, 114, 105, 116, 121, 45, 112, 111, 108, 105, 99, 121]⟩ : ByteArray), (⟨#[99, 111, 110, 116, 101, 110, 116, 45, 115, 101, 99, 117, 114, 105, 116, 121, 45, 112, 111, 108, 105, 99, 121, 45, 114, 101, 112, 111, 114, 116, 45, 111, 110, 108, 121]⟩ : ByteArray)] : List ByteArray)) (inner := [.string (⟨#[99, 111, 110, 116, 101, 110, 116, 45, 115, 101, 99, 117, 114, 105, 116, 121, 45, 112, 111, 108, 105, 99, 121]⟩ : ByteArray), .string (⟨#[99, 111, 110, 116, 101, 110, 116, 45, 115, 101, 99, 117, 114, 105, 116, 121, 45, 112, 111, 108, 105, 99, 121, 45, 114, 101, 112, 111, 114, 116, 45, 111, 110, 108, 121]⟩ : ByteArray)]) (ok := fun _ => True) (okp := fun _ => True) ?hr ?hp (fun _ hk => hk) trivial (Below.refl _ _) (Nat.le_refl _) (by simp) ?_; ((case hd => rfl); (case hg => rfl); (case hr => first | (go_simp; done) | (go_simp; rfl))); (case hp => exact (Reps.one (show Kd.M Kd.string _ _ _ (⟨#[99, 111, 110, 116, 101, 110, 116, 45, 115, 101, 99, 117, 114, 105, 116, 121, 45, 112, 111, 108, 105, 99, 121]⟩ : ByteArray) [.string (⟨#[99, 111, 110, 116, 101, 110, 116, 45, 115, 101, 99, 117, 114, 105, 116, 121, 45, 112, 111, 108, 105, 99, 121]⟩ : ByteArray)] from rfl) (Reps.one (show Kd.M Kd.string _ _ _ (⟨#[99, 111, 110, 116, 101, 110, 116, 45, 115, 101, 99, 117, 114, 105, 116, 121, 45, 112, 111, 108, 105, 99, 121, 45, 114, 101, 112, 111, 114, 116, 45, 111, 110, 108, 121]⟩ : ByteArray) [.string (⟨#[99, 111, 110, 116, 101, 110, 116, 45, 115, 101, 99, 117, 114, 105, 116, 121, 45, 112, 111, 108, 105, 99, 121, 45, 114, 101, 112, 111, 114, 116, 45, 111, 110, 108, 121]⟩ : ByteArray)] from rfl) (Reps.none _ _)))); intro v340 w5 ho6 hb hg_ hnew_; clear hg_ hnew_; (first | rw [← Ny339.out] at ho6 | (simp only [Int.reduceToNat] at ho6; rw [← Ny339.out] at ho6)); have n0_ := Am (Kd.N_elder' (by (with_reducible repeat (first | apply Kd.N_alloc | apply Kd.N_drewN | apply Kd.N_drew)); exact HO_3.out) (Kd.R_base ho6) hb); have n1_ := Am (Kd.R_lower (Kd.R_newM (M := fun k_ => (w.heap.size ≤ k_)) ho6 (below_size (by (repeat (first | (with_reducible first | exact HB.out | apply below_alloc | apply pw_below_drewN | apply below_drew1) | exact HB.out)))) (fun k_ h_ => h_)) (below_size (by (repeat (first | (with_reducible first | exact HB.out | apply below_alloc | apply pw_below_drewN | apply below_drew1) | exact HB.out))))); have n2_ := Am (below_step (by (repeat (first | (with_reducible first | exact HB.out | apply below_alloc | apply pw_below_drewN | apply below_drew1) | exact HB.out))) hb); clear HO_3; clear HB; have HO_3 := n0_; have HO341 := n1_; have HB := n2_; clear n0_ n1_ n2_; clear hb ho6; obtain ⟨Ao7, co7, eo7⟩ := Kd.R_slice HO341.out; subst eo7; have p342 : 0 ≤ (x4_1 : Int) := of_decide_eq_true (by first | (with_reducible assumption) | assumption); have q342 : x4_1 < (y339.length : Int) := of_decide_eq_true (by first | (with_reducible assumption) | assumption); obtain ⟨ad342, e342, hx342_0⟩ := Kd.at_string (Kd.R_reads' HO341.out).2.2 x4_1 p342 q342; cases e342; replace p342 := eq_true p342; replace q342 := eq_true q342))
            go_loopg [3, 6] k1 (fun kq v3 v6 w' => ∃ (x3_2 : List (S41)) (x6_2 : Int), v6 = .int .i64 x6_2 ∧ Aside0 (ostiaryref10_From.l1 kq l0 x3_2 x4_1 (rdOf ByteArray.empty y339 x4_1) x6_2 = some r) ∧ Aside0 (kq ≤ k1) ∧ Aside0 (Kd.N k41 41 w' w.heap.size (fun k_ => (w.heap.size ≤ k_)) v3 x3_2) ∧ Aside0 (Below w.heap.size w w'))
            case atStart => exact ⟨(x3_1), (0), (by first | rfl | (simp; done) | (simp [*]; done)), H', ⟨Nat.le_refl _⟩, ⟨by (with_reducible repeat (first | apply Kd.N_alloc | apply Kd.N_drewN | apply Kd.N_drew)); exact Kd.N_mono HO_3.out (fun _ hk => hk.1)⟩, ⟨by (repeat (first | (with_reducible first | exact HB.out | apply below_alloc | apply pw_below_drewN | apply below_drew1) | exact HB.out))⟩⟩
            case round =>
              clear H'
              try clear c2
              try clear c2b0
              try clear p2
              try clear c3
              try clear c3b0
              try clear p3
              try clear q3
              try clear hx3
              try clear c4
              try clear c4b0
              try clear hx342_0
              try clear p342
              try clear q342
              obtain ⟨x3_2, x6_2, rfl, HA, HK2, HO_3, HB⟩ := hrel
              cases gk with
              | zero => exact absurd HA.out (by simp [ostiaryref10_From.l1])
              | succ k2 =>
                have H := HA.out
                clear HA
                simp only [ostiaryref10_From.l1] at H
                by_cases c8 : x6_2 < (l0.length : Int)
                · rw [if_pos c8] at H
                  have c8b0 : decide (x6_2 < (l0.length : Int)) = true := decide_eq_true c8
                  clear c8
                  by_cases c9 : 0 ≤ x6_2
                  · rw [if_pos c9] at H
                    have c9b0 : decide (0 ≤ x6_2) = true := decide_eq_true c9
                    clear c9
                    replace H := Option.bind_eq_some_iff.mp H
                    obtain ⟨t344, A100, H⟩ := H
                    replace H : (if t344 = true then ((ostiaryref1_Cut.f k2 ((rd_T29 l0 x6_2).f1) 44).bind fun t346 => (ostiaryref10_From.l2 k2 l0 x3_2 x4_1 (rdOf ByteArray.empty y339 x4_1) x6_2 t346 0)) else (ostiaryref10_From.l1 k2 l0 x3_2 x4_1 (rdOf ByteArray.empty y339 x4_1) (wrap64 (x6_2 + 1)))) = some r := H
                    have A10 := Aside0.mk A100
                    clear A100
                    by_cases c11 : t344 = true
                    · subst c11
                      have H1 : ((ostiaryref1_Cut.f k2 ((rd_T29 l0 x6_2).f1) 44).bind fun t346 => (ostiaryref10_From.l2 k2 l0 x3_2 x4_1 (rdOf ByteArray.empty y339 x4_1) x6_2 t346 0)) = some r := by rw [if_pos rfl] at H; exact H
                      clear H
                      have H := H1
                      clear H1
                      replace H := Option.bind_eq_some_iff.mp H
                      obtain ⟨t346, A120, H⟩ := H
                      replace H : (ostiaryref10_From.l2 k2 l0 x3_2 x4_1 (rdOf ByteArray.empty y339 x4_1) x6_2 t346 0) = some r := H
                      have A12 := Aside0.mk A120
                      clear A120
                      have H' := Aside0.mk H
                      clear H
                      have p343 : 0 ≤ (x6_2 : Int) := of_decide_eq_true (by first | (with_reducible assumption) | assumption)
                      have q343 : x6_2 < (l0.length : Int) := of_decide_eq_true (by first | (with_reducible assumption) | assumption)
                      obtain ⟨ad343, e343, hx343_0, hx343_1⟩ := at_T29 HR0.out x6_2 p343 q343
                      cases e343
                      replace hx343_0 := (HB.out.cell (World.block_lt_of_cell? w _ hx343_0)).trans hx343_0
                      replace hx343_1 := (HB.out.cell (World.block_lt_of_cell? w _ hx343_1)).trans hx343_1
                      replace p343 := eq_true p343
                      replace q343 := eq_true q343
                      go_wp2_with (first | ((with_reducible refine gate_callee (f := 39) rfl ?_); refine goesL_ (some 29) rfl rfl Tryd.func39 (by kernel_rfl) rfl #[.agg #[.string ((rd_T29 l0 x6_2).f0), .string ((rd_T29 l0 x6_2).f1)], .string (rdOf ByteArray.empty y339 x4_1)] rfl (by ((try simp only [List.map_toArray, List.map_cons, List.map_nil]); first | done | rfl | (simp only [List.length_drop, List.length_take]; rfl))) ?_; (with_reducible refine (ostiaryref5_Named.calls ((rd_T29 l0 x6_2).f0) ((rd_T29 l0 x6_2).f1) (rdOf ByteArray.empty y339 x4_1) true _ A10.out).mono ?_); rintro e w13 ⟨rfl, hb⟩; refine ⟨_, rfl, ?_⟩; have n0_ := Am (Kd.N_below (by (with_reducible repeat (first | apply Kd.N_alloc | apply Kd.N_drewN | apply Kd.N_drew)); exact HO_3.out) hb); have n1_ := Am (below_step (by (repeat (first | (with_reducible first | exact HB.out | apply below_alloc | apply pw_below_drewN | apply below_drew1) | exact HB.out))) hb); clear HO_3; clear HB; have HO_3 := n0_; have HB := n1_; clear n0_ n1_; (try clear hb); (try clear hb2); (try clear hk); (try clear hi); have p345 : 0 ≤ (x6_2 : Int) := of_decide_eq_true (by first | (with_reducible assumption) | assumption); have q345 : x6_2 < (l0.length : Int) := of_decide_eq_true (by first | (with_reducible assumption) | assumption); obtain ⟨ad345, e345, hx345_0, hx345_1⟩ := at_T29 HR0.out x6_2 p345 q345; obtain rfl : ad343 = ad345 := (by injection e345); replace hx345_0 := (HB.out.cell (World.block_lt_of_cell? w _ hx345_0)).trans hx345_0; replace hx345_1 := (HB.out.cell (World.block_lt_of_cell? w _ hx345_1)).trans hx345_1; replace p345 := eq_true p345; replace q345 := eq_true q345) | ((with_reducible refine gate_callee (f := 36) rfl ?_); refine goesL_ (some 36) rfl rfl Tryd.func36 (by kernel_rfl) rfl #[.string ((rd_T29 l0 x6_2).f1), .int .u8 44] rfl (by ((try simp only [List.map_toArray, List.map_cons, List.map_nil]); first | done | rfl | (simp only [List.length_drop, List.length_take]; rfl))) ?_; (with_reducible refine (ostiaryref1_Cut.calls k2 ((rd_T29 l0 x6_2).f1) 44 t346 _ A12.out).mono ?_); rintro e w14 ⟨v347, rfl, ho0, hb⟩; refine ⟨_, rfl, ?_⟩; have n0_ := Am (Kd.N_elder' (by (with_reducible repeat (first | apply Kd.N_alloc | apply Kd.N_drewN | apply Kd.N_drew)); exact HO_3.out) (Kd.R_base ho0) hb); have n1_ := Am (Kd.R_lower (Kd.R_newM (M := fun k_ => (w.heap.size ≤ k_)) ho0 (below_size (by (repeat (first | (with_reducible first | exact HB.out | apply below_alloc | apply pw_below_drewN | apply below_drew1) | exact HB.out)))) (fun k_ h_ => h_)) (below_size (by (repeat (first | (with_reducible first | exact HB.out | apply below_alloc | apply pw_below_drewN | apply below_drew1) | exact HB.out))))); have n2_ := Am (below_step (by (repeat (first | (with_reducible first | exact HB.out | apply below_alloc | apply pw_below_drewN | apply below_drew1) | exact HB.out))) hb); clear HO_3; clear HB; have HO_3 := n0_; have HO348 := n1_; have HB := n2_; clear n0_ n1_ n2_; ((try clear hb); (try clear hb2); (try clear hk); (try clear hi); (try clear ho0))))
                      go_loopg [3, 8] k2 (fun kq v3 v8 w' => ∃ (x3_3 : List (S41)) (x8_3 : Int), v8 = .int .i64 x8_3 ∧ Aside0 (ostiaryref10_From.l2 kq l0 x3_3 x4_1 (rdOf ByteArray.empty y339 x4_1) x6_2 t346 x8_3 = some r) ∧ Aside0 (kq ≤ k2) ∧ Aside0 (Kd.N k41 41 w' w.heap.size (fun k_ => (w.heap.size ≤ k_) ∧ some k_ ≠ (v347 : Value).ownBlock) v3 x3_3) ∧ Aside0 (Kd.R Kd.string 9 w' w.heap.size (fun k_ => (w.heap.size ≤ k_)) v347 t346) ∧ Aside0 (Below w.heap.size w w'))
                      case atStart => exact ⟨(x3_2), (0), (by first | rfl | (simp; done) | (simp [*]; done)), H', ⟨Nat.le_refl _⟩, ⟨by (with_reducible repeat (first | apply Kd.N_alloc | apply Kd.N_drewN | apply Kd.N_drew)); exact HO_3.out⟩, ⟨by (with_reducible repeat (first | apply Kd.R_alloc | apply Kd.R_drewN | apply Kd.R_drew)); exact Kd.R_mono HO348.out (fun _ hk => hk.1)⟩, ⟨by (repeat (first | (with_reducible first | exact HB.out | apply below_alloc | apply pw_below_drewN | apply below_drew1) | exact HB.out))⟩⟩
                      case round =>
                        clear H'
                        try clear c1
                        try clear c2
                        try clear c2b0
                        try clear p2
                        try clear c3
                        try clear c3b0
                        try clear p3
                        try clear q3
                        try clear hx3
                        try clear c4
                        try clear c4b0
                        try clear p6
                        try clear c8
                        try clear c8b0
                        try clear c9
                        try clear c9b0
                        try clear c11
                        try clear hx342_0
                        try clear hx343_0
                        try clear hx343_1
                        try clear hx345_0
                        try clear hx345_1
                        try clear p2
                        try clear p3
                        try clear p342
                        try clear p343
                        try clear p345
                        try clear q3
                        try clear q342
                        try clear q343
                        try clear q345
                        obtain ⟨x3_3, x8_3, rfl, HA, HK3, HO_3, HO_7, HB⟩ := hrel
                        cases gk with
                        | zero => exact absurd HA.out (by simp [ostiaryref10_From.l2])
                        | succ k3 =>
                          have H := HA.out
                          clear HA
                          simp only [ostiaryref10_From.l2] at H
                          by_cases c15 : x8_3 < (t346.length : Int)
                          · rw [if_pos c15] at H
                            have c15b0 : decide (x8_3 < (t346.length : Int)) = true := decide_eq_true c15
                            clear c15
                            by_cases c16 : 0 ≤ x8_3
                            · rw [if_pos c16] at H
                              have c16b0 : decide (0 ≤ x8_3) = true := decide_eq_true c16
                              clear c16
                              replace H := Option.bind_eq_some_iff.mp H
                              obtain ⟨⟨t350, t353⟩, A170, H⟩ := H
                              replace H : (if (t350.length : Int) > 0 then (if x3_3.length < 4398046511104 then (ostiaryref10_From.l2 k3 l0 (x3_3 ++ [(⟨t350, t353⟩ : S41)]) x4_1 (rdOf ByteArray.empty y339 x4_1) x6_2 t346 (wrap64 (x8_3 + 1))) else (none)) else (ostiaryref10_From.l2 k3 l0 x3_3 x4_1 (rdOf ByteArray.empty y339 x4_1) x6_2 t346 (wrap64 (x8_3 + 1)))) = some r := H
                              have A17 := Aside0.mk A170
                              clear A170
                              by_cases c18 : (t350.length : Int) > 0
                              · rw [if_pos c18] at H
                                have c18b0 : decide (0 < (t350.length : Int)) = true := decide_eq_true c18
                                have c18b1 : decide (0 < t350.length) = true := decide_eq_true (by omega)
                                clear c18
                                by_cases c19 : x3_3.length < 4398046511104
                                · rw [if_pos c19] at H
                                  have LMc19 := Aside0.mk c19
                                  clear c19
                                  obtain ⟨y355, hy355⟩ : ∃ y_ : List (S41), y_ = (x3_3 ++ [(⟨t350, t353⟩ : S41)]) := ⟨_, rfl⟩
                                  replace H : (ostiaryref10_From.l2 k3 l0 y355 x4_1 (rdOf ByteArray.empty y339 x4_1) x6_2 t346 (wrap64 (x8_3 + 1))) = some r := by first | (rw [hy355]; with_reducible exact H) | (have H2_ := (Option.bind_some _ _).symm.trans H; rw [hy355]; with_reducible exact H2_) | (have H2_ := (Option.bind_some _ _).symm.trans H; with_reducible exact H2_) | with_reducible exact H | (rw [hy355]; exact H) | exact H
                                  have Ny355 := Aside0.mk hy355
                                  clear hy355
                                  have H' := Aside0.mk H
                                  clear H
                                  obtain ⟨Ao20, co20, eo20⟩ := Kd.R_slice HO_7.out
                                  subst eo20
                                  have p349 : 0 ≤ (x8_3 : Int) := of_decide_eq_true (by first | (with_reducible assumption) | assumption)
                                  have q349 : x8_3 < (t346.length : Int) := of_decide_eq_true (by first | (with_reducible assumption) | assumption)
                                  obtain ⟨ad349, e349, hx349_0⟩ := Kd.at_string (Kd.R_reads' HO_7.out).2.2 x8_3 p349 q349
                                  cases e349
                                  replace p349 := eq_true p349
                                  replace q349 := eq_true q349
                                  go_wp2_with (first | ((with_reducible refine gate_callee (f := 19) rfl ?_); refine goesL_ (some 49) rfl rfl Tryd.func19 (by kernel_rfl) rfl #[.string (rdOf ByteArray.empty t346 x8_3), .bool (x4_1 == 1)] rfl (by ((try simp only [List.map_toArray, List.map_cons, List.map_nil]); first | done | rfl | (simp only [List.length_drop, List.length_take]; rfl))) ?_; (with_reducible refine (ostiaryref10_Parse.calls k3 (rdOf ByteArray.empty t346 x8_3) (x4_1 == 1) t350 t353 _ A17.out).mono ?_); rintro e w21 ⟨v351, rfl, ho0, hb⟩; refine ⟨_, rfl, ?_⟩; have n0_ := Am (Kd.N_elder' (by (with_reducible repeat (first | apply Kd.N_alloc | apply Kd.N_drewN | apply Kd.N_drew)); exact HO_3.out) (Kd.N_base ho0) hb); have n1_ := Am (Kd.R_below (by (with_reducible repeat (first | apply Kd.R_alloc | apply Kd.R_drewN | apply Kd.R_drew)); exact HO_7.out) hb); have n2_ := Am (Kd.N_lower (Kd.N_mono (ok' := fun k_ => (w.heap.size ≤ k_) ∧ some k_ ≠ (u3 : Value).ownBlock ∧ some k_ ≠ (.slice (some ad349) t346.length co20 : Value).ownBlock) ho0 (fun k_ hk_ => ⟨(Nat.le_trans (below_size (by (repeat (first | (with_reducible first | exact HB.out | apply below_alloc | apply pw_below_drewN | apply below_drew1) | exact HB.out)))) hk_), (Kd.fresh' (Kd.N_lt (by (with_reducible repeat (first | apply Kd.N_alloc | apply Kd.N_drewN | apply Kd.N_drew)); exact HO_3.out)) k_ hk_), (Kd.fresh' (Kd.R_lt (by (with_reducible repeat (first | apply Kd.R_alloc | apply Kd.R_drewN | apply Kd.R_drew)); exact HO_7.out)) k_ hk_)⟩)) (below_size (by (repeat (first | (with_reducible first | exact HB.out | apply below_alloc | apply pw_below_drewN | apply below_drew1) | exact HB.out))))); have n3_ := Am (below_step (by (repeat (first | (with_reducible first | exact HB.out | apply below_alloc | apply pw_below_drewN | apply below_drew1) | exact HB.out))) hb); clear HO_3; clear HO_7; clear HB; have HO_3 := n0_; have HO_7 := n1_; have HO352 := n2_; have HB := n3_; clear n0_ n1_ n2_ n3_; ((try clear hb); (try clear hb2); (try clear hk); (try clear hi); (try clear ho0))) | ((with_reducible refine gate_dst (N := 9) rfl ?_); refine box_event ?hg (N := 9) ?hd (cs := #[.slice none 0 0, .bool false]) (t := 41) ?hr ?_; ((case hd => rfl); (case hg => rfl); (case hr => first | (go_simp; done) | (go_simp; rfl))); intro gb354 hg w22 hbox hb; have n0_ := Am (Kd.N_below (Kd.N_elderB (by (with_reducible repeat (first | apply Kd.N_alloc | apply Kd.N_drewN | apply Kd.N_drew)); exact HO_3.out) gb354 (Nat.le_of_eq hg.symm)) hb); have n1_ := Am (Kd.R_below (by (with_reducible repeat (first | apply Kd.R_alloc | apply Kd.R_drewN | apply Kd.R_drew)); exact HO_7.out) hb); have n2_ := Am (Kd.N_below (Kd.N_elderB (by (with_reducible repeat (first | apply Kd.N_alloc | apply Kd.N_drewN | apply Kd.N_drew)); exact HO352.out) gb354 (Nat.le_of_eq hg.symm)) hb); have n3_ := Am (below_step (by (repeat (first | (with_reducible first | exact HB.out | apply below_alloc | apply pw_below_drewN | apply below_drew1) | exact HB.out))) hb); have n4_ := Am (hbox); have n5_ := Am ((by rw [hg]; exact (below_size (by (repeat (first | (with_reducible first | exact HB.out | apply below_alloc | apply pw_below_drewN | apply below_drew1) | exact HB.out)))) : w.heap.size ≤ gb354)); have n6_ := Am ((by rw [hg]; exact (below_size (by (repeat (first | (with_reducible first | exact HB.out | apply below_alloc | apply pw_below_drewN | apply below_drew1) | exact HB.out)))) : w.heap.size ≤ gb354)); clear HO_3; clear HO_7; clear HO352; clear HB; have HO_3 := n0_; have HO_7 := n1_; have HO352 := n2_; have HB := n3_; have BK354 := n4_; have GW354 := n5_; have GE354 := n6_; clear n0_ n1_ n2_ n3_ n4_ n5_ n6_; clear hb hbox hg; obtain ⟨Ao23, co23, eo23⟩ := Kd.N_slice HO352.out; subst eo23; have hcz24_0 : w22.cell? ⟨gb354, 0, none⟩ = some (.slice none 0 0) := (blk_cell BK354.out 0).trans rfl; have hcz24_1 : w22.cell? ⟨gb354, 1, none⟩ = some (.bool false) := (blk_cell BK354.out 1).trans rfl; have hfz24_0 := blk_frozen BK354.out 0; have hfz24_1 := blk_frozen BK354.out 1) | ((with_reducible refine gate_store (t := 41) (p := 9) rfl ?_); refine store_event (t := 41) (p := 9) (v := ?vo_w25) (w1 := ((w22.setCell ⟨gb354, 0, none⟩ (.slice Ao23 t350.length co23)).setCell ⟨gb354, 1, none⟩ (.bool t353))) ?hg ?ho ?hn ?hr ?_; (case ho => rfl); (case hg => rfl); (case hn => rfl); (case hr => first | (go_simp; done) | (go_simp; rfl)); intro w25 hw; have n0_ : Aside0 (Kd.N k41 41 w25 w.heap.size (fun k_ => (w.heap.size ≤ k_) ∧ some k_ ≠ (.slice (some ad349) t346.length co20 : Value).ownBlock ∧ some k_ ≠ (.slice Ao23 t350.length co23 : Value).ownBlock ∧ k_ ≠ gb354) u3 x3_3) := ⟨(by rw [hw]; exact (by (with_reducible repeat (first | apply Kd.N_alloc | apply Kd.N_drewN | apply Kd.N_drew)); exact Kd.N_mono (Kd.N_far (p := ⟨gb354, 1, none⟩) (Kd.N_far (p := ⟨gb354, 0, none⟩) (Kd.N_mono HO_3.out (fun k_ hk => (⟨hk, hk.2⟩ : _ ∧ k_ ≠ gb354))) (fun _ hk => hk.2) (.slice Ao23 t350.length co23)) (fun _ hk => hk.2) (.bool t353)) (fun _ hk => ⟨hk.1.1.1.1, ⟨hk.1.1.1.2, ⟨hk.1.1.2, hk.1.2⟩⟩⟩)))⟩; have n1_ : Aside0 (Kd.R Kd.string 9 w25 w.heap.size (fun k_ => (w.heap.size ≤ k_)) (.slice (some ad349) t346.length co20) t346) := ⟨(by rw [hw]; exact (by (with_reducible repeat (first | apply Kd.R_alloc | apply Kd.R_drewN | apply Kd.R_drew)); exact Kd.R_mono (Kd.R_far (p := ⟨gb354, 1, none⟩) (Kd.R_far (p := ⟨gb354, 0, none⟩) (Kd.R_types HO_7.out BK354.out (by decide)) (fun _ hk => hk.2) (.slice Ao23 t350.length co23)) (fun _ hk => hk.2) (.bool t353)) (fun _ hk => hk.1)))⟩; have n2_ : Aside0 (Kd.N k69 69 w25 w.heap.size (fun k_ => (w.heap.size ≤ k_) ∧ some k_ ≠ (u3 : Value).ownBlock ∧ some k_ ≠ (.slice (some ad349) t346.length co20 : Value).ownBlock ∧ k_ ≠ gb354) (.slice Ao23 t350.length co23) t350) := ⟨(by rw [hw]; exact (by (with_reducible repeat (first | apply Kd.N_alloc | apply Kd.N_drewN | apply Kd.N_drew)); exact Kd.N_mono (Kd.N_far (p := ⟨gb354, 1, none⟩) (Kd.N_far (p := ⟨gb354, 0, none⟩) (Kd.N_mono HO352.out (fun k_ hk => (⟨hk, hk.2⟩ : _ ∧ k_ ≠ gb354))) (fun _ hk => hk.2) (.slice Ao23 t350.length co23)) (fun _ hk => hk.2) (.bool t353)) (fun _ hk => ⟨hk.1.1.1, ⟨hk.1.1.2.1, ⟨hk.1.1.2.2, hk.1.2⟩⟩⟩)))⟩; have n3_ : Aside0 (w25.heap[gb354]? = some (.cells #[.slice Ao23 t350.length co23, .bool t353] 41 (0, 0))) := ⟨(by rw [hw]; exact (by (with_reducible repeat (first | refine blk_drewN ?_ _ | refine blk_drew ?_ | refine blk_alloc ?_ _)); refine blk_put (cs := #[.slice Ao23 t350.length co23, .bool false]) ?_ 1 _ rfl; (with_reducible repeat (first | refine blk_drewN ?_ _ | refine blk_drew ?_ | refine blk_alloc ?_ _)); refine blk_put (cs := #[.slice none 0 0, .bool false]) ?_ 0 _ rfl; (with_reducible repeat (first | refine blk_drewN ?_ _ | refine blk_drew ?_ | refine blk_alloc ?_ _)); exact BK354.out))⟩; have n4_ : Aside0 (Below w.heap.size w w25) := ⟨(by rw [hw]; exact (by (repeat (first | (with_reducible first | exact HB.out | apply below_alloc | apply pw_below_drewN | apply below_drew1 | refine below_set ?_ (Aside0.out GE354)) | exact HB.out))))⟩; clear hw; clear HO_3; clear HO_7; clear HO352; clear BK354; clear HB; have HO_3 := n0_; have HO_7 := n1_; have HO352 := n2_; have BK354 := n3_; have HB := n4_; clear n0_ n1_ n2_ n3_ n4_; have hcz26_0 : w25.cell? ⟨gb354, 0, none⟩ = some (.slice Ao23 t350.length co23) := (blk_cell BK354.out 0).trans rfl; have hcz26_1 : w25.cell? ⟨gb354, 1, none⟩ = some (.bool t353) := (blk_cell BK354.out 1).trans rfl; have hfz26_0 := blk_frozen BK354.out 0; have hfz26_1 := blk_frozen BK354.out 1) | ((with_reducible refine gate_builtin (b := .append) (xs := #[.tmp 54, .tmp 56]) rfl ?_); at_builtin; refine Kd.N_append k41 (w0 := w) w.heap.size rfl (.tmp 54) (.tmp 56) 48 41 (.agg #[(.slice none 0 0), (.bool false)]) 32 rfl Tryd.underlying48 info41 rfl (by decide) (by omega) u3 x3_3 (⟨t350, t353⟩ : S41) [.slice Ao23 t350.length co23, .bool t353] (fun k_ => (w.heap.size ≤ k_) ∧ some k_ ≠ (.slice (some ad349) t346.length co20 : Value).ownBlock ∧ k_ ≠ gb354) (fun k_ => ((fun k_ => (w.heap.size ≤ k_) ∧ some k_ ≠ (.slice (some ad349) t346.length co20 : Value).ownBlock ∧ k_ ≠ gb354)) k_ ∧ some k_ ≠ (u3 : Value).ownBlock) rfl rfl ?aP (fun _ hk => hk) ?aF ?aO ?aB ?aS ?aL ?_; (case aP => exact (k41_mkF _ _ (⟨t350, t353⟩ : S41) (Kd.N_reads' (Kd.N_mono (ok' := (fun k_ => ((fun k_ => (w.heap.size ≤ k_) ∧ some k_ ≠ (.slice (some ad349) t346.length co20 : Value).ownBlock ∧ k_ ≠ gb354)) k_ ∧ some k_ ≠ (u3 : Value).ownBlock)) (HO352.out) (fun k_ hk => ⟨⟨hk.1, ⟨hk.2.2.1, hk.2.2.2⟩⟩, hk.2.1⟩))).2.1 (Kd.N_F (Kd.N_mono (ok' := (fun k_ => ((fun k_ => (w.heap.size ≤ k_) ∧ some k_ ≠ (.slice (some ad349) t346.length co20 : Value).ownBlock ∧ k_ ≠ gb354)) k_ ∧ some k_ ≠ (u3 : Value).ownBlock)) (HO352.out) (fun k_ hk => ⟨⟨hk.1, ⟨hk.2.2.1, hk.2.2.2⟩⟩, hk.2.1⟩))))); (case aB => exact (by (repeat (first | (with_reducible first | exact HB.out | apply below_alloc | apply pw_below_drewN | apply below_drew1 | refine below_set ?_ (Aside0.out GE354)) | exact HB.out)))); (case aF => exact (fun k_ hk => ⟨(Nat.le_trans (below_size (by (repeat (first | (with_reducible first | exact HB.out | apply below_alloc | apply pw_below_drewN | apply below_drew1 | refine below_set ?_ (Aside0.out GE354)) | exact HB.out)))) hk), Kd.fresh' (Kd.R_lt (by (with_reducible repeat (first | apply Kd.R_alloc | apply Kd.R_drewN | apply Kd.R_drew)); exact HO_7.out)) k_ hk, Kd.freshB (g := gb354) (o := .cells #[.slice Ao23 t350.length co23, .bool t353] 41 (0, 0)) (by (with_reducible repeat (first | refine blk_drewN ?_ _ | refine blk_drew ?_ | refine blk_alloc ?_ _)); exact BK354.out) k_ hk⟩)); (case aO => exact (by (with_reducible repeat (first | apply Kd.N_alloc | apply Kd.N_drewN | apply Kd.N_drew)); exact Kd.N_mono HO_3.out (fun _ hk => ⟨hk.1, ⟨hk.2.1, hk.2.2.2⟩⟩))); (case aS => exact (below_size (by (repeat (first | (with_reducible first | exact HB.out | apply below_alloc | apply pw_below_drewN | apply below_drew1 | refine below_set ?_ (Aside0.out GE354)) | exact HB.out))))); (case aL => have := LMc19.out; omega); intro v356 w27 ho hb hg hat; rw [← Ny355.out] at ho; have n0_ := Am (Kd.R_over' (by (with_reducible repeat (first | apply Kd.R_alloc | apply Kd.R_drewN | apply Kd.R_drew)); exact HO_7.out) (Kd.N_typed (by (with_reducible repeat (first | apply Kd.N_alloc | apply Kd.N_drewN | apply Kd.N_drew)); exact HO_3.out)) (by decide) hg); have n1_ := Am (blk_grown (g := gb354) (o := .cells #[.slice Ao23 t350.length co23, .bool t353] 41 (0, 0)) (by (with_reducible repeat (first | refine blk_drewN ?_ _ | refine blk_drew ?_ | refine blk_alloc ?_ _)); exact BK354.out) hg (Kd.N_away HO_3.out (fun _ hk => hk.2.2.2))); have n2_ := Am (hb); have n3_ := Am (ho); clear HO_7; clear BK354; clear HB; clear HO_3; clear HO352; have HO_7 := n0_; have BK354 := n1_; have HB := n2_; have HO357 := n3_; clear n0_ n1_ n2_ n3_; clear ho hb hg hat))
                                  go_roundg k3
                                  case measure => have := HK1.out; have := HK2.out; have := HK3.out; omega
                                  case rel => exact ⟨(y355), (wrap64 (x8_3 + 1)), (by first | rfl | (simp; done) | (simp [*]; done)), H', ⟨by have := HK1.out; have := HK2.out; have := HK3.out; omega⟩, ⟨by (with_reducible repeat (first | apply Kd.N_alloc | apply Kd.N_drewN | apply Kd.N_drew)); exact Kd.N_mono HO357.out (fun _ hk => ⟨hk.1, hk.2.1⟩)⟩, ⟨by (with_reducible repeat (first | apply Kd.R_alloc | apply Kd.R_drewN | apply Kd.R_drew)); exact HO_7.out⟩, ⟨by (repeat (first | (with_reducible first | exact HB.out | apply below_alloc | apply pw_below_drewN | apply below_drew1 | refine below_set ?_ (Aside0.out GE354)) | exact HB.out))⟩⟩
                                · rw [if_neg c19] at H
                                  exact absurd H (by simp)
                              · rw [if_neg c18] at H
                                have c18b0 : decide (0 < (t350.length : Int)) = false := decide_eq_false c18
                                have c18b1 : decide (0 < t350.length) = false := decide_eq_false (by omega)
                                clear c18
                                have H' := Aside0.mk H
                                clear H
                                obtain ⟨Ao28, co28, eo28⟩ := Kd.R_slice HO_7.out
                                subst eo28
                                have p349 : 0 ≤ (x8_3 : Int) := of_decide_eq_true (by first | (with_reducible assumption) | assumption)
                                have q349 : x8_3 < (t346.length : Int) := of_decide_eq_true (by first | (with_reducible assumption) | assumption)
                                obtain ⟨ad349, e349, hx349_0⟩ := Kd.at_string (Kd.R_reads' HO_7.out).2.2 x8_3 p349 q349
                                cases e349
                                replace p349 := eq_true p349
                                replace q349 := eq_true q349
                                go_wp2_with (first | ((with_reducible refine gate_callee (f := 19) rfl ?_); refine goesL_ (some 49) rfl rfl Tryd.func19 (by kernel_rfl) rfl #[.string (rdOf ByteArray.empty t346 x8_3), .bool (x4_1 == 1)] rfl (by ((try simp only [List.map_toArray, List.map_cons, List.map_nil]); first | done | rfl | (simp only [List.length_drop, List.length_take]; rfl))) ?_; (with_reducible refine (ostiaryref10_Parse.calls k3 (rdOf ByteArray.empty t346 x8_3) (x4_1 == 1) t350 t353 _ A17.out).mono ?_); rintro e w29 ⟨v351, rfl, ho0, hb⟩; refine ⟨_, rfl, ?_⟩; have n0_ := Am (Kd.N_elder' (by (with_reducible repeat (first | apply Kd.N_alloc | apply Kd.N_drewN | apply Kd.N_drew)); exact HO_3.out) (Kd.N_base ho0) hb); have n1_ := Am (Kd.R_below (by (with_reducible repeat (first | apply Kd.R_alloc | apply Kd.R_drewN | apply Kd.R_drew)); exact HO_7.out) hb); have n2_ := Am (Kd.N_lower (Kd.N_mono (ok' := fun k_ => (w.heap.size ≤ k_) ∧ some k_ ≠ (u3 : Value).ownBlock ∧ some k_ ≠ (.slice (some ad349) t346.length co28 : Value).ownBlock) ho0 (fun k_ hk_ => ⟨(Nat.le_trans (below_size (by (repeat (first | (with_reducible first | exact HB.out | apply below_alloc | apply pw_below_drewN | apply below_drew1) | exact HB.out)))) hk_), (Kd.fresh' (Kd.N_lt (by (with_reducible repeat (first | apply Kd.N_alloc | apply Kd.N_drewN | apply Kd.N_drew)); exact HO_3.out)) k_ hk_), (Kd.fresh' (Kd.R_lt (by (with_reducible repeat (first | apply Kd.R_alloc | apply Kd.R_drewN | apply Kd.R_drew)); exact HO_7.out)) k_ hk_)⟩)) (below_size (by (repeat (first | (with_reducible first | exact HB.out | apply below_alloc | apply pw_below_drewN | apply below_drew1) | exact HB.out))))); have n3_ := Am (below_step (by (repeat (first | (with_reducible first | exact HB.out | apply below_alloc | apply pw_below_drewN | apply below_drew1) | exact HB.out))) hb); clear HO_3; clear HO_7; clear HB; have HO_3 := n0_; have HO_7 := n1_; have HO352 := n2_; have HB := n3_; clear n0_ n1_ n2_ n3_; ((try clear hb); (try clear hb2); (try clear hk); (try clear hi); (try clear ho0))) | ((with_reducible refine gate_dst (N := 9) rfl ?_); refine box_event ?hg (N := 9) ?hd (cs := #[.slice none 0 0, .bool false]) (t := 41) ?hr ?_; ((case hd => rfl); (case hg => rfl); (case hr => first | (go_simp; done) | (go_simp; rfl))); intro gb354 hg w30 hbox hb; have n0_ := Am (Kd.N_below (Kd.N_elderB (by (with_reducible repeat (first | apply Kd.N_alloc | apply Kd.N_drewN | apply Kd.N_drew)); exact HO_3.out) gb354 (Nat.le_of_eq hg.symm)) hb); have n1_ := Am (Kd.R_below (by (with_reducible repeat (first | apply Kd.R_alloc | apply Kd.R_drewN | apply Kd.R_drew)); exact HO_7.out) hb); have n2_ := Am (Kd.N_below (Kd.N_elderB (by (with_reducible repeat (first | apply Kd.N_alloc | apply Kd.N_drewN | apply Kd.N_drew)); exact HO352.out) gb354 (Nat.le_of_eq hg.symm)) hb); have n3_ := Am (below_step (by (repeat (first | (with_reducible first | exact HB.out | apply below_alloc | apply pw_below_drewN | apply below_drew1) | exact HB.out))) hb); have n4_ := Am (hbox); have n5_ := Am ((by rw [hg]; exact (below_size (by (repeat (first | (with_reducible first | exact HB.out | apply below_alloc | apply pw_below_drewN | apply below_drew1) | exact HB.out)))) : w.heap.size ≤ gb354)); have n6_ := Am ((by rw [hg]; exact (below_size (by (repeat (first | (with_reducible first | exact HB.out | apply below_alloc | apply pw_below_drewN | apply below_drew1) | exact HB.out)))) : w.heap.size ≤ gb354)); clear HO_3; clear HO_7; clear HO352; clear HB; have HO_3 := n0_; have HO_7 := n1_; have HO352 := n2_; have HB := n3_; have BK354 := n4_; have GW354 := n5_; have GE354 := n6_; clear n0_ n1_ n2_ n3_ n4_ n5_ n6_; clear hb hbox hg; obtain ⟨Ao31, co31, eo31⟩ := Kd.N_slice HO352.out; subst eo31; have hcz32_0 : w30.cell? ⟨gb354, 0, none⟩ = some (.slice none 0 0) := (blk_cell BK354.out 0).trans rfl; have hcz32_1 : w30.cell? ⟨gb354, 1, none⟩ = some (.bool false) := (blk_cell BK354.out 1).trans rfl; have hfz32_0 := blk_frozen BK354.out 0; have hfz32_1 := blk_frozen BK354.out 1))
                                go_roundg k3
                                case measure => have := HK1.out; have := HK2.out; have := HK3.out; omega
                                case rel => exact ⟨(x3_3), (wrap64 (x8_3 + 1)), (by first | rfl | (simp; done) | (simp [*]; done)), H', ⟨by have := HK1.out; have := HK2.out; have := HK3.out; omega⟩, ⟨by (with_reducible repeat (first | apply Kd.N_alloc | apply Kd.N_drewN | apply Kd.N_drew)); exact Kd.N_mono (Kd.N_far (p := ⟨gb354, 1, none⟩) (Kd.N_far (p := ⟨gb354, 0, none⟩) (Kd.N_mono HO_3.out (fun k_ hk => (⟨hk, hk.2⟩ : _ ∧ k_ ≠ gb354))) (fun _ hk => hk.2) (.slice Ao31 t350.length co31)) (fun _ hk => hk.2) (.bool t353)) (fun _ hk => ⟨hk.1.1.1.1, hk.1.1.1.2⟩)⟩, ⟨by (with_reducible repeat (first | apply Kd.R_alloc | apply Kd.R_drewN | apply Kd.R_drew)); exact Kd.R_mono (Kd.R_far (p := ⟨gb354, 1, none⟩) (Kd.R_far (p := ⟨gb354, 0, none⟩) (Kd.R_types HO_7.out BK354.out (by decide)) (fun _ hk => hk.2) (.slice Ao31 t350.length co31)) (fun _ hk => hk.2) (.bool t353)) (fun _ hk => hk.1)⟩, ⟨by (repeat (first | (with_reducible first | exact HB.out | apply below_alloc | apply pw_below_drewN | apply below_drew1 | refine below_set ?_ (Aside0.out GE354)) | exact HB.out))⟩⟩
                            · rw [if_neg c16] at H
                              exact absurd H (by simp)
                          · rw [if_neg c15] at H
                            have c15b0 : decide (x8_3 < (t346.length : Int)) = false := decide_eq_false c15
                            clear c15
                            have H' := Aside0.mk H
                            clear H
                            obtain ⟨Ao33, co33, eo33⟩ := Kd.R_slice HO_7.out
                            subst eo33
                            go_wp2
                            go_roundg k3
                            case measure => have := HK1.out; have := HK2.out; have := HK3.out; omega
                            case rel => exact ⟨(x3_3), (wrap64 (x6_2 + 1)), (by first | rfl | (simp; done) | (simp [*]; done)), H', ⟨by have := HK1.out; have := HK2.out; have := HK3.out; omega⟩, ⟨by (with_reducible repeat (first | apply Kd.N_alloc | apply Kd.N_drewN | apply Kd.N_drew)); exact Kd.N_mono HO_3.out (fun _ hk => hk.1)⟩, ⟨by (repeat (first | (with_reducible first | exact HB.out | apply below_alloc | apply pw_below_drewN | apply below_drew1) | exact HB.out))⟩⟩
                    · replace c11 := Bool.eq_false_iff.mpr c11
                      subst c11
                      have H1 : (ostiaryref10_From.l1 k2 l0 x3_2 x4_1 (rdOf ByteArray.empty y339 x4_1) (wrap64 (x6_2 + 1))) = some r := by rw [if_neg (show ¬ (false = true) by decide)] at H; exact H
                      clear H
                      have H := H1
                      clear H1
                      have H' := Aside0.mk H
                      clear H
                      have p343 : 0 ≤ (x6_2 : Int) := of_decide_eq_true (by first | (with_reducible assumption) | assumption)
                      have q343 : x6_2 < (l0.length : Int) := of_decide_eq_true (by first | (with_reducible assumption) | assumption)
                      obtain ⟨ad343, e343, hx343_0, hx343_1⟩ := at_T29 HR0.out x6_2 p343 q343
                      cases e343
                      replace hx343_0 := (HB.out.cell (World.block_lt_of_cell? w _ hx343_0)).trans hx343_0
                      replace hx343_1 := (HB.out.cell (World.block_lt_of_cell? w _ hx343_1)).trans hx343_1
                      replace p343 := eq_true p343
                      replace q343 := eq_true q343
                      go_wp2_with (first | ((with_reducible refine gate_callee (f := 39) rfl ?_); refine goesL_ (some 29) rfl rfl Tryd.func39 (by kernel_rfl) rfl #[.agg #[.string ((rd_T29 l0 x6_2).f0), .string ((rd_T29 l0 x6_2).f1)], .string (rdOf ByteArray.empty y339 x4_1)] rfl (by ((try simp only [List.map_toArray, List.map_cons, List.map_nil]); first | done | rfl | (simp only [List.length_drop, List.length_take]; rfl))) ?_; (with_reducible refine (ostiaryref5_Named.calls ((rd_T29 l0 x6_2).f0) ((rd_T29 l0 x6_2).f1) (rdOf ByteArray.empty y339 x4_1) false _ A10.out).mono ?_); rintro e w34 ⟨rfl, hb⟩; refine ⟨_, rfl, ?_⟩; have n0_ := Am (Kd.N_below (by (with_reducible repeat (first | apply Kd.N_alloc | apply Kd.N_drewN | apply Kd.N_drew)); exact HO_3.out) hb); have n1_ := Am (below_step (by (repeat (first | (with_reducible first | exact HB.out | apply below_alloc | apply pw_below_drewN | apply below_drew1) | exact HB.out))) hb); clear HO_3; clear HB; have HO_3 := n0_; have HB := n1_; clear n0_ n1_; (try clear hb); (try clear hb2); (try clear hk); (try clear hi)))
                      go_roundg k2
                      case measure => have := HK1.out; have := HK2.out; omega
                      case rel => exact ⟨(x3_2), (wrap64 (x6_2 + 1)), (by first | rfl | (simp; done) | (simp [*]; done)), H', ⟨by have := HK1.out; have := HK2.out; omega⟩, ⟨by (with_reducible repeat (first | apply Kd.N_alloc | apply Kd.N_drewN | apply Kd.N_drew)); exact HO_3.out⟩, ⟨by (repeat (first | (with_reducible first | exact HB.out | apply below_alloc | apply pw_below_drewN | apply below_drew1) | exact HB.out))⟩⟩
                  · rw [if_neg c9] at H
                    exact absurd H (by simp)
                · rw [if_neg c8] at H
                  have c8b0 : decide (x6_2 < (l0.length : Int)) = false := decide_eq_false c8
                  clear c8
                  have H' := Aside0.mk H
                  clear H
                  go_wp2
                  go_roundg k2
                  case measure => have := HK1.out; have := HK2.out; omega
                  case rel => exact ⟨(x3_2), (wrap64 (x4_1 + 1)), (by first | rfl | (simp; done) | (simp [*]; done)), H', ⟨by have := HK1.out; have := HK2.out; omega⟩, ⟨by (with_reducible repeat (first | apply Kd.N_alloc | apply Kd.N_drewN | apply Kd.N_drew)); exact HO_3.out⟩, ⟨by (repeat (first | (with_reducible first | exact HB.out | apply below_alloc | apply pw_below_drewN | apply below_drew1) | exact HB.out))⟩⟩
          · rw [if_neg c4] at H
            exact absurd H (by simp)
        · rw [if_neg c3] at H
          exact absurd H (by simp)
      · rw [if_neg c2] at H
        have c2b0 : decide (x4_1 < 2) = false := decide_eq_false c2
        clear c2
        obtain rfl := Option.some.inj H
        go_wp2
        go_ret
        exact ⟨_, by (first | rfl | (simp [errW_none, errW_some] <;> rfl) | (simp [*, errW_none, errW_some] <;> rfl)), by (with_reducible repeat (first | apply Kd.N_alloc | apply Kd.N_drewN | apply Kd.N_drew)); exact HO_3.out, by (repeat (first | (with_reducible first | exact HB.out | apply below_alloc | apply pw_below_drewN | apply below_drew1) | exact HB.out))⟩

end Go.Proofs.YtohcjdninpjpgaaDoor.PX
