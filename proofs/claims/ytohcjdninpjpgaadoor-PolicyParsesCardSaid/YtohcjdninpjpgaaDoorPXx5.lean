/- Functions of the program and their walks, printed by a program. -/
import Derived.Test.YtohcjdninpjpgaaDoorCpolicyPolicyrule
import Derived.Test.YtohcjdninpjpgaaDoorCpolicyRule
import Derived.Test.YtohcjdninpjpgaaDoorCstringsJoin
import Derived.Test.YtohcjdninpjpgaaDoorCslicesClonestringstring
import Derived.Test.YtohcjdninpjpgaaDoorCpolicywords
import Derived.Test.YtohcjdninpjpgaaDoorCstringsSplit
import Derived.Test.YtohcjdninpjpgaaDoorCostiaryref1Lower
import Derived.Test.YtohcjdninpjpgaaDoorCinfraLower
import Derived.Test.YtohcjdninpjpgaaDoorPXx0
import Derived.Test.YtohcjdninpjpgaaDoorPXx4
namespace Go.Proofs.YtohcjdninpjpgaaDoor.PX
open Go.Proofs.YtohcjdninpjpgaaDoor.Own
open Go.RowKit Go.Proofs.YtohcjdninpjpgaaDoorW.PrintWords Go.Proofs.YtohcjdninpjpgaaDoorW.PrintLast Go.Proofs.YtohcjdninpjpgaaDoorW.PrintMore
attribute [local go_sem] max2_int min2_int max_two min_two max_three min_three max_four min_four   -- for this text's walks alone
set_option linter.unusedVariables false
set_option linter.unusedSimpArgs false

/-! ### ostiaryref10_Parse: function 19 -/
mutual
def ostiaryref10_Parse.l0 : Nat → List ByteArray → Int → List (S69) → Bool → Option ((List (S69)) × Bool)
  | 0, _, _, _, _ => none
  | k + 1, x6, x7, x298000, x298001 => if x7 < (x6.length : Int) then (ostiaryref10_Parse.j1 k x6 x7 (decide ((x298000.length : Int) < 32)) x298000 x298001) else (ostiaryref10_Parse.j1 k x6 x7 false x298000 x298001)
def ostiaryref10_Parse.j1 : Nat → List ByteArray → Int → Bool → List (S69) → Bool → Option ((List (S69)) × Bool)
  | 0, _, _, _, _, _ => none
  | k + 1, x6, x7, x25, x298000, x298001 => if x25 = true then (if 0 ≤ x7 then (if x7 < (x6.length : Int) then ((ostiaryref1_Words.f k (rdOf ByteArray.empty x6 x7)).bind fun t302 => (if (t302.length : Int) = 0 then (ostiaryref10_Parse.l0 k x6 (wrap64 (x7 + 1)) x298000 x298001) else (if 0 < (t302.length : Int) then ((ostiaryref1_Lower.f (rdOf ByteArray.empty t302 0)).bind fun t306 => (ostiaryref10_Parse.l1 k x6 x7 t302 t306 false 0 x298000 x298001)) else (none)))) else (none)) else (none)) else (some (x298000, x298001))
def ostiaryref10_Parse.l1 : Nat → List ByteArray → Int → List ByteArray → ByteArray → Bool → Int → List (S69) → Bool → Option ((List (S69)) × Bool)
  | 0, _, _, _, _, _, _, _, _ => none
  | k + 1, x6, x7, x8, x9, x10, x11, x298000, x298001 => if x11 < (x298000.length : Int) then (if x10 = true then (ostiaryref10_Parse.l1 k x6 x7 x8 x9 true (wrap64 (x11 + 1)) x298000 x298001) else (if 0 ≤ x11 then (ostiaryref10_Parse.l1 k x6 x7 x8 x9 (((rd_T69 x298000 x11).f0).toList == x9.toList) (wrap64 (x11 + 1)) x298000 x298001) else (none))) else (if x10 = true then (ostiaryref10_Parse.l0 k x6 (wrap64 (x7 + 1)) x298000 x298001) else (if 1 ≤ (x8.length : Int) then (if x298000.length < 3518437208883 then (ostiaryref10_Parse.l0 k x6 (wrap64 (x7 + 1)) (x298000 ++ [(⟨x9, (x8.drop 1)⟩ : S69)]) x298001) else (none)) else (none)))
end
def ostiaryref10_Parse.f (k : Nat) (a0 : ByteArray) (a1 : Bool) : Option ((List (S69)) × Bool) := (ostiaryref1_Cut.f k a0 59).bind fun t298 => (ostiaryref10_Parse.l0 k t298 0 ([] : List (S69)) a1)
theorem ostiaryref10_Parse.mono_l : ∀ k, (∀ y0 y1 y2 y3, LeO (ostiaryref10_Parse.l0 k y0 y1 y2 y3) (ostiaryref10_Parse.l0 (k + 1) y0 y1 y2 y3)) ∧ (∀ y0 y1 y2 y3 y4, LeO (ostiaryref10_Parse.j1 k y0 y1 y2 y3 y4) (ostiaryref10_Parse.j1 (k + 1) y0 y1 y2 y3 y4)) ∧ (∀ y0 y1 y2 y3 y4 y5 y6 y7, LeO (ostiaryref10_Parse.l1 k y0 y1 y2 y3 y4 y5 y6 y7) (ostiaryref10_Parse.l1 (k + 1) y0 y1 y2 y3 y4 y5 y6 y7))
  | 0 => ⟨fun _ _ _ _ r h => by simp [ostiaryref10_Parse.l0] at h, fun _ _ _ _ _ r h => by simp [ostiaryref10_Parse.j1] at h, fun _ _ _ _ _ _ _ _ r h => by simp [ostiaryref10_Parse.l1] at h⟩
  | k + 1 => by
    obtain ⟨ih0, ih1, ih2⟩ := ostiaryref10_Parse.mono_l k
    refine ⟨?_, ?_, ?_⟩
    · intro y0 y1 y2 y3
      unfold ostiaryref10_Parse.l0
      repeat' first
      | (with_reducible exact ih0 _ _ _ _)
      | (with_reducible exact ih1 _ _ _ _ _)
      | (with_reducible exact ih2 _ _ _ _ _ _ _ _)
      | (with_reducible exact ostiaryref1_Cut.mono _ _ _)
      | (with_reducible exact ostiaryref1_Words.mono _ _)
      | (with_reducible exact LeO.refl _)
      | (with_reducible exact LeO.none _)
      | (with_reducible refine LeO.ite ?_ ?_)
      | (with_reducible refine LeO.bind ?_ (fun _ => ?_))
      | exact ih0 _ _ _ _
      | exact ih1 _ _ _ _ _
      | exact ih2 _ _ _ _ _ _ _ _
      | exact ostiaryref1_Cut.mono _ _ _
      | exact ostiaryref1_Words.mono _ _
      | exact LeO.none _
      | refine LeO.ite ?_ ?_
      | refine LeO.bind ?_ (fun _ => ?_)
    · intro y0 y1 y2 y3 y4
      unfold ostiaryref10_Parse.j1
      repeat' first
      | (with_reducible exact ih0 _ _ _ _)
      | (with_reducible exact ih1 _ _ _ _ _)
      | (with_reducible exact ih2 _ _ _ _ _ _ _ _)
      | (with_reducible exact ostiaryref1_Cut.mono _ _ _)
      | (with_reducible exact ostiaryref1_Words.mono _ _)
      | (with_reducible exact LeO.refl _)
      | (with_reducible exact LeO.none _)
      | (with_reducible refine LeO.ite ?_ ?_)
      | (with_reducible refine LeO.bind ?_ (fun _ => ?_))
      | exact ih0 _ _ _ _
      | exact ih1 _ _ _ _ _
      | exact ih2 _ _ _ _ _ _ _ _
      | exact ostiaryref1_Cut.mono _ _ _
      | exact ostiaryref1_Words.mono _ _
      | exact LeO.none _
      | refine LeO.ite ?_ ?_
      | refine LeO.bind ?_ (fun _ => ?_)
    · intro y0 y1 y2 y3 y4 y5 y6 y7
      unfold ostiaryref10_Parse.l1
      repeat' first
      | (with_reducible exact ih0 _ _ _ _)
      | (with_reducible exact ih1 _ _ _ _ _)
      | (with_reducible exact ih2 _ _ _ _ _ _ _ _)
      | (with_reducible exact ostiaryref1_Cut.mono _ _ _)
      | (with_reducible exact ostiaryref1_Words.mono _ _)
      | (with_reducible exact LeO.refl _)
      | (with_reducible exact LeO.none _)
      | (with_reducible refine LeO.ite ?_ ?_)
      | (with_reducible refine LeO.bind ?_ (fun _ => ?_))
      | exact ih0 _ _ _ _
      | exact ih1 _ _ _ _ _
      | exact ih2 _ _ _ _ _ _ _ _
      | exact ostiaryref1_Cut.mono _ _ _
      | exact ostiaryref1_Words.mono _ _
      | exact LeO.none _
      | refine LeO.ite ?_ ?_
      | refine LeO.bind ?_ (fun _ => ?_)
theorem ostiaryref10_Parse.mono : ∀ a0 a1 k, LeO (ostiaryref10_Parse.f k a0 a1) (ostiaryref10_Parse.f (k + 1) a0 a1) := by
  intro a0 a1 k
  obtain ⟨ih0, ih1, ih2⟩ := ostiaryref10_Parse.mono_l k
  unfold ostiaryref10_Parse.f
  repeat' first
      | (with_reducible exact ih0 _ _ _ _)
      | (with_reducible exact ih1 _ _ _ _ _)
      | (with_reducible exact ih2 _ _ _ _ _ _ _ _)
      | (with_reducible exact ostiaryref1_Cut.mono _ _ _)
      | (with_reducible exact ostiaryref1_Words.mono _ _)
      | (with_reducible exact LeO.refl _)
      | (with_reducible exact LeO.none _)
      | (with_reducible refine LeO.ite ?_ ?_)
      | (with_reducible refine LeO.bind ?_ (fun _ => ?_))
      | exact ih0 _ _ _ _
      | exact ih1 _ _ _ _ _
      | exact ih2 _ _ _ _ _ _ _ _
      | exact ostiaryref1_Cut.mono _ _ _
      | exact ostiaryref1_Words.mono _ _
      | exact LeO.none _
      | refine LeO.ite ?_ ?_
      | refine LeO.bind ?_ (fun _ => ?_)
def ostiaryref10_Parse.T15 : Bool × List (List Nat × List Nat) := (true, [([], []), ([0], [0]), ([], []), ([], []), ([3], [3]), ([2, 4], [2, 4]), ([5], [5]), ([1, 6], [1, 6]), ([0, 1, 2, 3, 4, 5, 6, 7], []), ([8, 7, 7, 0, 1, 2, 3, 4, 5, 6, 7], [7, 8])])
def ostiaryref10_Parse.B15 : List Nat := [0, 1, 0, 0, 8, 28, 60, 127, 255, 511]
theorem ostiaryref10_Parse.tab15 : rtab .any (opsOf Tryd.f19 15) = ostiaryref10_Parse.T15 := by kernel_rfl
theorem ostiaryref10_Parse.bits15 : waitsOk ostiaryref10_Parse.T15.2 ostiaryref10_Parse.B15 = true := by kernel_rfl
set_option maxHeartbeats 8000000 in
set_option maxRecDepth 100000 in
theorem ostiaryref10_Parse.calls (k : Nat) (a0 : ByteArray) (a1 : Bool) (r1 : List (S69)) (r2 : Bool) (w : World) (h : ostiaryref10_Parse.f k a0 a1 = some (r1, r2)) :
    Calls Tryd.prog 19 #[.string a0, .bool a1] w fun e w' => ∃ v0_ : Value, e = .returned (.agg #[v0_, .bool r2]) ∧ Kd.N k69 69 w' w.heap.size (fun k_ => (w.heap.size ≤ k_)) v0_ r1 ∧ Below w.heap.size w w' := by
  have hu41 := Tryd.underlying41
  have hu69 := Tryd.underlying69
  have HB := Am (Below.refl w.heap.size w)
  have H : ((ostiaryref1_Cut.f k a0 59).bind fun t298 => (ostiaryref10_Parse.l0 k t298 0 ([] : List (S69)) a1)) = some (r1, r2) := h
  clear h
  replace H := Option.bind_eq_some_iff.mp H
  obtain ⟨t298, A30, H⟩ := H
  replace H : (ostiaryref10_Parse.l0 k t298 0 ([] : List (S69)) a1) = some (r1, r2) := H
  have A3 := Aside0.mk A30
  clear A30
  have H' := Aside0.mk H
  clear H
  go_enter Tryd.func19, Tryd.ntmps19
  go_wp2_with (first | ((with_reducible refine gate_dst (N := 4) rfl ?_); (try (refine gate_guard (by rfl) ?_; dsimp only)); refine box_event ?hg (N := 4) ?hd (cs := #[.slice none 0 0, .bool false]) (t := 41) ?hr ?_; ((case hd => rfl); (case hg => rfl); (case hr => first | (go_simp; done) | (go_simp; rfl))); intro gb296 hg w4 hbox hb; have n0_ := Am (below_step (by (repeat (first | (with_reducible first | exact HB.out | apply below_alloc | apply pw_below_drewN | apply below_drew1) | exact HB.out))) hb); have n1_ := Am (hbox); have n2_ := Am ((by rw [hg]; exact (below_size (by (repeat (first | (with_reducible first | exact HB.out | apply below_alloc | apply pw_below_drewN | apply below_drew1) | exact HB.out)))) : w.heap.size ≤ gb296)); have n3_ := Am ((by rw [hg]; exact (below_size (by (repeat (first | (with_reducible first | exact HB.out | apply below_alloc | apply pw_below_drewN | apply below_drew1) | exact HB.out)))) : w.heap.size ≤ gb296)); clear HB; have HB := n0_; have BK296 := n1_; have GW296 := n2_; have GE296 := n3_; clear n0_ n1_ n2_ n3_; clear hb hbox hg) | ((with_reducible refine gate_dst (N := 5) rfl ?_); (try (refine gate_guard (by rfl) ?_; dsimp only)); refine box_event ?hg (N := 5) ?hd (cs := #[.slice none 0 0, .bool false]) (t := 41) ?hr ?_; ((case hd => rfl); (case hg => rfl); (case hr => first | (go_simp; done) | (go_simp; rfl))); intro gb297 hg w5 hbox hb; have n0_ := Am (blk_below (g := gb296) (o := .cells #[.slice none 0 0, .bool false] 41 (0, 0)) (by (with_reducible repeat (first | refine blk_drewN ?_ _ | refine blk_drew ?_ | refine blk_alloc ?_ _)); exact BK296.out) hb); have n1_ := Am (below_step (by (repeat (first | (with_reducible first | exact HB.out | apply below_alloc | apply pw_below_drewN | apply below_drew1 | refine below_set ?_ (Aside0.out GE296)) | exact HB.out))) hb); have n2_ := Am (hbox); have n3_ := Am ((by rw [hg]; exact (below_size (by (repeat (first | (with_reducible first | exact HB.out | apply below_alloc | apply pw_below_drewN | apply below_drew1 | refine below_set ?_ (Aside0.out GE296)) | exact HB.out)))) : w.heap.size ≤ gb297)); have n4_ := Am ((by rw [hg]; exact (below_size (by (repeat (first | (with_reducible first | exact HB.out | apply below_alloc | apply pw_below_drewN | apply below_drew1 | refine below_set ?_ (Aside0.out GE296)) | exact HB.out)))) : w.heap.size ≤ gb297)); have n5_ := Am ((by rw [hg]; exact Nat.ne_of_lt (blk_lt (g := gb296) (o := .cells #[.slice none 0 0, .bool false] 41 (0, 0)) (by (with_reducible repeat (first | refine blk_drewN ?_ _ | refine blk_drew ?_ | refine blk_alloc ?_ _)); exact BK296.out)) : gb296 ≠ gb297)); have n6_ := Am ((by rw [hg]; exact Nat.ne_of_gt (blk_lt (g := gb296) (o := .cells #[.slice none 0 0, .bool false] 41 (0, 0)) (by (with_reducible repeat (first | refine blk_drewN ?_ _ | refine blk_drew ?_ | refine blk_alloc ?_ _)); exact BK296.out)) : gb297 ≠ gb296)); clear BK296; clear HB; have BK296 := n0_; have HB := n1_; have BK297 := n2_; have GW297 := n3_; have GE297 := n4_; have NB296_297 := n5_; have NB297_296 := n6_; clear n0_ n1_ n2_ n3_ n4_ n5_ n6_; clear hb hbox hg; have hnb6 := NB297_296.out; have hnc6 := NB296_297.out; have hcz7_0 : w5.cell? ⟨gb297, 0, none⟩ = some (.slice none 0 0) := (blk_cell BK297.out 0).trans rfl; have hcz7_1 : w5.cell? ⟨gb297, 1, none⟩ = some (.bool false) := (blk_cell BK297.out 1).trans rfl; have hfz7_0 := blk_frozen BK297.out 0; have hfz7_1 := blk_frozen BK297.out 1) | ((with_reducible refine gate_callee (f := 36) rfl ?_); refine goesL_ (some 15) rfl rfl Tryd.func36 (by kernel_rfl) rfl #[.string a0, .int .u8 59] rfl (by ((try simp only [List.map_toArray, List.map_cons, List.map_nil]); first | done | rfl | (simp only [List.length_drop, List.length_take]; rfl))) ?_; (with_reducible refine (ostiaryref1_Cut.calls k a0 59 t298 _ A3.out).mono ?_); rintro e w8 ⟨v299, rfl, ho0, hb⟩; refine ⟨_, rfl, ?_⟩; have n0_ := Am (Kd.R_lower (Kd.R_newM (M := fun k_ => (w.heap.size ≤ k_)) ho0 (below_size (by (repeat (first | (with_reducible first | exact HB.out | apply below_alloc | apply pw_below_drewN | apply below_drew1 | refine below_set ?_ (Aside0.out GE296) | refine below_set ?_ (Aside0.out GE297)) | exact HB.out)))) (fun k_ h_ => h_)) (below_size (by (repeat (first | (with_reducible first | exact HB.out | apply below_alloc | apply pw_below_drewN | apply below_drew1 | refine below_set ?_ (Aside0.out GE296) | refine below_set ?_ (Aside0.out GE297)) | exact HB.out))))); have n1_ := Am (blk_below (g := gb296) (o := .cells #[.slice none 0 0, .bool false] 41 (0, 0)) (by (with_reducible repeat (first | refine blk_drewN ?_ _ | refine blk_drew ?_ | refine blk_alloc ?_ _)); refine blk_far ?_ NB296_297.out _; (with_reducible repeat (first | refine blk_drewN ?_ _ | refine blk_drew ?_ | refine blk_alloc ?_ _)); refine blk_far ?_ NB296_297.out _; (with_reducible repeat (first | refine blk_drewN ?_ _ | refine blk_drew ?_ | refine blk_alloc ?_ _)); exact BK296.out) hb); have n2_ := Am (blk_below (g := gb297) (o := .cells #[.slice none 0 0, .bool a1] 41 (0, 0)) (by (with_reducible repeat (first | refine blk_drewN ?_ _ | refine blk_drew ?_ | refine blk_alloc ?_ _)); refine blk_put (cs := #[.slice none 0 0, .bool false]) ?_ 1 _ rfl; (with_reducible repeat (first | refine blk_drewN ?_ _ | refine blk_drew ?_ | refine blk_alloc ?_ _)); refine blk_put (cs := #[.slice none 0 0, .bool false]) ?_ 0 _ rfl; (with_reducible repeat (first | refine blk_drewN ?_ _ | refine blk_drew ?_ | refine blk_alloc ?_ _)); exact BK297.out) hb); have n3_ := Am (below_step (by (repeat (first | (with_reducible first | exact HB.out | apply below_alloc | apply pw_below_drewN | apply below_drew1 | refine below_set ?_ (Aside0.out GE296) | refine below_set ?_ (Aside0.out GE297)) | exact HB.out))) hb); clear BK296; clear BK297; clear HB; have HO300 := n0_; have BK296 := n1_; have BK297 := n2_; have HB := n3_; clear n0_ n1_ n2_ n3_; ((try clear hb); (try clear hb2); (try clear hk); (try clear hi); (try clear ho0))))
  go_loopg [7] k (fun kq v7 w' => ∃ (x7_1 : Int) (x298000_1 : List (S69)) (u298000 : Value), v7 = .int .i64 x7_1 ∧ Aside0 (ostiaryref10_Parse.l0 kq t298 x7_1 x298000_1 a1 = some (r1, r2)) ∧ Aside0 (kq ≤ k) ∧ Aside0 (Kd.R Kd.string 9 w' w.heap.size (fun k_ => (w.heap.size ≤ k_)) v299 t298) ∧ Aside0 (Kd.N k69 69 w' w.heap.size (fun k_ => (w.heap.size ≤ k_) ∧ some k_ ≠ (v299 : Value).ownBlock ∧ k_ ≠ gb296 ∧ k_ ≠ gb297) u298000 x298000_1) ∧ Aside0 (w'.heap[gb296]? = some (.cells #[(.slice none 0 0), .bool false] 41 (0, 0))) ∧ Aside0 (w'.heap[gb297]? = some (.cells #[u298000, .bool a1] 41 (0, 0))) ∧ Aside0 (Below w.heap.size w w'))
  case atStart => exact ⟨(0), (([] : List (S69))), (.slice none 0 0), (by first | rfl | (simp; done) | (simp [*]; done)), H', ⟨Nat.le_refl _⟩, ⟨by (with_reducible repeat (first | apply Kd.R_alloc | apply Kd.R_drewN | apply Kd.R_drew)); exact Kd.R_mono HO300.out (fun _ hk => hk.1)⟩, ⟨by first | exact Kd.S_nil _ _ _ _ _ | exact Kd.N_nil _ _ _ _ _ | exact Kd.V_nil _ _ _ _ _ | exact Kd.Q_nil _ _ _ _ _ | exact Kd.R_nil _ _ _ _ _⟩, ⟨by (with_reducible repeat (first | refine blk_drewN ?_ _ | refine blk_drew ?_ | refine blk_alloc ?_ _)); exact BK296.out⟩, ⟨by (with_reducible repeat (first | refine blk_drewN ?_ _ | refine blk_drew ?_ | refine blk_alloc ?_ _)); exact BK297.out⟩, ⟨by (repeat (first | (with_reducible first | exact HB.out | apply below_alloc | apply pw_below_drewN | apply below_drew1 | refine below_set ?_ (Aside0.out GE296) | refine below_set ?_ (Aside0.out GE297)) | exact HB.out))⟩⟩
  case round =>
    clear H'
    try clear c1
    try clear p2
    try clear c3
    try clear c6
    try clear hcz7_0
    try clear hcz7_1
    try clear hfz7_0
    try clear hfz7_1
    obtain ⟨x7_1, x298000_1, u298000, rfl, HA, HK1, HO_6, HO_298000, BK296, BK297, HB⟩ := hrel
    cases gk with
    | zero => exact absurd HA.out (by simp [ostiaryref10_Parse.l0])
    | succ k1 =>
      have H := HA.out
      clear HA
      simp only [ostiaryref10_Parse.l0] at H
      have HC9 := Aside0.mk H
      clear H
      go_upto_region 4 with (fail)
      go_cut [25] (fun v25 wc => ∃ (kq : Nat) (x25_8 : Bool), v25 = .bool x25_8 ∧ Aside0 (ostiaryref10_Parse.j1 kq t298 x7_1 x25_8 x298000_1 a1 = some (r1, r2)) ∧ Aside0 (kq ≤ k1) ∧ Aside0 (Kd.R Kd.string 9 wc w.heap.size (fun k_ => (w.heap.size ≤ k_)) v299 t298) ∧ Aside0 (Kd.N k69 69 wc w.heap.size (fun k_ => (w.heap.size ≤ k_) ∧ some k_ ≠ (v299 : Value).ownBlock ∧ k_ ≠ gb296 ∧ k_ ≠ gb297) u298000 x298000_1) ∧ Aside0 (wc.heap[gb296]? = some (.cells #[(.slice none 0 0), .bool false] 41 (0, 0))) ∧ Aside0 (wc.heap[gb297]? = some (.cells #[u298000, .bool a1] 41 (0, 0))) ∧ Aside0 (Below w.heap.size w wc))
      case first =>
        have H := HC9.out
        clear HC9
        by_cases c10 : x7_1 < (t298.length : Int)
        · rw [if_pos c10] at H
          have c10b0 : decide (x7_1 < (t298.length : Int)) = true := decide_eq_true c10
          clear c10
          (first | rw [c10b0] | (simp only [i64_w, i32_w]; rw [c10b0]) | skip)
          have H' := Aside0.mk H
          clear H
          obtain ⟨Ao11, co11, eo11⟩ := Kd.R_slice HO_6.out
          subst eo11
          have hnb12 := NB297_296.out
          have hnc12 := NB296_297.out
          have hcz13_0 : wr.cell? ⟨gb297, 0, none⟩ = some (u298000) := (blk_cell BK297.out 0).trans rfl
          have hcz13_1 : wr.cell? ⟨gb297, 1, none⟩ = some (.bool a1) := (blk_cell BK297.out 1).trans rfl
          have hfz13_0 := blk_frozen BK297.out 0
          have hfz13_1 := blk_frozen BK297.out 1
          obtain ⟨Ao14, co14, eo14⟩ := Kd.N_slice HO_298000.out
          subst eo14
          go_wp2
          go_meet
          case rel => exact ⟨_, (decide ((x298000_1.length : Int) < 32)), (by first | rfl | (simp; done) | (simp [*]; done)), H', ⟨by have := HK1.out; first | omega | exact Nat.le_refl _⟩, ⟨by (with_reducible repeat (first | apply Kd.R_alloc | apply Kd.R_drewN | apply Kd.R_drew)); exact HO_6.out⟩, ⟨by (with_reducible repeat (first | apply Kd.N_alloc | apply Kd.N_drewN | apply Kd.N_drew)); exact HO_298000.out⟩, ⟨by (with_reducible repeat (first | refine blk_drewN ?_ _ | refine blk_drew ?_ | refine blk_alloc ?_ _)); exact BK296.out⟩, ⟨by (with_reducible repeat (first | refine blk_drewN ?_ _ | refine blk_drew ?_ | refine blk_alloc ?_ _)); exact BK297.out⟩, ⟨by (repeat (first | (with_reducible first | exact HB.out | apply below_alloc | apply pw_below_drewN | apply below_drew1 | refine below_set ?_ (Aside0.out GE296) | refine below_set ?_ (Aside0.out GE297)) | exact HB.out))⟩⟩
        · rw [if_neg c10] at H
          have c10b0 : decide (x7_1 < (t298.length : Int)) = false := decide_eq_false c10
          clear c10
          (first | rw [c10b0] | (simp only [i64_w, i32_w]; rw [c10b0]) | skip)
          have H' := Aside0.mk H
          clear H
          obtain ⟨Ao15, co15, eo15⟩ := Kd.R_slice HO_6.out
          subst eo15
          go_wp2
          go_meet
          case rel => exact ⟨_, (false), (by first | rfl | (simp; done) | (simp [*]; done)), H', ⟨by have := HK1.out; first | omega | exact Nat.le_refl _⟩, ⟨by (with_reducible repeat (first | apply Kd.R_alloc | apply Kd.R_drewN | apply Kd.R_drew)); exact HO_6.out⟩, ⟨by (with_reducible repeat (first | apply Kd.N_alloc | apply Kd.N_drewN | apply Kd.N_drew)); exact HO_298000.out⟩, ⟨by (with_reducible repeat (first | refine blk_drewN ?_ _ | refine blk_drew ?_ | refine blk_alloc ?_ _)); exact BK296.out⟩, ⟨by (with_reducible repeat (first | refine blk_drewN ?_ _ | refine blk_drew ?_ | refine blk_alloc ?_ _)); exact BK297.out⟩, ⟨by (repeat (first | (with_reducible first | exact HB.out | apply below_alloc | apply pw_below_drewN | apply below_drew1 | refine below_set ?_ (Aside0.out GE296) | refine below_set ?_ (Aside0.out GE297)) | exact HB.out))⟩⟩
      case rest =>
        clear HC9
        try clear c1
        try clear p2
        try clear c3
        try clear c6
        try clear c10
        try clear c10b0
        try clear c12
        try clear hcz13_0
        try clear hcz13_1
        try clear hcz7_0
        try clear hcz7_1
        try clear hfz13_0
        try clear hfz13_1
        try clear hfz7_0
        try clear hfz7_1
        try clear p2
        obtain ⟨kq, x25_8, rfl, HA, HJ8, HO_6, HO_298000, BK296, BK297, HB⟩ := hcut
        cases kq with
        | zero => exact absurd HA.out (by simp [ostiaryref10_Parse.j1])
        | succ kj8 =>
          have H := HA.out
          clear HA
          simp only [ostiaryref10_Parse.j1] at H
          by_cases c16 : x25_8 = true
          · subst c16
            have H1 : (if 0 ≤ x7_1 then (if x7_1 < (t298.length : Int) then ((ostiaryref1_Words.f kj8 (rdOf ByteArray.empty t298 x7_1)).bind fun t302 => (if (t302.length : Int) = 0 then (ostiaryref10_Parse.l0 kj8 t298 (wrap64 (x7_1 + 1)) x298000_1 a1) else (if 0 < (t302.length : Int) then ((ostiaryref1_Lower.f (rdOf ByteArray.empty t302 0)).bind fun t306 => (ostiaryref10_Parse.l1 kj8 t298 x7_1 t302 t306 false 0 x298000_1 a1)) else (none)))) else (none)) else (none)) = some (r1, r2) := by rw [if_pos rfl] at H; exact H
            clear H
            have H := H1
            clear H1
            by_cases c17 : 0 ≤ x7_1
            · rw [if_pos c17] at H
              have c17b0 : decide (0 ≤ x7_1) = true := decide_eq_true c17
              clear c17
              by_cases c18 : x7_1 < (t298.length : Int)
              · rw [if_pos c18] at H
                have c18b0 : decide (x7_1 < (t298.length : Int)) = true := decide_eq_true c18
                clear c18
                replace H := Option.bind_eq_some_iff.mp H
                obtain ⟨t302, A190, H⟩ := H
                replace H : (if (t302.length : Int) = 0 then (ostiaryref10_Parse.l0 kj8 t298 (wrap64 (x7_1 + 1)) x298000_1 a1) else (if 0 < (t302.length : Int) then ((ostiaryref1_Lower.f (rdOf ByteArray.empty t302 0)).bind fun t306 => (ostiaryref10_Parse.l1 kj8 t298 x7_1 t302 t306 false 0 x298000_1 a1)) else (none))) = some (r1, r2) := H
                have A19 := Aside0.mk A190
                clear A190
                by_cases c20 : (t302.length : Int) = 0
                · rw [if_pos c20] at H
                  have c20b0 : ((t302.length : Int) == 0) = true := beq_iff_eq.mpr c20
                  have c20b1 : ((t302.length : Int) != 0) = false := bne_eq_false_iff_eq.mpr c20
                  clear c20
                  have H' := Aside0.mk H
                  clear H
                  obtain ⟨Ao21, co21, eo21⟩ := Kd.R_slice HO_6.out
                  subst eo21
                  have p301 : 0 ≤ (x7_1 : Int) := of_decide_eq_true (by first | (with_reducible assumption) | assumption)
                  have q301 : x7_1 < (t298.length : Int) := of_decide_eq_true (by first | (with_reducible assumption) | assumption)
                  obtain ⟨ad301, e301, hx301_0⟩ := Kd.at_string (Kd.R_reads' HO_6.out).2.2 x7_1 p301 q301
                  cases e301
                  replace p301 := eq_true p301
                  replace q301 := eq_true q301
                  go_wp2_with (first | ((with_reducible refine gate_callee (f := 37) rfl ?_); refine goesL_ (some 32) rfl rfl Tryd.func37 (by kernel_rfl) rfl #[.string (rdOf ByteArray.empty t298 x7_1)] rfl (by ((try simp only [List.map_toArray, List.map_cons, List.map_nil]); first | done | rfl | (simp only [List.length_drop, List.length_take]; rfl))) ?_; (with_reducible refine (ostiaryref1_Words.calls kj8 (rdOf ByteArray.empty t298 x7_1) t302 _ A19.out).mono ?_); rintro e w22 ⟨v303, rfl, ho0, hb⟩; refine ⟨_, rfl, ?_⟩; have n0_ := Am (Kd.R_elder' (by (with_reducible repeat (first | apply Kd.R_alloc | apply Kd.R_drewN | apply Kd.R_drew)); exact HO_6.out) (Kd.R_base ho0) hb); have n1_ := Am (Kd.N_elder' (by (with_reducible repeat (first | apply Kd.N_alloc | apply Kd.N_drewN | apply Kd.N_drew)); exact HO_298000.out) (Kd.R_base ho0) hb); have n2_ := Am (Kd.R_lower (Kd.R_new' (Kd.R_newM (M := fun k_ => (w.heap.size ≤ k_)) ho0 (below_size (by (repeat (first | (with_reducible first | exact HB.out | apply below_alloc | apply pw_below_drewN | apply below_drew1 | refine below_set ?_ (Aside0.out GE296) | refine below_set ?_ (Aside0.out GE297)) | exact HB.out)))) (fun k_ h_ => h_)) (Kd.R_lt (by (with_reducible repeat (first | apply Kd.R_alloc | apply Kd.R_drewN | apply Kd.R_drew)); exact HO_6.out))) (below_size (by (repeat (first | (with_reducible first | exact HB.out | apply below_alloc | apply pw_below_drewN | apply below_drew1 | refine below_set ?_ (Aside0.out GE296) | refine below_set ?_ (Aside0.out GE297)) | exact HB.out))))); have n3_ := Am (blk_below (g := gb296) (o := .cells #[.slice none 0 0, .bool false] 41 (0, 0)) (by (with_reducible repeat (first | refine blk_drewN ?_ _ | refine blk_drew ?_ | refine blk_alloc ?_ _)); exact BK296.out) hb); have n4_ := Am (blk_below (g := gb297) (o := .cells #[u298000, .bool a1] 41 (0, 0)) (by (with_reducible repeat (first | refine blk_drewN ?_ _ | refine blk_drew ?_ | refine blk_alloc ?_ _)); exact BK297.out) hb); have n5_ := Am (below_step (by (repeat (first | (with_reducible first | exact HB.out | apply below_alloc | apply pw_below_drewN | apply below_drew1 | refine below_set ?_ (Aside0.out GE296) | refine below_set ?_ (Aside0.out GE297)) | exact HB.out))) hb); clear HO_6; clear HO_298000; clear BK296; clear BK297; clear HB; have HO_6 := n0_; have HO_298000 := n1_; have HO304 := n2_; have BK296 := n3_; have BK297 := n4_; have HB := n5_; clear n0_ n1_ n2_ n3_ n4_ n5_; ((try clear hb); (try clear hb2); (try clear hk); (try clear hi); (try clear ho0)); obtain ⟨Ao23, co23, eo23⟩ := Kd.R_slice HO304.out; subst eo23))
                  go_roundg kj8
                  case measure => have := HK1.out; have := HJ8.out; omega
                  case rel => exact ⟨(wrap64 (x7_1 + 1)), (x298000_1), (u298000), (by first | rfl | (simp; done) | (simp [*]; done)), H', ⟨by have := HK1.out; have := HJ8.out; omega⟩, ⟨by (with_reducible repeat (first | apply Kd.R_alloc | apply Kd.R_drewN | apply Kd.R_drew)); exact Kd.R_mono HO_6.out (fun _ hk => hk.1)⟩, ⟨by (with_reducible repeat (first | apply Kd.N_alloc | apply Kd.N_drewN | apply Kd.N_drew)); exact Kd.N_mono HO_298000.out (fun _ hk => ⟨hk.1.1, ⟨hk.1.2.1, ⟨hk.1.2.2.1, hk.1.2.2.2⟩⟩⟩)⟩, ⟨by (with_reducible repeat (first | refine blk_drewN ?_ _ | refine blk_drew ?_ | refine blk_alloc ?_ _)); exact BK296.out⟩, ⟨by (with_reducible repeat (first | refine blk_drewN ?_ _ | refine blk_drew ?_ | refine blk_alloc ?_ _)); exact BK297.out⟩, ⟨by (repeat (first | (with_reducible first | exact HB.out | apply below_alloc | apply pw_below_drewN | apply below_drew1 | refine below_set ?_ (Aside0.out GE296) | refine below_set ?_ (Aside0.out GE297)) | exact HB.out))⟩⟩
                · rw [if_neg c20] at H
                  have c20b0 : ((t302.length : Int) == 0) = false := beq_eq_false_iff_ne.mpr c20
                  have c20b1 : ((t302.length : Int) != 0) = true := bne_iff_ne.mpr c20
                  have c20b2 : ¬ (t302 = []) := fun h_ => c20 (by rw [h_]; rfl)
                  by_cases c24 : 0 < (t302.length : Int)
                  · rw [if_pos c24] at H
                    have c24b0 : decide (0 < (t302.length : Int)) = true := decide_eq_true c24
                    have c24b1 : decide (0 < t302.length) = true := decide_eq_true (by omega)
                    clear c24
                    replace H := Option.bind_eq_some_iff.mp H
                    obtain ⟨t306, A250, H⟩ := H
                    replace H : (ostiaryref10_Parse.l1 kj8 t298 x7_1 t302 t306 false 0 x298000_1 a1) = some (r1, r2) := H
                    have A25 := Aside0.mk A250
                    clear A250
                    have H' := Aside0.mk H
                    clear H
                    obtain ⟨Ao26, co26, eo26⟩ := Kd.R_slice HO_6.out
                    subst eo26
                    have p301 : 0 ≤ (x7_1 : Int) := of_decide_eq_true (by first | (with_reducible assumption) | assumption)
                    have q301 : x7_1 < (t298.length : Int) := of_decide_eq_true (by first | (with_reducible assumption) | assumption)
                    obtain ⟨ad301, e301, hx301_0⟩ := Kd.at_string (Kd.R_reads' HO_6.out).2.2 x7_1 p301 q301
                    cases e301
                    replace p301 := eq_true p301
                    replace q301 := eq_true q301
                    go_wp2_with (first | ((with_reducible refine gate_callee (f := 37) rfl ?_); refine goesL_ (some 32) rfl rfl Tryd.func37 (by kernel_rfl) rfl #[.string (rdOf ByteArray.empty t298 x7_1)] rfl (by ((try simp only [List.map_toArray, List.map_cons, List.map_nil]); first | done | rfl | (simp only [List.length_drop, List.length_take]; rfl))) ?_; (with_reducible refine (ostiaryref1_Words.calls kj8 (rdOf ByteArray.empty t298 x7_1) t302 _ A19.out).mono ?_); rintro e w27 ⟨v303, rfl, ho0, hb⟩; refine ⟨_, rfl, ?_⟩; have n0_ := Am (Kd.R_elder' (by (with_reducible repeat (first | apply Kd.R_alloc | apply Kd.R_drewN | apply Kd.R_drew)); exact HO_6.out) (Kd.R_base ho0) hb); have n1_ := Am (Kd.N_elder' (by (with_reducible repeat (first | apply Kd.N_alloc | apply Kd.N_drewN | apply Kd.N_drew)); exact HO_298000.out) (Kd.R_base ho0) hb); have n2_ := Am (Kd.R_lower (Kd.R_new' (Kd.R_newM (M := fun k_ => (w.heap.size ≤ k_)) ho0 (below_size (by (repeat (first | (with_reducible first | exact HB.out | apply below_alloc | apply pw_below_drewN | apply below_drew1 | refine below_set ?_ (Aside0.out GE296) | refine below_set ?_ (Aside0.out GE297)) | exact HB.out)))) (fun k_ h_ => h_)) (Kd.R_lt (by (with_reducible repeat (first | apply Kd.R_alloc | apply Kd.R_drewN | apply Kd.R_drew)); exact HO_6.out))) (below_size (by (repeat (first | (with_reducible first | exact HB.out | apply below_alloc | apply pw_below_drewN | apply below_drew1 | refine below_set ?_ (Aside0.out GE296) | refine below_set ?_ (Aside0.out GE297)) | exact HB.out))))); have n3_ := Am (blk_below (g := gb296) (o := .cells #[.slice none 0 0, .bool false] 41 (0, 0)) (by (with_reducible repeat (first | refine blk_drewN ?_ _ | refine blk_drew ?_ | refine blk_alloc ?_ _)); exact BK296.out) hb); have n4_ := Am (blk_below (g := gb297) (o := .cells #[u298000, .bool a1] 41 (0, 0)) (by (with_reducible repeat (first | refine blk_drewN ?_ _ | refine blk_drew ?_ | refine blk_alloc ?_ _)); exact BK297.out) hb); have n5_ := Am (below_step (by (repeat (first | (with_reducible first | exact HB.out | apply below_alloc | apply pw_below_drewN | apply below_drew1 | refine below_set ?_ (Aside0.out GE296) | refine below_set ?_ (Aside0.out GE297)) | exact HB.out))) hb); clear HO_6; clear HO_298000; clear BK296; clear BK297; clear HB; have HO_6 := n0_; have HO_298000 := n1_; have HO304 := n2_; have BK296 := n3_; have BK297 := n4_; have HB := n5_; clear n0_ n1_ n2_ n3_ n4_ n5_; ((try clear hb); (try clear hb2); (try clear hk); (try clear hi); (try clear ho0)); obtain ⟨Ao28, co28, eo28⟩ := Kd.R_slice HO304.out; subst eo28; have p305 : 0 ≤ (0 : Int) := (by omega); have q305 : 0 < (t302.length : Int) := of_decide_eq_true (by first | (with_reducible assumption) | assumption); obtain ⟨ad305, e305, hx305_0⟩ := Kd.at_string (Kd.R_reads' HO304.out).2.2 0 p305 q305; cases e305; have qi305 : (0 < t302.length) = True := eq_true (by omega); (try rw [show ((0 : Int)).toNat = 0 from rfl] at hx305_0); (try rw [Addr.add_zero'] at hx305_0); replace p305 := eq_true p305; replace q305 := eq_true q305) | ((with_reducible refine gate_callee (f := 38) rfl ?_); refine goesL_ (some 39) rfl rfl Tryd.func38 (by kernel_rfl) rfl #[.string (rdOf ByteArray.empty t302 0)] rfl (by ((try simp only [List.map_toArray, List.map_cons, List.map_nil]); first | done | rfl | (simp only [List.length_drop, List.length_take]; rfl))) ?_; (with_reducible refine (ostiaryref1_Lower.calls (rdOf ByteArray.empty t302 0) t306 _ A25.out).mono ?_); rintro e w29 ⟨rfl, hb⟩; refine ⟨_, rfl, ?_⟩; have n0_ := Am (Kd.R_below (by (with_reducible repeat (first | apply Kd.R_alloc | apply Kd.R_drewN | apply Kd.R_drew)); exact HO_6.out) hb); have n1_ := Am (Kd.N_below (by (with_reducible repeat (first | apply Kd.N_alloc | apply Kd.N_drewN | apply Kd.N_drew)); exact HO_298000.out) hb); have n2_ := Am (Kd.R_below (by (with_reducible repeat (first | apply Kd.R_alloc | apply Kd.R_drewN | apply Kd.R_drew)); exact HO304.out) hb); have n3_ := Am (blk_below (g := gb296) (o := .cells #[.slice none 0 0, .bool false] 41 (0, 0)) (by (with_reducible repeat (first | refine blk_drewN ?_ _ | refine blk_drew ?_ | refine blk_alloc ?_ _)); exact BK296.out) hb); have n4_ := Am (blk_below (g := gb297) (o := .cells #[u298000, .bool a1] 41 (0, 0)) (by (with_reducible repeat (first | refine blk_drewN ?_ _ | refine blk_drew ?_ | refine blk_alloc ?_ _)); exact BK297.out) hb); have n5_ := Am (below_step (by (repeat (first | (with_reducible first | exact HB.out | apply below_alloc | apply pw_below_drewN | apply below_drew1 | refine below_set ?_ (Aside0.out GE296) | refine below_set ?_ (Aside0.out GE297)) | exact HB.out))) hb); clear HO_6; clear HO_298000; clear HO304; clear BK296; clear BK297; clear HB; have HO_6 := n0_; have HO_298000 := n1_; have HO304 := n2_; have BK296 := n3_; have BK297 := n4_; have HB := n5_; clear n0_ n1_ n2_ n3_ n4_ n5_; (try clear hb); (try clear hb2); (try clear hk); (try clear hi)))
                    go_loopg [10, 11] kj8 (fun kq v10 v11 w' => ∃ (x10_3 : Bool) (x11_3 : Int), v10 = .bool x10_3 ∧ v11 = .int .i64 x11_3 ∧ Aside0 (ostiaryref10_Parse.l1 kq t298 x7_1 t302 t306 x10_3 x11_3 x298000_1 a1 = some (r1, r2)) ∧ Aside0 (kq ≤ kj8) ∧ Aside0 (Kd.R Kd.string 9 w' w.heap.size (fun k_ => (w.heap.size ≤ k_) ∧ some k_ ≠ ((.slice (some ad305) t302.length co28) : Value).ownBlock) (.slice (some ad301) t298.length co26) t298) ∧ Aside0 (Kd.R Kd.string 9 w' w.heap.size (fun k_ => (w.heap.size ≤ k_) ∧ some k_ ≠ ((.slice (some ad301) t298.length co26) : Value).ownBlock) (.slice (some ad305) t302.length co28) t302) ∧ Aside0 (Kd.N k69 69 w' w.heap.size (fun k_ => (w.heap.size ≤ k_) ∧ some k_ ≠ ((.slice (some ad301) t298.length co26) : Value).ownBlock ∧ some k_ ≠ ((.slice (some ad305) t302.length co28) : Value).ownBlock ∧ k_ ≠ gb296 ∧ k_ ≠ gb297) u298000 x298000_1) ∧ Aside0 (w'.heap[gb296]? = some (.cells #[(.slice none 0 0), .bool false] 41 (0, 0))) ∧ Aside0 (w'.heap[gb297]? = some (.cells #[u298000, .bool a1] 41 (0, 0))) ∧ Aside0 (Below w.heap.size w w'))
                    case atStart => exact ⟨(false), (0), (by first | rfl | (simp; done) | (simp [*]; done)), (by first | rfl | (simp; done) | (simp [*]; done)), H', ⟨Nat.le_refl _⟩, ⟨by (with_reducible repeat (first | apply Kd.R_alloc | apply Kd.R_drewN | apply Kd.R_drew)); exact HO_6.out⟩, ⟨by (with_reducible repeat (first | apply Kd.R_alloc | apply Kd.R_drewN | apply Kd.R_drew)); exact Kd.R_mono HO304.out (fun _ hk => ⟨hk.1.1, hk.2⟩)⟩, ⟨by (with_reducible repeat (first | apply Kd.N_alloc | apply Kd.N_drewN | apply Kd.N_drew)); exact Kd.N_mono HO_298000.out (fun _ hk => ⟨hk.1.1, ⟨hk.1.2.1, ⟨hk.2, ⟨hk.1.2.2.1, hk.1.2.2.2⟩⟩⟩⟩)⟩, ⟨by (with_reducible repeat (first | refine blk_drewN ?_ _ | refine blk_drew ?_ | refine blk_alloc ?_ _)); exact BK296.out⟩, ⟨by (with_reducible repeat (first | refine blk_drewN ?_ _ | refine blk_drew ?_ | refine blk_alloc ?_ _)); exact BK297.out⟩, ⟨by (repeat (first | (with_reducible first | exact HB.out | apply below_alloc | apply pw_below_drewN | apply below_drew1 | refine below_set ?_ (Aside0.out GE296) | refine below_set ?_ (Aside0.out GE297)) | exact HB.out))⟩⟩
                    case round =>
                      clear H'
                      try clear c1
                      try clear c2
                      try clear p2
                      try clear c3
                      try clear p3
                      try clear q3
                      try clear hx3
                      try clear qi3
                      try clear c6
                      try clear p6
                      try clear c10
                      try clear c10b0
                      try clear c12
                      try clear c16
                      try clear c17
                      try clear c17b0
                      try clear c18
                      try clear c18b0
                      try clear c19
                      try clear c20
                      try clear c20b0
                      try clear c20b1
                      try clear c20b2
                      try clear c24
                      try clear c24b0
                      try clear c24b1
                      try clear hcz13_0
                      try clear hcz13_1
                      try clear hcz7_0
                      try clear hcz7_1
                      try clear hfz13_0
                      try clear hfz13_1
                      try clear hfz7_0
                      try clear hfz7_1
                      try clear hx301_0
                      try clear hx305_0
                      try clear p2
                      try clear p301
                      try clear p305
                      try clear q301
                      try clear q305
                      obtain ⟨x10_3, x11_3, rfl, rfl, HA, HK3, HO_6, HO_8, HO_298000, BK296, BK297, HB⟩ := hrel
                      cases gk with
                      | zero => exact absurd HA.out (by simp [ostiaryref10_Parse.l1])
                      | succ k3 =>
                        have H := HA.out
                        clear HA
                        simp only [ostiaryref10_Parse.l1] at H
                        by_cases c30 : x11_3 < (x298000_1.length : Int)
                        · rw [if_pos c30] at H
                          have c30b0 : decide (x11_3 < (x298000_1.length : Int)) = true := decide_eq_true c30
                          clear c30
                          by_cases c31 : x10_3 = true
                          · subst c31
                            have H1 : (ostiaryref10_Parse.l1 k3 t298 x7_1 t302 t306 true (wrap64 (x11_3 + 1)) x298000_1 a1) = some (r1, r2) := by rw [if_pos rfl] at H; exact H
                            clear H
                            have H := H1
                            clear H1
                            have H' := Aside0.mk H
                            clear H
                            have hnb32 := NB297_296.out
                            have hnc32 := NB296_297.out
                            have hcz33_0 : wr.cell? ⟨gb297, 0, none⟩ = some (u298000) := (blk_cell BK297.out 0).trans rfl
                            have hcz33_1 : wr.cell? ⟨gb297, 1, none⟩ = some (.bool a1) := (blk_cell BK297.out 1).trans rfl
                            have hfz33_0 := blk_frozen BK297.out 0
                            have hfz33_1 := blk_frozen BK297.out 1
                            obtain ⟨Ao34, co34, eo34⟩ := Kd.N_slice HO_298000.out
                            subst eo34
                            go_wp2
                            go_roundg k3
                            case measure => have := HK1.out; have := HJ8.out; have := HK3.out; omega
                            case rel => exact ⟨(true), (wrap64 (x11_3 + 1)), (by first | rfl | (simp; done) | (simp [*]; done)), (by first | rfl | (simp; done) | (simp [*]; done)), H', ⟨by have := HK1.out; have := HJ8.out; have := HK3.out; omega⟩, ⟨by (with_reducible repeat (first | apply Kd.R_alloc | apply Kd.R_drewN | apply Kd.R_drew)); exact HO_6.out⟩, ⟨by (with_reducible repeat (first | apply Kd.R_alloc | apply Kd.R_drewN | apply Kd.R_drew)); exact HO_8.out⟩, ⟨by (with_reducible repeat (first | apply Kd.N_alloc | apply Kd.N_drewN | apply Kd.N_drew)); exact HO_298000.out⟩, ⟨by (with_reducible repeat (first | refine blk_drewN ?_ _ | refine blk_drew ?_ | refine blk_alloc ?_ _)); exact BK296.out⟩, ⟨by (with_reducible repeat (first | refine blk_drewN ?_ _ | refine blk_drew ?_ | refine blk_alloc ?_ _)); exact BK297.out⟩, ⟨by (repeat (first | (with_reducible first | exact HB.out | apply below_alloc | apply pw_below_drewN | apply below_drew1 | refine below_set ?_ (Aside0.out GE296) | refine below_set ?_ (Aside0.out GE297)) | exact HB.out))⟩⟩
                          · replace c31 := Bool.eq_false_iff.mpr c31
                            subst c31
                            have H1 : (if 0 ≤ x11_3 then (ostiaryref10_Parse.l1 k3 t298 x7_1 t302 t306 (((rd_T69 x298000_1 x11_3).f0).toList == t306.toList) (wrap64 (x11_3 + 1)) x298000_1 a1) else (none)) = some (r1, r2) := by rw [if_neg (show ¬ (false = true) by decide)] at H; exact H
                            clear H
                            have H := H1
                            clear H1
                            by_cases c35 : 0 ≤ x11_3
                            · rw [if_pos c35] at H
                              have c35b0 : decide (0 ≤ x11_3) = true := decide_eq_true c35
                              clear c35
                              have H' := Aside0.mk H
                              clear H
                              have hnb36 := NB297_296.out
                              have hnc36 := NB296_297.out
                              have hcz37_0 : wr.cell? ⟨gb297, 0, none⟩ = some (u298000) := (blk_cell BK297.out 0).trans rfl
                              have hcz37_1 : wr.cell? ⟨gb297, 1, none⟩ = some (.bool a1) := (blk_cell BK297.out 1).trans rfl
                              have hfz37_0 := blk_frozen BK297.out 0
                              have hfz37_1 := blk_frozen BK297.out 1
                              obtain ⟨Ao38, co38, eo38⟩ := Kd.N_slice HO_298000.out
                              subst eo38
                              have p307 : 0 ≤ (x11_3 : Int) := of_decide_eq_true (by first | (with_reducible assumption) | assumption)
                              have q307 : x11_3 < (x298000_1.length : Int) := of_decide_eq_true (by first | (with_reducible assumption) | assumption)
                              obtain ⟨ad307, A307_1, c307_1, e307, hx307_0, hx307_1, hl307_1, hi307_1⟩ := at_T69 (Kd.N_reads' HO_298000.out).2.2 x11_3 p307 q307
                              cases e307
                              obtain ⟨ce307, hce307, hMe307, hcc307⟩ := Kd.N_get HO_298000.out z69 x11_3 p307 (by first | exact q307 | exact of_decide_eq_true (by first | (with_reducible assumption) | assumption) | (have e_ := (Kd.N_reads' HO_298000.out).1; omega))
                              obtain ⟨ua307_1, uc307_1, rfl, ul307_1, ge307_1⟩ := k69_openF hMe307
                              have hv307_1 := hcc307 1 _ rfl
                              rw [add_field _ _ 1 (by omega)] at hv307_1
                              replace hv307_1 := Option.some.inj (hv307_1.symm.trans hx307_1)
                              injection hv307_1 with hva_ hvn_ hvc_
                              rw [hva_] at ge307_1
                              rw [hvc_] at ul307_1
                              have HL307_1 := Am (show Kd.V Kd.string 9 _ w.heap.size _ _ ((rd_T69 x298000_1 x11_3).f1) from Kd.V_mk ul307_1 ge307_1)
                              clear hva_ hvn_ hvc_ ge307_1 ul307_1
                              clear hcc307 hce307
                              have HR307_1 := Aside0.mk hi307_1
                              have HC307_1 := Aside0.mk hl307_1
                              clear hi307_1 hl307_1
                              replace p307 := eq_true p307
                              replace q307 := eq_true q307
                              go_wp2
                              go_roundg k3
                              case measure => have := HK1.out; have := HJ8.out; have := HK3.out; omega
                              case rel => exact ⟨((((rd_T69 x298000_1 x11_3).f0).toList == t306.toList)), (wrap64 (x11_3 + 1)), (by first | rfl | (simp; done) | (simp [*]; done)), (by first | rfl | (simp; done) | (simp [*]; done)), H', ⟨by have := HK1.out; have := HJ8.out; have := HK3.out; omega⟩, ⟨by (with_reducible repeat (first | apply Kd.R_alloc | apply Kd.R_drewN | apply Kd.R_drew)); exact HO_6.out⟩, ⟨by (with_reducible repeat (first | apply Kd.R_alloc | apply Kd.R_drewN | apply Kd.R_drew)); exact HO_8.out⟩, ⟨by (with_reducible repeat (first | apply Kd.N_alloc | apply Kd.N_drewN | apply Kd.N_drew)); exact HO_298000.out⟩, ⟨by (with_reducible repeat (first | refine blk_drewN ?_ _ | refine blk_drew ?_ | refine blk_alloc ?_ _)); exact BK296.out⟩, ⟨by (with_reducible repeat (first | refine blk_drewN ?_ _ | refine blk_drew ?_ | refine blk_alloc ?_ _)); exact BK297.out⟩, ⟨by (repeat (first | (with_reducible first | exact HB.out | apply below_alloc | apply pw_below_drewN | apply below_drew1 | refine below_set ?_ (Aside0.out GE296) | refine below_set ?_ (Aside0.out GE297)) | exact HB.out))⟩⟩
                            · rw [if_neg c35] at H
                              exact absurd H (by simp)
                        · rw [if_neg c30] at H
                          have c30b0 : decide (x11_3 < (x298000_1.length : Int)) = false := decide_eq_false c30
                          clear c30
                          by_cases c39 : x10_3 = true
                          · subst c39
                            have H1 : (ostiaryref10_Parse.l0 k3 t298 (wrap64 (x7_1 + 1)) x298000_1 a1) = some (r1, r2) := by rw [if_pos rfl] at H; exact H
                            clear H
                            have H := H1
                            clear H1
                            have H' := Aside0.mk H
                            clear H
                            have hnb40 := NB297_296.out
                            have hnc40 := NB296_297.out
                            have hcz41_0 : wr.cell? ⟨gb297, 0, none⟩ = some (u298000) := (blk_cell BK297.out 0).trans rfl
                            have hcz41_1 : wr.cell? ⟨gb297, 1, none⟩ = some (.bool a1) := (blk_cell BK297.out 1).trans rfl
                            have hfz41_0 := blk_frozen BK297.out 0
                            have hfz41_1 := blk_frozen BK297.out 1
                            obtain ⟨Ao42, co42, eo42⟩ := Kd.N_slice HO_298000.out
                            subst eo42
                            go_wp2
                            go_roundg k3
                            case measure => have := HK1.out; have := HJ8.out; have := HK3.out; omega
                            case rel => exact ⟨(wrap64 (x7_1 + 1)), (x298000_1), (.slice Ao42 x298000_1.length co42), (by first | rfl | (simp; done) | (simp [*]; done)), H', ⟨by have := HK1.out; have := HJ8.out; have := HK3.out; omega⟩, ⟨by (with_reducible repeat (first | apply Kd.R_alloc | apply Kd.R_drewN | apply Kd.R_drew)); exact Kd.R_mono HO_6.out (fun _ hk => hk.1)⟩, ⟨by (with_reducible repeat (first | apply Kd.N_alloc | apply Kd.N_drewN | apply Kd.N_drew)); exact Kd.N_mono HO_298000.out (fun _ hk => ⟨hk.1, ⟨hk.2.1, ⟨hk.2.2.2.1, hk.2.2.2.2⟩⟩⟩)⟩, ⟨by (with_reducible repeat (first | refine blk_drewN ?_ _ | refine blk_drew ?_ | refine blk_alloc ?_ _)); exact BK296.out⟩, ⟨by (with_reducible repeat (first | refine blk_drewN ?_ _ | refine blk_drew ?_ | refine blk_alloc ?_ _)); exact BK297.out⟩, ⟨by (repeat (first | (with_reducible first | exact HB.out | apply below_alloc | apply pw_below_drewN | apply below_drew1 | refine below_set ?_ (Aside0.out GE296) | refine below_set ?_ (Aside0.out GE297)) | exact HB.out))⟩⟩
                          · replace c39 := Bool.eq_false_iff.mpr c39
                            subst c39
                            have H1 : (if 1 ≤ (t302.length : Int) then (if x298000_1.length < 3518437208883 then (ostiaryref10_Parse.l0 k3 t298 (wrap64 (x7_1 + 1)) (x298000_1 ++ [(⟨t306, (t302.drop 1)⟩ : S69)]) a1) else (none)) else (none)) = some (r1, r2) := by rw [if_neg (show ¬ (false = true) by decide)] at H; exact H
                            clear H
                            have H := H1
                            clear H1
                            by_cases c43 : 1 ≤ (t302.length : Int)
                            · rw [if_pos c43] at H
                              have c43b0 := eq_true c43
                              have c43b1 : decide (1 ≤ (t302.length : Int)) = true := decide_eq_true c43
                              clear c43
                              obtain ⟨y308, hy308⟩ : ∃ y_ : List ByteArray, y_ = (t302.drop 1) := ⟨_, rfl⟩
                              replace H : (if x298000_1.length < 3518437208883 then (ostiaryref10_Parse.l0 k3 t298 (wrap64 (x7_1 + 1)) (x298000_1 ++ [(⟨t306, y308⟩ : S69)]) a1) else (none)) = some (r1, r2) := by first | (rw [hy308]; with_reducible exact H) | (have H2_ := (Option.bind_some _ _).symm.trans H; rw [hy308]; with_reducible exact H2_) | (have H2_ := (Option.bind_some _ _).symm.trans H; with_reducible exact H2_) | with_reducible exact H | (rw [hy308]; exact H) | exact H
                              have Ny308 := Aside0.mk hy308
                              clear hy308
                              by_cases c44 : x298000_1.length < 3518437208883
                              · rw [if_pos c44] at H
                                have LMc44 := Aside0.mk c44
                                clear c44
                                obtain ⟨y313, hy313⟩ : ∃ y_ : List (S69), y_ = (x298000_1 ++ [(⟨t306, y308⟩ : S69)]) := ⟨_, rfl⟩
                                replace H : (ostiaryref10_Parse.l0 k3 t298 (wrap64 (x7_1 + 1)) y313 a1) = some (r1, r2) := by first | (rw [hy313]; with_reducible exact H) | (have H2_ := (Option.bind_some _ _).symm.trans H; rw [hy313]; with_reducible exact H2_) | (have H2_ := (Option.bind_some _ _).symm.trans H; with_reducible exact H2_) | with_reducible exact H | (rw [hy313]; exact H) | exact H
                                have Ny313 := Aside0.mk hy313
                                clear hy313
                                have H' := Aside0.mk H
                                clear H
                                have hnb45 := NB297_296.out
                                have hnc45 := NB296_297.out
                                have hcz46_0 : wr.cell? ⟨gb297, 0, none⟩ = some (u298000) := (blk_cell BK297.out 0).trans rfl
                                have hcz46_1 : wr.cell? ⟨gb297, 1, none⟩ = some (.bool a1) := (blk_cell BK297.out 1).trans rfl
                                have hfz46_0 := blk_frozen BK297.out 0
                                have hfz46_1 := blk_frozen BK297.out 1
                                obtain ⟨Ao47, co47, eo47⟩ := Kd.N_slice HO_298000.out
                                subst eo47
                                try go_wp2
                                have n0_ := Am (Kd.R_drew HO_6.out)
                                have n1_ := Am (Kd.R_drew HO_8.out)
                                have n2_ := Am (Kd.N_drew HO_298000.out)
                                have n3_ := Am (blk_drew BK296.out)
                                have n4_ := Am (blk_drew BK297.out)
                                have n5_ := Am (below_drew1 HB.out)
                                clear HO_6
                                clear HO_8
                                clear HO_298000
                                clear BK296
                                clear BK297
                                clear HB
                                have HO_6 := n0_
                                have HO_8 := n1_
                                have HO_298000 := n2_
                                have BK296 := n3_
                                have BK297 := n4_
                                have HB := n5_
                                clear n0_ n1_ n2_ n3_ n4_ n5_
                                have q49 : (1 : Int) ≤ ((t302.length : Int) : Int) := of_decide_eq_true (by first | (with_reducible assumption) | assumption)
                                obtain ⟨i049, hi049, _, hsz49, _⟩ := info_parts info9
                                have hroom49 : t302.length ≤ co28 := (Kd.R_reads' HO_8.out).2.1
                                have hC49 : Kd.F Kd.string _ _ (some ad305) t302.length t302 := (Kd.V_at (base := w.heap.size) (Kd.R_V (Kd.R_types (Kd.R_types (Kd.R_apart' (HO_8.out) (Kd.N_typed HO_298000.out) (by decide)) BK296.out (by decide)) BK297.out (by decide)))).2.2
                                have hcut49 := cut_from (P := Tryd.prog) 22 9 .i64 Tryd.underlying22 hi049 1 hsz49 (some ad305) t302.length co28 1 (by omega) q49
                                have hr49 := Kd.F_cut (m := (1 : Int).toNat) (c := co28) hC49 (by omega) hroom49
                                obtain ⟨A49, hA49⟩ : ∃ A1, A1 = (if co28 = (1 : Int).toNat then (some ad305) else ((some ad305) : Option Addr).map (·.add ((1 : Int).toNat * 1))) := ⟨_, rfl⟩
                                obtain ⟨c49, hc49⟩ : ∃ c1, c1 = co28 - (1 : Int).toNat := ⟨_, rfl⟩
                                have hy49 : y308.length = t302.length - (1 : Int).toNat := (by rw [Ny308.out, List.length_drop] <;> omega)
                                rw [show (t302).drop (1 : Int).toNat = y308 from Ny308.out.symm] at hr49
                                replace hr49 : Kd.F Kd.string _ _ A49 y308.length y308 := (by rw [hA49]; exact hr49)
                                rw [← hy49, ← hA49, ← hc49] at hcut49
                                have HO312 := Am (show Kd.V Kd.string 9 _ w.heap.size _ (.slice A49 y308.length c49) y308 from Kd.V_mk (by rw [hy49, hc49]; exact Nat.sub_le_sub_right hroom49 _) hr49)
                                have HC312 := Am (show y308.length ≤ c49 from by rw [hy49, hc49]; exact Nat.sub_le_sub_right hroom49 _)
                                clear hr49 hC49 hroom49 hi049 hsz49 hc49
                                have KY49 := Aside0.mk hy49
                                have KA49 := Aside0.mk hA49
                                clear hy49 hA49
                                replace q49 := eq_true q49
                                refine start_ (n := 10) (S := fun w' => w'.cell? ⟨gb297, 0, none⟩ = some (.slice Ao47 x298000_1.length co47) ∧ w'.cell? ⟨gb297, 1, none⟩ = some (.bool a1)) (ds := [9]) #[false, false, false, false, false, false, false, false, false, false] (by kernel_rfl) rfl rfl ⟨(blk_cell BK297.out 0).trans rfl, (blk_cell BK297.out 1).trans rfl⟩ (fun hHeld => ?_); refine with_tabW ostiaryref10_Parse.tab15 ostiaryref10_Parse.bits15 (fun HT_ HW_ => ?_)
                                generalize wr.drew = w48 at HO_6 HO_8 HO_298000 BK296 BK297 HB HO312 hHeld ⊢
                                refine pure_ (i := 0) (N := some 60) (v := ?_) (a' := ?_) #[true, false, false, false, false, false, false, false, false, false] rfl rfl (any_of HT_.out (by kernel_rfl)) (fun _ _ _ h => h) (Or.inl ⟨by rfl, ?_⟩) ?_ ?_
                                rotate_left
                                · intro w'
                                  go_simp
                                  with_reducible rfl
                                rotate_left
                                · simp only [Act.put, List.setIfInBounds_toArray, List.set_cons_zero, List.set_cons_succ, i64_w, i32_w]
                                  rfl
                                refine pure_ (i := 2) (N := some 62) (v := ?_) (a' := ?_) #[true, false, true, false, false, false, false, false, false, false] rfl rfl (any_of HT_.out (by kernel_rfl)) (fun _ _ _ h => h) (Or.inl ⟨by rfl, ?_⟩) ?_ ?_
                                rotate_left
                                · intro w'
                                  go_simp
                                  with_reducible rfl
                                rotate_left
                                · simp only [Act.put, List.setIfInBounds_toArray, List.set_cons_zero, List.set_cons_succ, i64_w, i32_w]
                                  rfl
                                refine pure_ (i := 3) (N := some 63) (v := ?_) (a' := ?_) #[true, false, true, true, false, false, false, false, false, false] rfl rfl (any_of HT_.out (by kernel_rfl)) (fun _ _ _ h => h) (Or.inl ⟨by rfl, ?_⟩) ?_ ?_
                                rotate_left
                                · intro w'
                                  go_simp
                                  with_reducible rfl
                                rotate_left
                                · simp only [Act.put, List.setIfInBounds_toArray, List.set_cons_zero, List.set_cons_succ, i64_w, i32_w]
                                  rfl
                                refine pure_ (i := 4) (N := some 64) (v := ?_) (a' := ?_) #[true, false, true, true, true, false, false, false, false, false] rfl rfl (any_of HT_.out (by kernel_rfl)) (fun _ _ _ h => h) (Or.inl ⟨by rfl, ?_⟩) ?_ ?_
                                rotate_left
                                · intro w'
                                  go_simp
                                  with_reducible rfl
                                rotate_left
                                · simp only [Act.put, List.setIfInBounds_toArray, List.set_cons_zero, List.set_cons_succ, i64_w, i32_w]
                                  rfl
                                refine pure_ (i := 5) (N := some 65) (v := ?_) (a' := ?_) #[true, false, true, true, true, true, false, false, false, false] rfl rfl (any_of HT_.out (by kernel_rfl)) (fun _ _ _ h => h) (Or.inl ⟨by rfl, ?_⟩) ?_ ?_
                                rotate_left
                                · intro w'
                                  go_simp
                                  with_reducible rfl
                                rotate_left
                                · simp only [Act.put, List.setIfInBounds_toArray, List.set_cons_zero, List.set_cons_succ, i64_w, i32_w]
                                  rfl
                                refine take_ (i := 1) (N := some 61) (v := ?_) (a' := ?_) #[true, true, true, true, true, true, false, false, false, false] rfl rfl (take_ofW HT_.out HW_.out (by kernel_rfl)) (fun _ _ _ h => h) (Or.inl ⟨by rfl, ?_⟩) hHeld ?_ ?_
                                rotate_left
                                · rintro w' ⟨s0, s1⟩
                                  go_simp
                                  with_reducible rfl
                                rotate_left
                                · simp only [Act.put, List.setIfInBounds_toArray, List.set_cons_zero, List.set_cons_succ, i64_w, i32_w]
                                  rfl
                                refine one_ (i := 6) (N := some 66) #[true, true, true, true, true, true, true, false, false, false] rfl rfl (one_of HT_.out (by kernel_rfl)) (by decide) (fun K hK => ?_)
                                refine value_ (w1 := ?_) (v := ?_) (by rfl) rfl ?_ ?_
                                rotate_left 2
                                · go_simp
                                  constructor
                                  · rfl
                                  · rfl
                                refine hK.out _ _ ⟨(blk_cell (blk_alloc BK297.out _) 0).trans rfl, (blk_cell (blk_alloc BK297.out _) 1).trans rfl⟩ (fun hHeld => ?_)
                                clear hK K
                                refine norm_ (a' := ?_) ?_ ?_
                                rotate_left
                                · show Act.put _ (some 66) _ = _
                                  simp only [Act.put, List.setIfInBounds_toArray, List.set_cons_zero, List.set_cons_succ, i64_w, i32_w]
                                  rfl
                                refine one_ (i := 7) (N := some 67) #[true, true, true, true, true, true, true, true, false, false] rfl rfl (one_of HT_.out (by kernel_rfl)) (by decide) (fun K hK => ?_)
                                refine Kd.N_append_step k69 (w0 := w) w.heap.size (by rfl) (.tmp 61) (.tmp 66) 39 69 (.agg #[(.string ⟨#[]⟩), (.slice none 0 0)]) 40 rfl Tryd.underlying39 info69 rfl (by decide) (by omega) (.slice Ao47 x298000_1.length co47) x298000_1 (⟨t306, y308⟩ : S69) [.string t306, .slice A49 y308.length c49] (fun k_ => (w.heap.size ≤ k_) ∧ some k_ ≠ (.slice (some ad301) t298.length co26 : Value).ownBlock ∧ k_ ≠ gb296 ∧ k_ ≠ gb297) (fun k_ => ((fun k_ => (w.heap.size ≤ k_) ∧ some k_ ≠ (.slice (some ad301) t298.length co26 : Value).ownBlock ∧ k_ ≠ gb296 ∧ k_ ≠ gb297)) k_ ∧ some k_ ≠ (.slice Ao47 x298000_1.length co47 : Value).ownBlock) rfl rfl ?aP (fun _ hk => hk) ?aF ?aO ?aB ?aS ?aL ?_
                                (case aP => exact (k69_mkF _ _ (⟨t306, y308⟩ : S69) (Kd.V_reads' (Kd.V_mono (ok' := (fun k_ => ((fun k_ => (w.heap.size ≤ k_) ∧ some k_ ≠ (.slice (some ad301) t298.length co26 : Value).ownBlock ∧ k_ ≠ gb296 ∧ k_ ≠ gb297)) k_ ∧ some k_ ≠ (.slice Ao47 x298000_1.length co47 : Value).ownBlock)) (HO312.out) (fun k_ hk => ⟨⟨hk.1.1.1.1, ⟨hk.1.1.1.2, ⟨hk.1.2, hk.2⟩⟩⟩, hk.1.1.2⟩))).2.1 (Kd.V_F (Kd.V_mono (ok' := (fun k_ => ((fun k_ => (w.heap.size ≤ k_) ∧ some k_ ≠ (.slice (some ad301) t298.length co26 : Value).ownBlock ∧ k_ ≠ gb296 ∧ k_ ≠ gb297)) k_ ∧ some k_ ≠ (.slice Ao47 x298000_1.length co47 : Value).ownBlock)) (HO312.out) (fun k_ hk => ⟨⟨hk.1.1.1.1, ⟨hk.1.1.1.2, ⟨hk.1.2, hk.2⟩⟩⟩, hk.1.1.2⟩)))))
                                (case aB => exact (by (repeat (first | (with_reducible first | exact HB.out | apply below_alloc | apply pw_below_drewN | apply below_drew1 | refine below_set ?_ (Aside0.out GE296) | refine below_set ?_ (Aside0.out GE297)) | exact HB.out))))
                                (case aF => exact (fun k_ hk => ⟨(Nat.le_trans (below_size (by (repeat (first | (with_reducible first | exact HB.out | apply below_alloc | apply pw_below_drewN | apply below_drew1 | refine below_set ?_ (Aside0.out GE296) | refine below_set ?_ (Aside0.out GE297)) | exact HB.out)))) hk), Kd.fresh' (Kd.R_lt (by (with_reducible repeat (first | apply Kd.R_alloc | apply Kd.R_drewN | apply Kd.R_drew)); exact HO_6.out)) k_ hk, Kd.freshB (g := gb296) (o := .cells #[.slice none 0 0, .bool false] 41 (0, 0)) (by (with_reducible repeat (first | refine blk_drewN ?_ _ | refine blk_drew ?_ | refine blk_alloc ?_ _)); exact BK296.out) k_ hk, Kd.freshB (g := gb297) (o := .cells #[.slice Ao47 x298000_1.length co47, .bool a1] 41 (0, 0)) (by (with_reducible repeat (first | refine blk_drewN ?_ _ | refine blk_drew ?_ | refine blk_alloc ?_ _)); exact BK297.out) k_ hk⟩))
                                (case aO => exact (by (with_reducible repeat (first | apply Kd.N_alloc | apply Kd.N_drewN | apply Kd.N_drew)); exact Kd.N_mono HO_298000.out (fun _ hk => ⟨hk.1, ⟨hk.2.1, ⟨hk.2.2.2.1, hk.2.2.2.2⟩⟩⟩)))
                                (case aS => exact (below_size (by (repeat (first | (with_reducible first | exact HB.out | apply below_alloc | apply pw_below_drewN | apply below_drew1 | refine below_set ?_ (Aside0.out GE296) | refine below_set ?_ (Aside0.out GE297)) | exact HB.out)))))
                                (case aL => have := LMc44.out; omega)
                                intro v314 w50 ho hb hg hat
                                rw [← Ny313.out] at ho
                                have n0_ := Am (Kd.R_over' (by (with_reducible repeat (first | apply Kd.R_alloc | apply Kd.R_drewN | apply Kd.R_drew)); exact HO_6.out) (Kd.N_typed (by (with_reducible repeat (first | apply Kd.N_alloc | apply Kd.N_drewN | apply Kd.N_drew)); exact HO_298000.out)) (by decide) hg)
                                have n1_ := Am (Kd.R_over' (by (with_reducible repeat (first | apply Kd.R_alloc | apply Kd.R_drewN | apply Kd.R_drew)); exact HO_8.out) (Kd.N_typed (by (with_reducible repeat (first | apply Kd.N_alloc | apply Kd.N_drewN | apply Kd.N_drew)); exact HO_298000.out)) (by decide) hg)
                                have n2_ := Am (blk_grown (g := gb296) (o := .cells #[.slice none 0 0, .bool false] 41 (0, 0)) (by (with_reducible repeat (first | refine blk_drewN ?_ _ | refine blk_drew ?_ | refine blk_alloc ?_ _)); exact BK296.out) hg (Kd.N_ne HO_298000.out BK296.out (by decide)))
                                have n3_ := Am (blk_grown (g := gb297) (o := .cells #[.slice Ao47 x298000_1.length co47, .bool a1] 41 (0, 0)) (by (with_reducible repeat (first | refine blk_drewN ?_ _ | refine blk_drew ?_ | refine blk_alloc ?_ _)); exact BK297.out) hg (Kd.N_ne HO_298000.out BK297.out (by decide)))
                                have n4_ := Am (Kd.V_afterv (ok := (fun k_ => (w.heap.size ≤ k_) ∧ some k_ ≠ (.slice (some ad301) t298.length co26 : Value).ownBlock ∧ k_ ≠ gb296 ∧ k_ ≠ gb297)) (by (with_reducible repeat (first | apply Kd.V_alloc | apply Kd.V_drewN | apply Kd.V_drew)); exact Kd.V_mono HO312.out (fun _ hk => ⟨⟨hk.1.1.1.1, ⟨hk.1.1.1.2, ⟨hk.1.2, hk.2⟩⟩⟩, hk.1.1.2⟩)) hg hat)
                                have n5_ := Am (hb)
                                have n6_ := Am (ho)
                                clear HO_6
                                clear HO_8
                                clear BK296
                                clear BK297
                                clear HO312
                                clear HB
                                clear HO_298000
                                have HO_6 := n0_
                                have HO_8 := n1_
                                have BK296 := n2_
                                have BK297 := n3_
                                have HO312 := n4_
                                have HB := n5_
                                have HO315 := n6_
                                clear n0_ n1_ n2_ n3_ n4_ n5_ n6_
                                clear ho hb hg hat
                                obtain ⟨Ao51, co51, eo51⟩ := Kd.N_slice HO315.out
                                (first | subst eo51 | (injection eo51 with f1_ f2_ f3_; have f4_ := f1_.symm; have f5_ := f3_.symm; clear f1_ f2_ f3_; subst f4_; subst f5_))
                                refine hK.out _ _ ⟨(blk_cell BK297.out 0).trans rfl, (blk_cell BK297.out 1).trans rfl⟩ (fun hHeld => ?_)
                                clear hK K
                                refine norm_ (a' := ?_) ?_ ?_
                                rotate_left
                                · show Act.put _ (some 67) _ = _
                                  simp only [Act.put, List.setIfInBounds_toArray, List.set_cons_zero, List.set_cons_succ, i64_w, i32_w]
                                  rfl
                                refine pure_ (i := 8) (N := some 68) (v := ?_) (a' := ?_) #[true, true, true, true, true, true, true, true, true, false] rfl rfl (any_of HT_.out (by kernel_rfl)) (fun _ _ _ h => h) (Or.inl ⟨by rfl, ?_⟩) ?_ ?_
                                rotate_left
                                · intro w'
                                  go_simp
                                  with_reducible rfl
                                rotate_left
                                · simp only [Act.put, List.setIfInBounds_toArray, List.set_cons_zero, List.set_cons_succ, i64_w, i32_w]
                                  rfl
                                refine last_ (i := 9) (N := none) #[true, true, true, true, true, true, true, true, true, true] rfl rfl (one_of HT_.out (by kernel_rfl)) (by decide) (fun K hK => ?_)
                                have hs52 : w50.cell? ⟨gb297, 0, none⟩ = some (.slice Ao47 x298000_1.length co47) := (blk_cell BK297.out 0).trans rfl
                                have hfs52 := blk_frozen BK297.out 0
                                have hns52_0 := NB296_297.out
                                have hms52_0 := NB297_296.out
                                refine skip_ (w1 := ?_) (by rfl) rfl ?_ ?_
                                rotate_left
                                · go_simp
                                  rfl
                                refine hK.out _ _ ?_
                                clear hK K
                                refine done_ (done_of HT_.out (by kernel_rfl)) ?_
                                try go_wp2
                                go_roundg k3
                                case measure => have := HK1.out; have := HJ8.out; have := HK3.out; omega
                                case rel => exact ⟨(wrap64 (x7_1 + 1)), (y313), (.slice Ao51 y313.length co51), (by first | rfl | (simp; done) | (simp [*]; done)), H', ⟨by have := HK1.out; have := HJ8.out; have := HK3.out; omega⟩, ⟨by (with_reducible repeat (first | apply Kd.R_alloc | apply Kd.R_drewN | apply Kd.R_drew)); exact Kd.R_mono (Kd.R_far (p := ⟨gb297, 0, none⟩) (Kd.R_types HO_6.out BK297.out (by decide)) (fun _ hk => hk.2) (.slice Ao51 y313.length co51)) (fun _ hk => hk.1.1)⟩, ⟨by (with_reducible repeat (first | apply Kd.N_alloc | apply Kd.N_drewN | apply Kd.N_drew)); exact Kd.N_mono (Kd.N_far (p := ⟨gb297, 0, none⟩) (Kd.N_mono HO315.out (fun k_ hk => (⟨hk, hk.2.2.2⟩ : _ ∧ k_ ≠ gb297))) (fun _ hk => hk.2) (.slice Ao51 y313.length co51)) (fun _ hk => ⟨hk.1.1, ⟨hk.1.2.1, ⟨hk.1.2.2.1, hk.1.2.2.2⟩⟩⟩)⟩, ⟨by (with_reducible repeat (first | refine blk_drewN ?_ _ | refine blk_drew ?_ | refine blk_alloc ?_ _)); refine blk_far ?_ NB296_297.out _; (with_reducible repeat (first | refine blk_drewN ?_ _ | refine blk_drew ?_ | refine blk_alloc ?_ _)); exact BK296.out⟩, ⟨by (with_reducible repeat (first | refine blk_drewN ?_ _ | refine blk_drew ?_ | refine blk_alloc ?_ _)); refine blk_put (cs := #[.slice Ao47 x298000_1.length co47, .bool a1]) ?_ 0 _ rfl; (with_reducible repeat (first | refine blk_drewN ?_ _ | refine blk_drew ?_ | refine blk_alloc ?_ _)); exact BK297.out⟩, ⟨by (repeat (first | (with_reducible first | exact HB.out | apply below_alloc | apply pw_below_drewN | apply below_drew1 | refine below_set ?_ (Aside0.out GE296) | refine below_set ?_ (Aside0.out GE297)) | exact HB.out))⟩⟩
                              · rw [if_neg c44] at H
                                exact absurd H (by simp)
                            · rw [if_neg c43] at H
                              exact absurd H (by simp)
                  · rw [if_neg c24] at H
                    exact absurd H (by simp)
              · rw [if_neg c18] at H
                exact absurd H (by simp)
            · rw [if_neg c17] at H
              exact absurd H (by simp)
          · replace c16 := Bool.eq_false_iff.mpr c16
            subst c16
            have H1 : (some (x298000_1, a1)) = some (r1, r2) := by rw [if_neg (show ¬ (false = true) by decide)] at H; exact H
            clear H
            have H := H1
            clear H1
            simp only [Option.some.injEq, Prod.mk.injEq] at H
            obtain ⟨rfl, rfl⟩ := H
            have hnb53 := NB297_296.out
            have hnc53 := NB296_297.out
            have hcz54_0 : wc.cell? ⟨gb297, 0, none⟩ = some (u298000) := (blk_cell BK297.out 0).trans rfl
            have hcz54_1 : wc.cell? ⟨gb297, 1, none⟩ = some (.bool a1) := (blk_cell BK297.out 1).trans rfl
            have hfz54_0 := blk_frozen BK297.out 0
            have hfz54_1 := blk_frozen BK297.out 1
            obtain ⟨Ao55, co55, eo55⟩ := Kd.N_slice HO_298000.out
            subst eo55
            have hcz56_0 : wc.cell? ⟨gb296, 0, none⟩ = some (.slice none 0 0) := (blk_cell BK296.out 0).trans rfl
            have hcz56_1 : wc.cell? ⟨gb296, 1, none⟩ = some (.bool false) := (blk_cell BK296.out 1).trans rfl
            have hfz56_0 := blk_frozen BK296.out 0
            have hfz56_1 := blk_frozen BK296.out 1
            go_wp2
            refine bodyPost_ret (results_cell_row rfl _ _ gb296 41 #[.slice Ao55 x298000_1.length co55, .bool a1] (0, 0) _ rfl (by (with_reducible repeat (first | refine blk_drewN ?_ _ | refine blk_drew ?_ | refine blk_alloc ?_ _)); refine blk_put (cs := #[.slice Ao55 x298000_1.length co55, .bool false]) ?_ 1 _ rfl; (with_reducible repeat (first | refine blk_drewN ?_ _ | refine blk_drew ?_ | refine blk_alloc ?_ _)); refine blk_put (cs := #[.slice none 0 0, .bool false]) ?_ 0 _ rfl; (with_reducible repeat (first | refine blk_drewN ?_ _ | refine blk_drew ?_ | refine blk_alloc ?_ _)); exact BK296.out) Tryd.underlying41 rfl (by kernel_rfl)) rfl ?_
            exact ⟨_, by (first | rfl | (simp [errW_none, errW_some] <;> rfl) | (simp [*, errW_none, errW_some] <;> rfl)), by (with_reducible repeat (first | apply Kd.N_alloc | apply Kd.N_drewN | apply Kd.N_drew)); exact Kd.N_mono (Kd.N_far (p := ⟨gb296, 1, none⟩) (Kd.N_far (p := ⟨gb296, 0, none⟩) (Kd.N_mono HO_298000.out (fun k_ hk => (⟨hk, hk.2.2.1⟩ : _ ∧ k_ ≠ gb296))) (fun _ hk => hk.2) (.slice Ao55 x298000_1.length co55)) (fun _ hk => hk.2) (.bool a1)) (fun _ hk => hk.1.1), by (repeat (first | (with_reducible first | exact HB.out | apply below_alloc | apply pw_below_drewN | apply below_drew1 | refine below_set ?_ (Aside0.out GE296) | refine below_set ?_ (Aside0.out GE297)) | exact HB.out))⟩

end Go.Proofs.YtohcjdninpjpgaaDoor.PX
