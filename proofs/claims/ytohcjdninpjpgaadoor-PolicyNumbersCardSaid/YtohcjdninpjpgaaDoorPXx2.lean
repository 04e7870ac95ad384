/- Functions of the program and their walks, printed by a program. -/
import Derived.Test.YtohcjdninpjpgaaDoorCpolicyPolicyrule
import Derived.Test.YtohcjdninpjpgaaDoorCpolicyRule
import Derived.Test.YtohcjdninpjpgaaDoorCstringsJoin
import Derived.Test.YtohcjdninpjpgaaDoorCslicesClonestringstring
import Derived.Test.YtohcjdninpjpgaaDoorCpolicywords
import Derived.Test.YtohcjdninpjpgaaDoorCstringsSplit
import Derived.Test.YtohcjdninpjpgaaDoorCostiaryref1Lower
import Derived.Test.YtohcjdninpjpgaaDoorCinfraLower
import Derived.Test.YtohcjdninpjpgaaDoorPXx0
namespace Go.Proofs.YtohcjdninpjpgaaDoor.PX
open Go.Proofs.YtohcjdninpjpgaaDoor.Own
open Go.RowKit Go.Proofs.YtohcjdninpjpgaaDoorW.PrintWords Go.Proofs.YtohcjdninpjpgaaDoorW.PrintLast Go.Proofs.YtohcjdninpjpgaaDoorW.PrintMore
attribute [local go_sem] max2_int min2_int max_two min_two max_three min_three max_four min_four   -- for this text's walks alone
set_option linter.unusedVariables false
set_option linter.unusedSimpArgs false

/-! ### ostiaryref10_For: function 12 -/
def ostiaryref10_For.f (a0 : Int) : Option (ByteArray) := if a0 = 1 then (some (⟨#[99, 111, 110, 110, 101, 99, 116, 45, 115, 114, 99]⟩ : ByteArray)) else (if a0 = 2 then (some (⟨#[115, 99, 114, 105, 112, 116, 45, 115, 114, 99, 45, 101, 108, 101, 109]⟩ : ByteArray)) else (if a0 = 3 then (some (⟨#[115, 116, 121, 108, 101, 45, 115, 114, 99, 45, 101, 108, 101, 109]⟩ : ByteArray)) else (if a0 = 4 then (some (⟨#[105, 109, 103, 45, 115, 114, 99]⟩ : ByteArray)) else (if a0 = 5 then (some (⟨#[102, 111, 110, 116, 45, 115, 114, 99]⟩ : ByteArray)) else (if a0 = 6 then (some (⟨#[102, 114, 97, 109, 101, 45, 115, 114, 99]⟩ : ByteArray)) else (some (⟨#[]⟩ : ByteArray)))))))
set_option maxHeartbeats 8000000 in
set_option maxRecDepth 100000 in
theorem ostiaryref10_For.calls (a0 : Int) (r : ByteArray) (w : World) (h : ostiaryref10_For.f a0 = some r) :
    Calls Tryd.prog 12 #[.int .i64 a0] w fun e w' => e = .returned (.string r) ∧ Drawn0 w w' := by
  have H : (if a0 = 1 then (some (⟨#[99, 111, 110, 110, 101, 99, 116, 45, 115, 114, 99]⟩ : ByteArray)) else (if a0 = 2 then (some (⟨#[115, 99, 114, 105, 112, 116, 45, 115, 114, 99, 45, 101, 108, 101, 109]⟩ : ByteArray)) else (if a0 = 3 then (some (⟨#[115, 116, 121, 108, 101, 45, 115, 114, 99, 45, 101, 108, 101, 109]⟩ : ByteArray)) else (if a0 = 4 then (some (⟨#[105, 109, 103, 45, 115, 114, 99]⟩ : ByteArray)) else (if a0 = 5 then (some (⟨#[102, 111, 110, 116, 45, 115, 114, 99]⟩ : ByteArray)) else (if a0 = 6 then (some (⟨#[102, 114, 97, 109, 101, 45, 115, 114, 99]⟩ : ByteArray)) else (some (⟨#[]⟩ : ByteArray)))))))) = some r := h
  clear h
  by_cases c2 : a0 = 1
  · rw [if_pos c2] at H
    have c2b0 : (a0 == 1) = true := beq_iff_eq.mpr c2
    have c2b1 : (a0 != 1) = false := bne_eq_false_iff_eq.mpr c2
    clear c2
    obtain rfl := Option.some.inj H
    go_enter Tryd.func12, Tryd.ntmps12
    go_wp2
    go_ret
    exact ⟨by first | rfl | (simp; done) | (simp [*]; done) | (congr 2; generalize ByteArray.toList _ = l; cases l <;> rfl), by repeat (first | exact Drawn0.refl _ | apply Drawn0.step)⟩
  · rw [if_neg c2] at H
    have c2b0 : (a0 == 1) = false := beq_eq_false_iff_ne.mpr c2
    have c2b1 : (a0 != 1) = true := bne_iff_ne.mpr c2
    by_cases c3 : a0 = 2
    · rw [if_pos c3] at H
      have c3b0 : (a0 == 2) = true := beq_iff_eq.mpr c3
      have c3b1 : (a0 != 2) = false := bne_eq_false_iff_eq.mpr c3
      clear c3
      obtain rfl := Option.some.inj H
      go_enter Tryd.func12, Tryd.ntmps12
      go_wp2
      go_ret
      exact ⟨by first | rfl | (simp; done) | (simp [*]; done) | (congr 2; generalize ByteArray.toList _ = l; cases l <;> rfl), by repeat (first | exact Drawn0.refl _ | apply Drawn0.step)⟩
    · rw [if_neg c3] at H
      have c3b0 : (a0 == 2) = false := beq_eq_false_iff_ne.mpr c3
      have c3b1 : (a0 != 2) = true := bne_iff_ne.mpr c3
      by_cases c4 : a0 = 3
      · rw [if_pos c4] at H
        have c4b0 : (a0 == 3) = true := beq_iff_eq.mpr c4
        have c4b1 : (a0 != 3) = false := bne_eq_false_iff_eq.mpr c4
        clear c4
        obtain rfl := Option.some.inj H
        go_enter Tryd.func12, Tryd.ntmps12
        go_wp2
        go_ret
        exact ⟨by first | rfl | (simp; done) | (simp [*]; done) | (congr 2; generalize ByteArray.toList _ = l; cases l <;> rfl), by repeat (first | exact Drawn0.refl _ | apply Drawn0.step)⟩
      · rw [if_neg c4] at H
        have c4b0 : (a0 == 3) = false := beq_eq_false_iff_ne.mpr c4
        have c4b1 : (a0 != 3) = true := bne_iff_ne.mpr c4
        by_cases c5 : a0 = 4
        · rw [if_pos c5] at H
          have c5b0 : (a0 == 4) = true := beq_iff_eq.mpr c5
          have c5b1 : (a0 != 4) = false := bne_eq_false_iff_eq.mpr c5
          clear c5
          obtain rfl := Option.some.inj H
          go_enter Tryd.func12, Tryd.ntmps12
          go_wp2
          go_ret
          exact ⟨by first | rfl | (simp; done) | (simp [*]; done) | (congr 2; generalize ByteArray.toList _ = l; cases l <;> rfl), by repeat (first | exact Drawn0.refl _ | apply Drawn0.step)⟩
        · rw [if_neg c5] at H
          have c5b0 : (a0 == 4) = false := beq_eq_false_iff_ne.mpr c5
          have c5b1 : (a0 != 4) = true := bne_iff_ne.mpr c5
          by_cases c6 : a0 = 5
          · rw [if_pos c6] at H
            have c6b0 : (a0 == 5) = true := beq_iff_eq.mpr c6
            have c6b1 : (a0 != 5) = false := bne_eq_false_iff_eq.mpr c6
            clear c6
            obtain rfl := Option.some.inj H
            go_enter Tryd.func12, Tryd.ntmps12
            go_wp2
            go_ret
            exact ⟨by first | rfl | (simp; done) | (simp [*]; done) | (congr 2; generalize ByteArray.toList _ = l; cases l <;> rfl), by repeat (first | exact Drawn0.refl _ | apply Drawn0.step)⟩
          · rw [if_neg c6] at H
            have c6b0 : (a0 == 5) = false := beq_eq_false_iff_ne.mpr c6
            have c6b1 : (a0 != 5) = true := bne_iff_ne.mpr c6
            by_cases c7 : a0 = 6
            · rw [if_pos c7] at H
              have c7b0 : (a0 == 6) = true := beq_iff_eq.mpr c7
              have c7b1 : (a0 != 6) = false := bne_eq_false_iff_eq.mpr c7
              clear c7
              obtain rfl := Option.some.inj H
              go_enter Tryd.func12, Tryd.ntmps12
              go_wp2
              go_ret
              exact ⟨by first | rfl | (simp; done) | (simp [*]; done) | (congr 2; generalize ByteArray.toList _ = l; cases l <;> rfl), by repeat (first | exact Drawn0.refl _ | apply Drawn0.step)⟩
            · rw [if_neg c7] at H
              have c7b0 : (a0 == 6) = false := beq_eq_false_iff_ne.mpr c7
              have c7b1 : (a0 != 6) = true := bne_iff_ne.mpr c7
              obtain rfl := Option.some.inj H
              go_enter Tryd.func12, Tryd.ntmps12
              go_wp2
              go_ret
              exact ⟨by first | rfl | (simp; done) | (simp [*]; done) | (congr 2; generalize ByteArray.toList _ = l; cases l <;> rfl), by repeat (first | exact Drawn0.refl _ | apply Drawn0.step)⟩

/-! ### policy_Parse: function 14 -/
mutual
def policy_Parse.l0 : Nat → List ByteArray → Int → Int → List (S52) → Bool → Option ((List (S52)) × Bool)
  | 0, _, _, _, _, _ => none
  | k + 1, x15, x16, x17, x166000, x166001 => if x17 < x16 then (if 0 ≤ x17 then (if x17 < (x15.length : Int) then ((policy_words.f (rdOf ByteArray.empty x15 x17)).bind fun t170 => (if (t170.length : Int) = 0 then (policy_Parse.j1 k t170 x15 x16 x17 true x166000 x166001) else (policy_Parse.j1 k t170 x15 x16 x17 (decide ((x166000.length : Int) ≥ 32)) x166000 x166001))) else (none)) else (none)) else (some (x166000, x166001))
def policy_Parse.j1 : Nat → List ByteArray → List ByteArray → Int → Int → Bool → List (S52) → Bool → Option ((List (S52)) × Bool)
  | 0, _, _, _, _, _, _, _ => none
  | k + 1, x8, x15, x16, x17, x31, x166000, x166001 => if x31 = true then (policy_Parse.l0 k x15 x16 (wrap64 (x17 + 1)) x166000 x166001) else (if 0 < (x8.length : Int) then ((infra_Lower.f (rdOf ByteArray.empty x8 0)).bind fun t174 => ((policy_Policy_rule.f x166000 x166001 t174).bind fun bt175 => (if bt175.2.2 = true then (policy_Parse.l0 k x15 x16 (wrap64 (x17 + 1)) x166000 x166001) else (if 1 ≤ (x8.length : Int) then ((slices_Clone_string_string.f (x8.drop 1)).bind fun t185 => (if x166000.length < 3518437208883 then (policy_Parse.l0 k x15 x16 (wrap64 (x17 + 1)) (x166000 ++ [(⟨t174, t185⟩ : S52)]) x166001) else (none))) else (none))))) else (none))
end
def policy_Parse.f (k : Nat) (a0 : ByteArray) (a1 : Bool) : Option ((List (S52)) × Bool) := (strings_Split.f a0 (⟨#[59]⟩ : ByteArray)).bind fun t166 => (policy_Parse.l0 k t166 (t166.length : Int) 0 ([] : List (S52)) a1)
theorem policy_Parse.mono_l : ∀ k, (∀ y0 y1 y2 y3 y4, LeO (policy_Parse.l0 k y0 y1 y2 y3 y4) (policy_Parse.l0 (k + 1) y0 y1 y2 y3 y4)) ∧ (∀ y0 y1 y2 y3 y4 y5 y6, LeO (policy_Parse.j1 k y0 y1 y2 y3 y4 y5 y6) (policy_Parse.j1 (k + 1) y0 y1 y2 y3 y4 y5 y6))
  | 0 => ⟨fun _ _ _ _ _ r h => by simp [policy_Parse.l0] at h, fun _ _ _ _ _ _ _ r h => by simp [policy_Parse.j1] at h⟩
  | k + 1 => by
    obtain ⟨ih0, ih1⟩ := policy_Parse.mono_l k
    refine ⟨?_, ?_⟩
    · intro y0 y1 y2 y3 y4
      unfold policy_Parse.l0
      repeat' first
      | (with_reducible exact ih0 _ _ _ _ _)
      | (with_reducible exact ih1 _ _ _ _ _ _ _)
      | (with_reducible exact LeO.refl _)
      | (with_reducible exact LeO.none _)
      | (with_reducible refine LeO.ite ?_ ?_)
      | (with_reducible refine LeO.bind ?_ (fun _ => ?_))
      | exact ih0 _ _ _ _ _
      | exact ih1 _ _ _ _ _ _ _
      | exact LeO.none _
      | refine LeO.ite ?_ ?_
      | refine LeO.bind ?_ (fun _ => ?_)
    · intro y0 y1 y2 y3 y4 y5 y6
      unfold policy_Parse.j1
      repeat' first
      | (with_reducible exact ih0 _ _ _ _ _)
      | (with_reducible exact ih1 _ _ _ _ _ _ _)
      | (with_reducible exact LeO.refl _)
      | (with_reducible exact LeO.none _)
      | (with_reducible refine LeO.ite ?_ ?_)
      | (with_reducible refine LeO.bind ?_ (fun _ => ?_))
      | exact ih0 _ _ _ _ _
      | exact ih1 _ _ _ _ _ _ _
      | exact LeO.none _
      | refine LeO.ite ?_ ?_
      | refine LeO.bind ?_ (fun _ => ?_)
theorem policy_Parse.mono : ∀ a0 a1 k, LeO (policy_Parse.f k a0 a1) (policy_Parse.f (k + 1) a0 a1) := by
  intro a0 a1 k
  obtain ⟨ih0, ih1⟩ := policy_Parse.mono_l k
  unfold policy_Parse.f
  repeat' first
      | (with_reducible exact ih0 _ _ _ _ _)
      | (with_reducible exact ih1 _ _ _ _ _ _ _)
      | (with_reducible exact LeO.refl _)
      | (with_reducible exact LeO.none _)
      | (with_reducible refine LeO.ite ?_ ?_)
      | (with_reducible refine LeO.bind ?_ (fun _ => ?_))
      | exact ih0 _ _ _ _ _
      | exact ih1 _ _ _ _ _ _ _
      | exact LeO.none _
      | refine LeO.ite ?_ ?_
      | refine LeO.bind ?_ (fun _ => ?_)
def policy_Parse.T10 : Bool × List (List Nat × List Nat) := (true, [([], []), ([0], [0]), ([], []), ([], []), ([3], [3]), ([4], [4]), ([2, 5], [2, 5]), ([6], [6]), ([1, 7, 5], [1, 7]), ([0, 1, 2, 3, 4, 5, 6, 7, 8], []), ([9, 8, 8, 0, 1, 2, 3, 4, 5, 6, 7, 8], [8, 9])])
def policy_Parse.B10 : List Nat := [0, 1, 0, 0, 8, 24, 60, 124, 255, 511, 1023]
theorem policy_Parse.tab10 : rtab .any (opsOf Tryd.f14 10) = policy_Parse.T10 := by kernel_rfl
theorem policy_Parse.bits10 : waitsOk policy_Parse.T10.2 policy_Parse.B10 = true := by kernel_rfl
set_option maxHeartbeats 8000000 in
set_option maxRecDepth 100000 in
theorem policy_Parse.calls (k : Nat) (a0 : ByteArray) (a1 : Bool) (r1 : List (S52)) (r2 : Bool) (w : World) (h : policy_Parse.f k a0 a1 = some (r1, r2)) :
    Calls Tryd.prog 14 #[.string a0, .bool a1] w fun e w' => ∃ v0_ : Value, e = .returned (.agg #[v0_, .bool r2]) ∧ Kd.S k52 52 w' w.heap.size (fun _ => True) v0_ r1 ∧ Below w.heap.size w w' := by
  have hu33 := Tryd.underlying33
  have hu52 := Tryd.underlying52
  have HB := Am (Below.refl w.heap.size w)
  have H : ((strings_Split.f a0 (⟨#[59]⟩ : ByteArray)).bind fun t166 => (policy_Parse.l0 k t166 (t166.length : Int) 0 ([] : List (S52)) a1)) = some (r1, r2) := h
  clear h
  replace H := Option.bind_eq_some_iff.mp H
  obtain ⟨t166, A30, H⟩ := H
  replace H : (policy_Parse.l0 k t166 (t166.length : Int) 0 ([] : List (S52)) a1) = some (r1, r2) := H
  have A3 := Aside0.mk A30
  clear A30
  have H' := Aside0.mk H
  clear H
  go_enter Tryd.func14, Tryd.ntmps14
  go_wp2_with (first | ((with_reducible refine gate_dst (N := 4) rfl ?_); (try (refine gate_guard (by rfl) ?_; dsimp only)); refine box_event ?hg (N := 4) ?hd (cs := #[.slice none 0 0, .bool false]) (t := 33) ?hr ?_; ((case hd => rfl); (case hg => rfl); (case hr => first | (go_simp; done) | (go_simp; rfl))); intro gb164 hg w4 hbox hb; have n0_ := Am (below_step (by (repeat (first | (with_reducible first | exact HB.out | apply below_alloc | apply pw_below_drewN | apply below_drew1) | exact HB.out))) hb); have n1_ := Am (hbox); have n2_ := Am ((by rw [hg]; exact (below_size (by (repeat (first | (with_reducible first | exact HB.out | apply below_alloc | apply pw_below_drewN | apply below_drew1) | exact HB.out)))) : w.heap.size ≤ gb164)); have n3_ := Am ((by rw [hg]; exact (below_size (by (repeat (first | (with_reducible first | exact HB.out | apply below_alloc | apply pw_below_drewN | apply below_drew1) | exact HB.out)))) : w.heap.size ≤ gb164)); clear HB; have HB := n0_; have BK164 := n1_; have GW164 := n2_; have GE164 := n3_; clear n0_ n1_ n2_ n3_; clear hb hbox hg) | ((with_reducible refine gate_dst (N := 5) rfl ?_); (try (refine gate_guard (by rfl) ?_; dsimp only)); refine box_event ?hg (N := 5) ?hd (cs := #[.slice none 0 0, .bool false]) (t := 33) ?hr ?_; ((case hd => rfl); (case hg => rfl); (case hr => first | (go_simp; done) | (go_simp; rfl))); intro gb165 hg w5 hbox hb; have n0_ := Am (blk_below (g := gb164) (o := .cells #[.slice none 0 0, .bool false] 33 (0, 0)) (by (with_reducible repeat (first | refine blk_drewN ?_ _ | refine blk_drew ?_ | refine blk_alloc ?_ _)); exact BK164.out) hb); have n1_ := Am (below_step (by (repeat (first | (with_reducible first | exact HB.out | apply below_alloc | apply pw_below_drewN | apply below_drew1 | refine below_set ?_ (Aside0.out GE164)) | exact HB.out))) hb); have n2_ := Am (hbox); have n3_ := Am ((by rw [hg]; exact (below_size (by (repeat (first | (with_reducible first | exact HB.out | apply below_alloc | apply pw_below_drewN | apply below_drew1 | refine below_set ?_ (Aside0.out GE164)) | exact HB.out)))) : w.heap.size ≤ gb165)); have n4_ := Am ((by rw [hg]; exact (below_size (by (repeat (first | (with_reducible first | exact HB.out | apply below_alloc | apply pw_below_drewN | apply below_drew1 | refine below_set ?_ (Aside0.out GE164)) | exact HB.out)))) : w.heap.size ≤ gb165)); have n5_ := Am ((by rw [hg]; exact Nat.ne_of_lt (blk_lt (g := gb164) (o := .cells #[.slice none 0 0, .bool false] 33 (0, 0)) (by (with_reducible repeat (first | refine blk_drewN ?_ _ | refine blk_drew ?_ | refine blk_alloc ?_ _)); exact BK164.out)) : gb164 ≠ gb165)); have n6_ := Am ((by rw [hg]; exact Nat.ne_of_gt (blk_lt (g := gb164) (o := .cells #[.slice none 0 0, .bool false] 33 (0, 0)) (by (with_reducible repeat (first | refine blk_drewN ?_ _ | refine blk_drew ?_ | refine blk_alloc ?_ _)); exact BK164.out)) : gb165 ≠ gb164)); clear BK164; clear HB; have BK164 := n0_; have HB := n1_; have BK165 := n2_; have GW165 := n3_; have GE165 := n4_; have NB164_165 := n5_; have NB165_164 := n6_; clear n0_ n1_ n2_ n3_ n4_ n5_ n6_; clear hb hbox hg; have hnb6 := NB165_164.out; have hnc6 := NB164_165.out; have hcz7_0 : w5.cell? ⟨gb165, 0, none⟩ = some (.slice none 0 0) := (blk_cell BK165.out 0).trans rfl; have hcz7_1 : w5.cell? ⟨gb165, 1, none⟩ = some (.bool false) := (blk_cell BK165.out 1).trans rfl; have hfz7_0 := blk_frozen BK165.out 0; have hfz7_1 := blk_frozen BK165.out 1) | ((with_reducible refine gate_callee (f := 30) rfl ?_); refine goesL_ (some 15) rfl rfl Tryd.func30 (by kernel_rfl) rfl #[.string a0, .string (⟨#[59]⟩ : ByteArray)] rfl (by ((try simp only [List.map_toArray, List.map_cons, List.map_nil]); first | done | rfl | (simp only [List.length_drop, List.length_take]; rfl))) ?_; (with_reducible refine (strings_Split.calls a0 (⟨#[59]⟩ : ByteArray) t166 _ A3.out).mono ?_); rintro e w8 ⟨v167, rfl, ho0, hb⟩; refine ⟨_, rfl, ?_⟩; have n0_ := Am (Kd.R_lower ho0 (below_size (by (repeat (first | (with_reducible first | exact HB.out | apply below_alloc | apply pw_below_drewN | apply below_drew1 | refine below_set ?_ (Aside0.out GE164) | refine below_set ?_ (Aside0.out GE165)) | exact HB.out))))); have n1_ := Am (blk_below (g := gb164) (o := .cells #[.slice none 0 0, .bool false] 33 (0, 0)) (by (with_reducible repeat (first | refine blk_drewN ?_ _ | refine blk_drew ?_ | refine blk_alloc ?_ _)); refine blk_far ?_ NB164_165.out _; (with_reducible repeat (first | refine blk_drewN ?_ _ | refine blk_drew ?_ | refine blk_alloc ?_ _)); refine blk_far ?_ NB164_165.out _; (with_reducible repeat (first | refine blk_drewN ?_ _ | refine blk_drew ?_ | refine blk_alloc ?_ _)); exact BK164.out) hb); have n2_ := Am (blk_below (g := gb165) (o := .cells #[.slice none 0 0, .bool a1] 33 (0, 0)) (by (with_reducible repeat (first | refine blk_drewN ?_ _ | refine blk_drew ?_ | refine blk_alloc ?_ _)); refine blk_put (cs := #[.slice none 0 0, .bool false]) ?_ 1 _ rfl; (with_reducible repeat (first | refine blk_drewN ?_ _ | refine blk_drew ?_ | refine blk_alloc ?_ _)); refine blk_put (cs := #[.slice none 0 0, .bool false]) ?_ 0 _ rfl; (with_reducible repeat (first | refine blk_drewN ?_ _ | refine blk_drew ?_ | refine blk_alloc ?_ _)); exact BK165.out) hb); have n3_ := Am (below_step (by (repeat (first | (with_reducible first | exact HB.out | apply below_alloc | apply pw_below_drewN | apply below_drew1 | refine below_set ?_ (Aside0.out GE164) | refine below_set ?_ (Aside0.out GE165)) | exact HB.out))) hb); clear BK164; clear BK165; clear HB; have HO168 := n0_; have BK164 := n1_; have BK165 := n2_; have HB := n3_; clear n0_ n1_ n2_ n3_; ((try clear hb); (try clear hb2); (try clear hk); (try clear hi); (try clear ho0)); obtain ⟨Ao9, co9, eo9⟩ := Kd.R_slice HO168.out; subst eo9))
  go_loopg [17] k (fun kq v17 w' => ∃ (x17_1 : Int) (x166000_1 : List (S52)) (u166000 : Value), v17 = .int .i64 x17_1 ∧ Aside0 (policy_Parse.l0 kq t166 (t166.length : Int) x17_1 x166000_1 a1 = some (r1, r2)) ∧ Aside0 (kq ≤ k) ∧ Aside0 (Kd.R Kd.string 9 w' w.heap.size (fun _ => True) (.slice Ao9 t166.length co9) t166) ∧ Aside0 (Kd.S k52 52 w' w.heap.size (fun k_ => some k_ ≠ ((.slice Ao9 t166.length co9) : Value).ownBlock) u166000 x166000_1) ∧ Aside0 (w'.heap[gb164]? = some (.cells #[(.slice none 0 0), .bool false] 33 (0, 0))) ∧ Aside0 (w'.heap[gb165]? = some (.cells #[u166000, .bool a1] 33 (0, 0))) ∧ Aside0 (Below w.heap.size w w'))
  case atStart => exact ⟨(0), (([] : List (S52))), (.slice none 0 0), (by first | rfl | (simp; done) | (simp [*]; done)), H', ⟨Nat.le_refl _⟩, ⟨by (with_reducible repeat (first | apply Kd.R_alloc | apply Kd.R_drewN | apply Kd.R_drew)); exact HO168.out⟩, ⟨by first | exact Kd.S_nil _ _ _ _ _ | exact Kd.N_nil _ _ _ _ _ | exact Kd.V_nil _ _ _ _ _ | exact Kd.Q_nil _ _ _ _ _ | exact Kd.R_nil _ _ _ _ _⟩, ⟨by (with_reducible repeat (first | refine blk_drewN ?_ _ | refine blk_drew ?_ | refine blk_alloc ?_ _)); exact BK164.out⟩, ⟨by (with_reducible repeat (first | refine blk_drewN ?_ _ | refine blk_drew ?_ | refine blk_alloc ?_ _)); exact BK165.out⟩, ⟨by (repeat (first | (with_reducible first | exact HB.out | apply below_alloc | apply pw_below_drewN | apply below_drew1 | refine below_set ?_ (Aside0.out GE164) | refine below_set ?_ (Aside0.out GE165)) | exact HB.out))⟩⟩
  case round =>
    clear H'
    try clear c1
    try clear p2
    try clear c3
    try clear c6
    try clear hcz7_0
    try clear hcz7_1
    try clear hfz7_0
    try clear hfz7_1
    obtain ⟨x17_1, x166000_1, u166000, rfl, HA, HK1, HO_15, HO_166000, BK164, BK165, HB⟩ := hrel
    cases gk with
    | zero => exact absurd HA.out (by simp [policy_Parse.l0])
    | succ k1 =>
      have H := HA.out
      clear HA
      simp only [policy_Parse.l0] at H
      by_cases c10 : x17_1 < (t166.length : Int)
      · rw [if_pos c10] at H
        have c10b0 : decide (x17_1 < (t166.length : Int)) = true := decide_eq_true c10
        clear c10
        by_cases c11 : 0 ≤ x17_1
        · rw [if_pos c11] at H
          have c11b0 : decide (0 ≤ x17_1) = true := decide_eq_true c11
          clear c11
          by_cases c12 : x17_1 < (t166.length : Int)
          · rw [if_pos c12] at H
            have c12b0 : decide (x17_1 < (t166.length : Int)) = true := decide_eq_true c12
            clear c12
            replace H := Option.bind_eq_some_iff.mp H
            obtain ⟨t170, A130, H⟩ := H
            replace H : (if (t170.length : Int) = 0 then (policy_Parse.j1 k1 t170 t166 (t166.length : Int) x17_1 true x166000_1 a1) else (policy_Parse.j1 k1 t170 t166 (t166.length : Int) x17_1 (decide ((x166000_1.length : Int) ≥ 32)) x166000_1 a1)) = some (r1, r2) := H
            have A13 := Aside0.mk A130
            clear A130
            have HC14 := Aside0.mk H
            clear H
            have p169 : 0 ≤ (x17_1 : Int) := of_decide_eq_true (by first | (with_reducible assumption) | assumption)
            have q169 : x17_1 < (t166.length : Int) := of_decide_eq_true (by first | (with_reducible assumption) | assumption)
            obtain ⟨ad169, e169, hx169_0⟩ := Kd.at_string (Kd.R_reads' HO_15.out).2.2 x17_1 p169 q169
            cases e169
            replace p169 := eq_true p169
            replace q169 := eq_true q169
            go_upto_region 6 with (first | ((with_reducible refine gate_callee (f := 32) rfl ?_); refine goesL_ (some 22) rfl rfl Tryd.func32 (by kernel_rfl) rfl #[.string (rdOf ByteArray.empty t166 x17_1)] rfl (by ((try simp only [List.map_toArray, List.map_cons, List.map_nil]); first | done | rfl | (simp only [List.length_drop, List.length_take]; rfl))) ?_; (with_reducible refine (policy_words.calls (rdOf ByteArray.empty t166 x17_1) t170 _ A13.out).mono ?_); rintro e w15 ⟨v171, rfl, ho0, hb⟩; refine ⟨_, rfl, ?_⟩; have n0_ := Am (Kd.R_elder' (by (with_reducible repeat (first | apply Kd.R_alloc | apply Kd.R_drewN | apply Kd.R_drew)); exact HO_15.out) (Kd.R_base ho0) hb); have n1_ := Am (Kd.S_elder' (by (with_reducible repeat (first | apply Kd.S_alloc | apply Kd.S_drewN | apply Kd.S_drew)); exact HO_166000.out) (Kd.R_base ho0) hb); have n2_ := Am (Kd.R_lower (Kd.R_new' ho0 (Kd.R_lt (by (with_reducible repeat (first | apply Kd.R_alloc | apply Kd.R_drewN | apply Kd.R_drew)); exact HO_15.out))) (below_size (by (repeat (first | (with_reducible first | exact HB.out | apply below_alloc | apply pw_below_drewN | apply below_drew1 | refine below_set ?_ (Aside0.out GE164) | refine below_set ?_ (Aside0.out GE165)) | exact HB.out))))); have n3_ := Am (blk_below (g := gb164) (o := .cells #[.slice none 0 0, .bool false] 33 (0, 0)) (by (with_reducible repeat (first | refine blk_drewN ?_ _ | refine blk_drew ?_ | refine blk_alloc ?_ _)); exact BK164.out) hb); have n4_ := Am (blk_below (g := gb165) (o := .cells #[u166000, .bool a1] 33 (0, 0)) (by (with_reducible repeat (first | refine blk_drewN ?_ _ | refine blk_drew ?_ | refine blk_alloc ?_ _)); exact BK165.out) hb); have n5_ := Am (below_step (by (repeat (first | (with_reducible first | exact HB.out | apply below_alloc | apply pw_below_drewN | apply below_drew1 | refine below_set ?_ (Aside0.out GE164) | refine below_set ?_ (Aside0.out GE165)) | exact HB.out))) hb); clear HO_15; clear HO_166000; clear BK164; clear BK165; clear HB; have HO_15 := n0_; have HO_166000 := n1_; have HO172 := n2_; have BK164 := n3_; have BK165 := n4_; have HB := n5_; clear n0_ n1_ n2_ n3_ n4_ n5_; ((try clear hb); (try clear hb2); (try clear hk); (try clear hi); (try clear ho0))))
            (try simp only [Act.put, List.setIfInBounds_toArray, List.set_cons_zero, List.set_cons_succ])
            go_cut [31] (fun v31 wc => ∃ (kq : Nat) (x31_13 : Bool), v31 = .bool x31_13 ∧ Aside0 (policy_Parse.j1 kq t170 t166 (t166.length : Int) x17_1 x31_13 x166000_1 a1 = some (r1, r2)) ∧ Aside0 (kq ≤ k1) ∧ Aside0 (Kd.R Kd.string 9 wc w.heap.size (fun k_ => some k_ ≠ ((.slice (some ad169) t166.length co9) : Value).ownBlock) v171 t170) ∧ Aside0 (Kd.R Kd.string 9 wc w.heap.size (fun k_ => some k_ ≠ (v171 : Value).ownBlock) (.slice (some ad169) t166.length co9) t166) ∧ Aside0 (Kd.S k52 52 wc w.heap.size (fun k_ => some k_ ≠ (v171 : Value).ownBlock ∧ some k_ ≠ ((.slice (some ad169) t166.length co9) : Value).ownBlock) u166000 x166000_1) ∧ Aside0 (wc.heap[gb164]? = some (.cells #[(.slice none 0 0), .bool false] 33 (0, 0))) ∧ Aside0 (wc.heap[gb165]? = some (.cells #[u166000, .bool a1] 33 (0, 0))) ∧ Aside0 (Below w.heap.size w wc))
            case first =>
              have H := HC14.out
              clear HC14
              by_cases c16 : (t170.length : Int) = 0
              · rw [if_pos c16] at H
                have c16b0 : ((t170.length : Int) == 0) = true := beq_iff_eq.mpr c16
                have c16b1 : ((t170.length : Int) != 0) = false := bne_eq_false_iff_eq.mpr c16
                clear c16
                (first | rw [c16b0] | (simp only [i64_w, i32_w]; rw [c16b0]) | skip)
                have H' := Aside0.mk H
                clear H
                obtain ⟨Ao17, co17, eo17⟩ := Kd.R_slice HO172.out
                subst eo17
                go_wp2
                go_meet
                case rel => exact ⟨_, (true), (by first | rfl | (simp; done) | (simp [*]; done)), H', ⟨by have := HK1.out; first | omega | exact Nat.le_refl _⟩, ⟨by (with_reducible repeat (first | apply Kd.R_alloc | apply Kd.R_drewN | apply Kd.R_drew)); exact Kd.R_mono HO172.out (fun _ hk => hk.2)⟩, ⟨by (with_reducible repeat (first | apply Kd.R_alloc | apply Kd.R_drewN | apply Kd.R_drew)); exact Kd.R_mono HO_15.out (fun _ hk => hk.2)⟩, ⟨by (with_reducible repeat (first | apply Kd.S_alloc | apply Kd.S_drewN | apply Kd.S_drew)); exact Kd.S_mono HO_166000.out (fun _ hk => ⟨hk.2, hk.1⟩)⟩, ⟨by (with_reducible repeat (first | refine blk_drewN ?_ _ | refine blk_drew ?_ | refine blk_alloc ?_ _)); exact BK164.out⟩, ⟨by (with_reducible repeat (first | refine blk_drewN ?_ _ | refine blk_drew ?_ | refine blk_alloc ?_ _)); exact BK165.out⟩, ⟨by (repeat (first | (with_reducible first | exact HB.out | apply below_alloc | apply pw_below_drewN | apply below_drew1 | refine below_set ?_ (Aside0.out GE164) | refine below_set ?_ (Aside0.out GE165)) | exact HB.out))⟩⟩
              · rw [if_neg c16] at H
                have c16b0 : ((t170.length : Int) == 0) = false := beq_eq_false_iff_ne.mpr c16
                have c16b1 : ((t170.length : Int) != 0) = true := bne_iff_ne.mpr c16
                have c16b2 : ¬ (t170 = []) := fun h_ => c16 (by rw [h_]; rfl)
                (first | rw [c16b0] | (simp only [i64_w, i32_w]; rw [c16b0]) | skip)
                have H' := Aside0.mk H
                clear H
                obtain ⟨Ao18, co18, eo18⟩ := Kd.R_slice HO172.out
                subst eo18
                have hnb19 := NB165_164.out
                have hnc19 := NB164_165.out
                have hcz20_0 : w15.cell? ⟨gb165, 0, none⟩ = some (u166000) := (blk_cell BK165.out 0).trans rfl
                have hcz20_1 : w15.cell? ⟨gb165, 1, none⟩ = some (.bool a1) := (blk_cell BK165.out 1).trans rfl
                have hfz20_0 := blk_frozen BK165.out 0
                have hfz20_1 := blk_frozen BK165.out 1
                obtain ⟨Ao21, co21, eo21⟩ := Kd.S_slice HO_166000.out
                subst eo21
                go_wp2
                go_meet
                case rel => exact ⟨_, (decide ((x166000_1.length : Int) ≥ 32)), (by first | rfl | (simp; done) | (simp [*]; done)), H', ⟨by have := HK1.out; first | omega | exact Nat.le_refl _⟩, ⟨by (with_reducible repeat (first | apply Kd.R_alloc | apply Kd.R_drewN | apply Kd.R_drew)); exact Kd.R_mono HO172.out (fun _ hk => hk.2)⟩, ⟨by (with_reducible repeat (first | apply Kd.R_alloc | apply Kd.R_drewN | apply Kd.R_drew)); exact Kd.R_mono HO_15.out (fun _ hk => hk.2)⟩, ⟨by (with_reducible repeat (first | apply Kd.S_alloc | apply Kd.S_drewN | apply Kd.S_drew)); exact Kd.S_mono HO_166000.out (fun _ hk => ⟨hk.2, hk.1⟩)⟩, ⟨by (with_reducible repeat (first | refine blk_drewN ?_ _ | refine blk_drew ?_ | refine blk_alloc ?_ _)); exact BK164.out⟩, ⟨by (with_reducible repeat (first | refine blk_drewN ?_ _ | refine blk_drew ?_ | refine blk_alloc ?_ _)); exact BK165.out⟩, ⟨by (repeat (first | (with_reducible first | exact HB.out | apply below_alloc | apply pw_below_drewN | apply below_drew1 | refine below_set ?_ (Aside0.out GE164) | refine below_set ?_ (Aside0.out GE165)) | exact HB.out))⟩⟩
            case rest =>
              clear HC14
              try clear c1
              try clear p1
              try clear q1
              try clear hx1
              try clear p2
              try clear c3
              try clear c6
              try clear c10
              try clear c10b0
              try clear c11
              try clear c11b0
              try clear c12
              try clear c12b0
              try clear c14
              try clear c16
              try clear c16b0
              try clear c16b1
              try clear c16b2
              try clear p16
              try clear q16
              try clear hx16
              try clear c19
              try clear hcz20_0
              try clear hcz20_1
              try clear hcz7_0
              try clear hcz7_1
              try clear hfz20_0
              try clear hfz20_1
              try clear hfz7_0
              try clear hfz7_1
              try clear hx169_0
              try clear p169
              try clear p2
              try clear q169
              obtain ⟨kq, x31_13, rfl, HA, HJ13, HO_8, HO_15, HO_166000, BK164, BK165, HB⟩ := hcut
              cases kq with
              | zero => exact absurd HA.out (by simp [policy_Parse.j1])
              | succ kj13 =>
                have H := HA.out
                clear HA
                simp only [policy_Parse.j1] at H
                by_cases c22 : x31_13 = true
                · subst c22
                  have H1 : (policy_Parse.l0 kj13 t166 (t166.length : Int) (wrap64 (x17_1 + 1)) x166000_1 a1) = some (r1, r2) := by rw [if_pos rfl] at H; exact H
                  clear H
                  have H := H1
                  clear H1
                  have H' := Aside0.mk H
                  clear H
                  go_wp2
                  go_roundg kj13
                  case measure => have := HK1.out; have := HJ13.out; omega
                  case rel => exact ⟨(wrap64 (x17_1 + 1)), (x166000_1), (u166000), (by first | rfl | (simp; done) | (simp [*]; done)), H', ⟨by have := HK1.out; have := HJ13.out; omega⟩, ⟨by (with_reducible repeat (first | apply Kd.R_alloc | apply Kd.R_drewN | apply Kd.R_drew)); exact Kd.R_mono HO_15.out (fun _ hk => trivial)⟩, ⟨by (with_reducible repeat (first | apply Kd.S_alloc | apply Kd.S_drewN | apply Kd.S_drew)); exact Kd.S_mono HO_166000.out (fun _ hk => hk.2)⟩, ⟨by (with_reducible repeat (first | refine blk_drewN ?_ _ | refine blk_drew ?_ | refine blk_alloc ?_ _)); exact BK164.out⟩, ⟨by (with_reducible repeat (first | refine blk_drewN ?_ _ | refine blk_drew ?_ | refine blk_alloc ?_ _)); exact BK165.out⟩, ⟨by (repeat (first | (with_reducible first | exact HB.out | apply below_alloc | apply pw_below_drewN | apply below_drew1 | refine below_set ?_ (Aside0.out GE164) | refine below_set ?_ (Aside0.out GE165)) | exact HB.out))⟩⟩
                · replace c22 := Bool.eq_false_iff.mpr c22
                  subst c22
                  have H1 : (if 0 < (t170.length : Int) then ((infra_Lower.f (rdOf ByteArray.empty t170 0)).bind fun t174 => ((policy_Policy_rule.f x166000_1 a1 t174).bind fun bt175 => (if bt175.2.2 = true then (policy_Parse.l0 kj13 t166 (t166.length : Int) (wrap64 (x17_1 + 1)) x166000_1 a1) else (if 1 ≤ (t170.length : Int) then ((slices_Clone_string_string.f (t170.drop 1)).bind fun t185 => (if x166000_1.length < 3518437208883 then (policy_Parse.l0 kj13 t166 (t166.length : Int) (wrap64 (x17_1 + 1)) (x166000_1 ++ [(⟨t174, t185⟩ : S52)]) a1) else (none))) else (none))))) else (none)) = some (r1, r2) := by rw [if_neg (show ¬ (false = true) by decide)] at H; exact H
                  clear H
                  have H := H1
                  clear H1
                  by_cases c23 : 0 < (t170.length : Int)
                  · rw [if_pos c23] at H
                    have c23b0 : decide (0 < (t170.length : Int)) = true := decide_eq_true c23
                    have c23b1 : decide (0 < t170.length) = true := decide_eq_true (by omega)
                    clear c23
                    replace H := Option.bind_eq_some_iff.mp H
                    obtain ⟨t174, A240, H⟩ := H
                    replace H : ((policy_Policy_rule.f x166000_1 a1 t174).bind fun bt175 => (if bt175.2.2 = true then (policy_Parse.l0 kj13 t166 (t166.length : Int) (wrap64 (x17_1 + 1)) x166000_1 a1) else (if 1 ≤ (t170.length : Int) then ((slices_Clone_string_string.f (t170.drop 1)).bind fun t185 => (if x166000_1.length < 3518437208883 then (policy_Parse.l0 kj13 t166 (t166.length : Int) (wrap64 (x17_1 + 1)) (x166000_1 ++ [(⟨t174, t185⟩ : S52)]) a1) else (none))) else (none)))) = some (r1, r2) := H
                    have A24 := Aside0.mk A240
                    clear A240
                    replace H := Option.bind_eq_some_iff.mp H
                    obtain ⟨⟨t175, t176, t179⟩, A250, H⟩ := H
                    replace H : (if t179 = true then (policy_Parse.l0 kj13 t166 (t166.length : Int) (wrap64 (x17_1 + 1)) x166000_1 a1) else (if 1 ≤ (t170.length : Int) then ((slices_Clone_string_string.f (t170.drop 1)).bind fun t185 => (if x166000_1.length < 3518437208883 then (policy_Parse.l0 kj13 t166 (t166.length : Int) (wrap64 (x17_1 + 1)) (x166000_1 ++ [(⟨t174, t185⟩ : S52)]) a1) else (none))) else (none))) = some (r1, r2) := H
                    have A25 := Aside0.mk A250
                    clear A250
                    by_cases c26 : t179 = true
                    · subst c26
                      have H1 : (policy_Parse.l0 kj13 t166 (t166.length : Int) (wrap64 (x17_1 + 1)) x166000_1 a1) = some (r1, r2) := by rw [if_pos rfl] at H; exact H
                      clear H
                      have H := H1
                      clear H1
                      have H' := Aside0.mk H
                      clear H
                      obtain ⟨Ao27, co27, eo27⟩ := Kd.R_slice HO_8.out
                      subst eo27
                      have p173 : 0 ≤ (0 : Int) := (by omega)
                      have q173 : 0 < (t170.length : Int) := of_decide_eq_true (by first | (with_reducible assumption) | assumption)
                      obtain ⟨ad173, e173, hx173_0⟩ := Kd.at_string (Kd.R_reads' HO_8.out).2.2 0 p173 q173
                      cases e173
                      have qi173 : (0 < t170.length) = True := eq_true (by omega)
                      (try rw [show ((0 : Int)).toNat = 0 from rfl] at hx173_0)
                      (try rw [Addr.add_zero'] at hx173_0)
                      replace p173 := eq_true p173
                      replace q173 := eq_true q173
                      go_wp2_with (first | ((with_reducible refine gate_callee (f := 29) rfl ?_); refine goesL_ (some 35) rfl rfl Tryd.func29 (by kernel_rfl) rfl #[.string (rdOf ByteArray.empty t170 0)] rfl (by ((try simp only [List.map_toArray, List.map_cons, List.map_nil]); first | done | rfl | (simp only [List.length_drop, List.length_take]; rfl))) ?_; (with_reducible refine (infra_Lower.calls (rdOf ByteArray.empty t170 0) t174 _ A24.out).mono ?_); rintro e w28 ⟨rfl, hb⟩; refine ⟨_, rfl, ?_⟩; have n0_ := Am (Kd.R_below (by (with_reducible repeat (first | apply Kd.R_alloc | apply Kd.R_drewN | apply Kd.R_drew)); exact HO_8.out) hb); have n1_ := Am (Kd.R_below (by (with_reducible repeat (first | apply Kd.R_alloc | apply Kd.R_drewN | apply Kd.R_drew)); exact HO_15.out) hb); have n2_ := Am (Kd.S_below (by (with_reducible repeat (first | apply Kd.S_alloc | apply Kd.S_drewN | apply Kd.S_drew)); exact HO_166000.out) hb); have n3_ := Am (blk_below (g := gb164) (o := .cells #[.slice none 0 0, .bool false] 33 (0, 0)) (by (with_reducible repeat (first | refine blk_drewN ?_ _ | refine blk_drew ?_ | refine blk_alloc ?_ _)); exact BK164.out) hb); have n4_ := Am (blk_below (g := gb165) (o := .cells #[u166000, .bool a1] 33 (0, 0)) (by (with_reducible repeat (first | refine blk_drewN ?_ _ | refine blk_drew ?_ | refine blk_alloc ?_ _)); exact BK165.out) hb); have n5_ := Am (below_step (by (repeat (first | (with_reducible first | exact HB.out | apply below_alloc | apply pw_below_drewN | apply below_drew1 | refine below_set ?_ (Aside0.out GE164) | refine below_set ?_ (Aside0.out GE165)) | exact HB.out))) hb); clear HO_8; clear HO_15; clear HO_166000; clear BK164; clear BK165; clear HB; have HO_8 := n0_; have HO_15 := n1_; have HO_166000 := n2_; have BK164 := n3_; have BK165 := n4_; have HB := n5_; clear n0_ n1_ n2_ n3_ n4_ n5_; (try clear hb); (try clear hb2); (try clear hk); (try clear hi); have hnb29 := NB165_164.out; have hnc29 := NB164_165.out; have hcz30_0 : w28.cell? ⟨gb165, 0, none⟩ = some (u166000) := (blk_cell BK165.out 0).trans rfl; have hcz30_1 : w28.cell? ⟨gb165, 1, none⟩ = some (.bool a1) := (blk_cell BK165.out 1).trans rfl; have hfz30_0 := blk_frozen BK165.out 0; have hfz30_1 := blk_frozen BK165.out 1; obtain ⟨Ao31, co31, eo31⟩ := Kd.S_slice HO_166000.out; subst eo31) | ((with_reducible refine gate_callee (f := 33) rfl ?_); refine goesL_ (some 39) rfl rfl Tryd.func33 (by kernel_rfl) rfl #[.agg #[.slice Ao31 x166000_1.length co31, .bool a1], .string t174] rfl (by ((try simp only [List.map_toArray, List.map_cons, List.map_nil]); first | done | rfl | (simp only [List.length_drop, List.length_take]; rfl))) ?_; (with_reducible refine (policy_Policy_rule.calls (fun k_ => (((some k_ ≠ (.slice (some ad173) t170.length co27 : Value).ownBlock ∧ some k_ ≠ (.slice (some ad169) t166.length co9 : Value).ownBlock) ∧ k_ ≠ gb164) ∧ k_ ≠ gb165)) _ _ x166000_1 a1 t174 t175 t176 true _ ?side1 A25.out).mono ?_); (case side1 => exact Kd.S_V (Kd.S_types (Kd.S_types (HO_166000.out) BK164.out (by decide)) BK165.out (by decide))); rintro e w32 ⟨v177, rfl, ho0, hb⟩; refine ⟨_, rfl, ?_⟩; have n0_ := Am (Kd.R_below (by (with_reducible repeat (first | apply Kd.R_alloc | apply Kd.R_drewN | apply Kd.R_drew)); exact HO_8.out) hb); have n1_ := Am (Kd.R_below (by (with_reducible repeat (first | apply Kd.R_alloc | apply Kd.R_drewN | apply Kd.R_drew)); exact HO_15.out) hb); have n2_ := Am (Kd.S_below (by (with_reducible repeat (first | apply Kd.S_alloc | apply Kd.S_drewN | apply Kd.S_drew)); exact HO_166000.out) hb); have n3_ := Am (Kd.V_lower (Kd.V_mono (ok' := fun k_ => some k_ ≠ (.slice (some ad173) t170.length co27 : Value).ownBlock ∧ some k_ ≠ (.slice (some ad169) t166.length co9 : Value).ownBlock ∧ k_ ≠ gb164 ∧ k_ ≠ gb165) ho0 (fun k_ hk_ => ⟨Or.elim hk_ (fun hs_ => hs_.1.1.1) (fun hn_ => (Kd.fresh' (Kd.R_lt (by (with_reducible repeat (first | apply Kd.R_alloc | apply Kd.R_drewN | apply Kd.R_drew)); exact HO_8.out)) k_ hn_)), Or.elim hk_ (fun hs_ => hs_.1.1.2) (fun hn_ => (Kd.fresh' (Kd.R_lt (by (with_reducible repeat (first | apply Kd.R_alloc | apply Kd.R_drewN | apply Kd.R_drew)); exact HO_15.out)) k_ hn_)), Or.elim hk_ (fun hs_ => hs_.1.2) (fun hn_ => (Kd.freshB (g := gb164) (o := .cells #[.slice none 0 0, .bool false] 33 (0, 0)) (by (with_reducible repeat (first | refine blk_drewN ?_ _ | refine blk_drew ?_ | refine blk_alloc ?_ _)); exact BK164.out) k_ hn_)), Or.elim hk_ (fun hs_ => hs_.2) (fun hn_ => (Kd.freshB (g := gb165) (o := .cells #[.slice Ao31 x166000_1.length co31, .bool a1] 33 (0, 0)) (by (with_reducible repeat (first | refine blk_drewN ?_ _ | refine blk_drew ?_ | refine blk_alloc ?_ _)); exact BK165.out) k_ hn_))⟩)) (below_size (by (repeat (first | (with_reducible first | exact HB.out | apply below_alloc | apply pw_below_drewN | apply below_drew1 | refine below_set ?_ (Aside0.out GE164) | refine below_set ?_ (Aside0.out GE165)) | exact HB.out))))); have n4_ := Am (blk_below (g := gb164) (o := .cells #[.slice none 0 0, .bool false] 33 (0, 0)) (by (with_reducible repeat (first | refine blk_drewN ?_ _ | refine blk_drew ?_ | refine blk_alloc ?_ _)); exact BK164.out) hb); have n5_ := Am (blk_below (g := gb165) (o := .cells #[.slice Ao31 x166000_1.length co31, .bool a1] 33 (0, 0)) (by (with_reducible repeat (first | refine blk_drewN ?_ _ | refine blk_drew ?_ | refine blk_alloc ?_ _)); exact BK165.out) hb); have n6_ := Am (below_step (by (repeat (first | (with_reducible first | exact HB.out | apply below_alloc | apply pw_below_drewN | apply below_drew1 | refine below_set ?_ (Aside0.out GE164) | refine below_set ?_ (Aside0.out GE165)) | exact HB.out))) hb); clear HO_8; clear HO_15; clear HO_166000; clear BK164; clear BK165; clear HB; have HO_8 := n0_; have HO_15 := n1_; have HO_166000 := n2_; have HO178 := n3_; have BK164 := n4_; have BK165 := n5_; have HB := n6_; clear n0_ n1_ n2_ n3_ n4_ n5_ n6_; ((try clear hb); (try clear hb2); (try clear hk); (try clear hi); (try clear ho0))) | ((with_reducible refine gate_dst (N := 10) rfl ?_); (try (refine gate_guard (by rfl) ?_; dsimp only)); refine box_event ?hg (N := 10) ?hd (cs := #[.string (⟨#[]⟩ : ByteArray), .slice none 0 0]) (t := 52) ?hr ?_; ((case hd => rfl); (case hg => rfl); (case hr => first | (go_simp; done) | (go_simp; rfl))); intro gb180 hg w33 hbox hb; have n0_ := Am (Kd.R_below (by (with_reducible repeat (first | apply Kd.R_alloc | apply Kd.R_drewN | apply Kd.R_drew)); exact HO_8.out) hb); have n1_ := Am (Kd.R_below (by (with_reducible repeat (first | apply Kd.R_alloc | apply Kd.R_drewN | apply Kd.R_drew)); exact HO_15.out) hb); have n2_ := Am (Kd.S_below (Kd.S_elderB (by (with_reducible repeat (first | apply Kd.S_alloc | apply Kd.S_drewN | apply Kd.S_drew)); exact HO_166000.out) gb180 (Nat.le_of_eq hg.symm)) hb); have n3_ := Am (Kd.V_below (Kd.V_elderB (by (with_reducible repeat (first | apply Kd.V_alloc | apply Kd.V_drewN | apply Kd.V_drew)); exact HO178.out) gb180 (Nat.le_of_eq hg.symm)) hb); have n4_ := Am (blk_below (g := gb164) (o := .cells #[.slice none 0 0, .bool false] 33 (0, 0)) (by (with_reducible repeat (first | refine blk_drewN ?_ _ | refine blk_drew ?_ | refine blk_alloc ?_ _)); exact BK164.out) hb); have n5_ := Am (blk_below (g := gb165) (o := .cells #[.slice Ao31 x166000_1.length co31, .bool a1] 33 (0, 0)) (by (with_reducible repeat (first | refine blk_drewN ?_ _ | refine blk_drew ?_ | refine blk_alloc ?_ _)); exact BK165.out) hb); have n6_ := Am (below_step (by (repeat (first | (with_reducible first | exact HB.out | apply below_alloc | apply pw_below_drewN | apply below_drew1 | refine below_set ?_ (Aside0.out GE164) | refine below_set ?_ (Aside0.out GE165)) | exact HB.out))) hb); have n7_ := Am (hbox); have n8_ := Am ((by rw [hg]; exact (below_size (by (repeat (first | (with_reducible first | exact HB.out | apply below_alloc | apply pw_below_drewN | apply below_drew1 | refine below_set ?_ (Aside0.out GE164) | refine below_set ?_ (Aside0.out GE165)) | exact HB.out)))) : w.heap.size ≤ gb180)); have n9_ := Am ((by rw [hg]; exact (below_size (by (repeat (first | (with_reducible first | exact HB.out | apply below_alloc | apply pw_below_drewN | apply below_drew1 | refine below_set ?_ (Aside0.out GE164) | refine below_set ?_ (Aside0.out GE165)) | exact HB.out)))) : w.heap.size ≤ gb180)); have n10_ := Am ((by rw [hg]; exact Nat.ne_of_lt (blk_lt (g := gb164) (o := .cells #[.slice none 0 0, .bool false] 33 (0, 0)) (by (with_reducible repeat (first | refine blk_drewN ?_ _ | refine blk_drew ?_ | refine blk_alloc ?_ _)); exact BK164.out)) : gb164 ≠ gb180)); have n11_ := Am ((by rw [hg]; exact Nat.ne_of_gt (blk_lt (g := gb164) (o := .cells #[.slice none 0 0, .bool false] 33 (0, 0)) (by (with_reducible repeat (first | refine blk_drewN ?_ _ | refine blk_drew ?_ | refine blk_alloc ?_ _)); exact BK164.out)) : gb180 ≠ gb164)); have n12_ := Am ((by rw [hg]; exact Nat.ne_of_lt (blk_lt (g := gb165) (o := .cells #[.slice Ao31 x166000_1.length co31, .bool a1] 33 (0, 0)) (by (with_reducible repeat (first | refine blk_drewN ?_ _ | refine blk_drew ?_ | refine blk_alloc ?_ _)); exact BK165.out)) : gb165 ≠ gb180)); have n13_ := Am ((by rw [hg]; exact Nat.ne_of_gt (blk_lt (g := gb165) (o := .cells #[.slice Ao31 x166000_1.length co31, .bool a1] 33 (0, 0)) (by (with_reducible repeat (first | refine blk_drewN ?_ _ | refine blk_drew ?_ | refine blk_alloc ?_ _)); exact BK165.out)) : gb180 ≠ gb165)); clear HO_8; clear HO_15; clear HO_166000; clear HO178; clear BK164; clear BK165; clear HB; have HO_8 := n0_; have HO_15 := n1_; have HO_166000 := n2_; have HO178 := n3_; have BK164 := n4_; have BK165 := n5_; have HB := n6_; have BK180 := n7_; have GW180 := n8_; have GE180 := n9_; have NB164_180 := n10_; have NB180_164 := n11_; have NB165_180 := n12_; have NB180_165 := n13_; clear n0_ n1_ n2_ n3_ n4_ n5_ n6_ n7_ n8_ n9_ n10_ n11_ n12_ n13_; clear hb hbox hg; have hnb34 := NB180_164.out; have hnc34 := NB164_180.out; have hnb35 := NB180_165.out; have hnc35 := NB165_180.out; have hcz36_0 : w33.cell? ⟨gb180, 0, none⟩ = some (.string (⟨#[]⟩ : ByteArray)) := (blk_cell BK180.out 0).trans rfl; have hcz36_1 : w33.cell? ⟨gb180, 1, none⟩ = some (.slice none 0 0) := (blk_cell BK180.out 1).trans rfl; have hfz36_0 := blk_frozen BK180.out 0; have hfz36_1 := blk_frozen BK180.out 1; obtain ⟨Ao37, co37, eo37⟩ := Kd.V_slice HO178.out; subst eo37))
                      go_roundg kj13
                      case measure => have := HK1.out; have := HJ13.out; omega
                      case rel => exact ⟨(wrap64 (x17_1 + 1)), (x166000_1), (.slice Ao31 x166000_1.length co31), (by first | rfl | (simp; done) | (simp [*]; done)), H', ⟨by have := HK1.out; have := HJ13.out; omega⟩, ⟨by (with_reducible repeat (first | apply Kd.R_alloc | apply Kd.R_drewN | apply Kd.R_drew)); exact Kd.R_mono (Kd.R_far (p := ⟨gb180, 1, none⟩) (Kd.R_far (p := ⟨gb180, 0, none⟩) (Kd.R_types HO_15.out BK180.out (by decide)) (fun _ hk => hk.2) (.string t175)) (fun _ hk => hk.2) (.slice Ao37 t176.length co37)) (fun _ hk => trivial)⟩, ⟨by (with_reducible repeat (first | apply Kd.S_alloc | apply Kd.S_drewN | apply Kd.S_drew)); exact Kd.S_mono (Kd.S_far (p := ⟨gb180, 1, none⟩) (Kd.S_far (p := ⟨gb180, 0, none⟩) (Kd.S_mono HO_166000.out (fun k_ hk => (⟨hk, hk.2⟩ : _ ∧ k_ ≠ gb180))) (fun _ hk => hk.2) (.string t175)) (fun _ hk => hk.2) (.slice Ao37 t176.length co37)) (fun _ hk => hk.1.1.2)⟩, ⟨by (with_reducible repeat (first | refine blk_drewN ?_ _ | refine blk_drew ?_ | refine blk_alloc ?_ _)); refine blk_far ?_ NB164_180.out _; (with_reducible repeat (first | refine blk_drewN ?_ _ | refine blk_drew ?_ | refine blk_alloc ?_ _)); refine blk_far ?_ NB164_180.out _; (with_reducible repeat (first | refine blk_drewN ?_ _ | refine blk_drew ?_ | refine blk_alloc ?_ _)); exact BK164.out⟩, ⟨by (with_reducible repeat (first | refine blk_drewN ?_ _ | refine blk_drew ?_ | refine blk_alloc ?_ _)); refine blk_far ?_ NB165_180.out _; (with_reducible repeat (first | refine blk_drewN ?_ _ | refine blk_drew ?_ | refine blk_alloc ?_ _)); refine blk_far ?_ NB165_180.out _; (with_reducible repeat (first | refine blk_drewN ?_ _ | refine blk_drew ?_ | refine blk_alloc ?_ _)); exact BK165.out⟩, ⟨by repeat (first | (with_reducible first | exact HB.out | apply below_alloc | apply pw_below_drewN | apply below_drew1 | refine below_set ?_ GE164.out | refine below_set ?_ GE165.out | refine below_set ?_ GE180.out) | exact HB.out)⟩⟩
                    · replace c26 := Bool.eq_false_iff.mpr c26
                      subst c26
                      have H1 : (if 1 ≤ (t170.length : Int) then ((slices_Clone_string_string.f (t170.drop 1)).bind fun t185 => (if x166000_1.length < 3518437208883 then (policy_Parse.l0 kj13 t166 (t166.length : Int) (wrap64 (x17_1 + 1)) (x166000_1 ++ [(⟨t174, t185⟩ : S52)]) a1) else (none))) else (none)) = some (r1, r2) := by rw [if_neg (show ¬ (false = true) by decide)] at H; exact H
                      clear H
                      have H := H1
                      clear H1
                      by_cases c38 : 1 ≤ (t170.length : Int)
                      · rw [if_pos c38] at H
                        have c38b0 := eq_true c38
                        have c38b1 : decide (1 ≤ (t170.length : Int)) = true := decide_eq_true c38
                        clear c38
                        obtain ⟨y181, hy181⟩ : ∃ y_ : List ByteArray, y_ = (t170.drop 1) := ⟨_, rfl⟩
                        replace H : ((slices_Clone_string_string.f y181).bind fun t185 => (if x166000_1.length < 3518437208883 then (policy_Parse.l0 kj13 t166 (t166.length : Int) (wrap64 (x17_1 + 1)) (x166000_1 ++ [(⟨t174, t185⟩ : S52)]) a1) else (none))) = some (r1, r2) := by first | (rw [hy181]; with_reducible exact H) | (have H2_ := (Option.bind_some _ _).symm.trans H; rw [hy181]; with_reducible exact H2_) | (have H2_ := (Option.bind_some _ _).symm.trans H; with_reducible exact H2_) | with_reducible exact H | (rw [hy181]; exact H) | exact H
                        have Ny181 := Aside0.mk hy181
                        clear hy181
                        replace H := Option.bind_eq_some_iff.mp H
                        obtain ⟨t185, A390, H⟩ := H
                        replace H : (if x166000_1.length < 3518437208883 then (policy_Parse.l0 kj13 t166 (t166.length : Int) (wrap64 (x17_1 + 1)) (x166000_1 ++ [(⟨t174, t185⟩ : S52)]) a1) else (none)) = some (r1, r2) := H
                        have A39 := Aside0.mk A390
                        clear A390
                        by_cases c40 : x166000_1.length < 3518437208883
                        · rw [if_pos c40] at H
                          have LMc40 := Aside0.mk c40
                          clear c40
                          obtain ⟨y188, hy188⟩ : ∃ y_ : List (S52), y_ = (x166000_1 ++ [(⟨t174, t185⟩ : S52)]) := ⟨_, rfl⟩
                          replace H : (policy_Parse.l0 kj13 t166 (t166.length : Int) (wrap64 (x17_1 + 1)) y188 a1) = some (r1, r2) := by first | (rw [hy188]; with_reducible exact H) | (have H2_ := (Option.bind_some _ _).symm.trans H; rw [hy188]; with_reducible exact H2_) | (have H2_ := (Option.bind_some _ _).symm.trans H; with_reducible exact H2_) | with_reducible exact H | (rw [hy188]; exact H) | exact H
                          have Ny188 := Aside0.mk hy188
                          clear hy188
                          have H' := Aside0.mk H
                          clear H
                          obtain ⟨Ao41, co41, eo41⟩ := Kd.R_slice HO_8.out
                          subst eo41
                          have p173 : 0 ≤ (0 : Int) := (by omega)
                          have q173 : 0 < (t170.length : Int) := of_decide_eq_true (by first | (with_reducible assumption) | assumption)
                          obtain ⟨ad173, e173, hx173_0⟩ := Kd.at_string (Kd.R_reads' HO_8.out).2.2 0 p173 q173
                          cases e173
                          have qi173 : (0 < t170.length) = True := eq_true (by omega)
                          (try rw [show ((0 : Int)).toNat = 0 from rfl] at hx173_0)
                          (try rw [Addr.add_zero'] at hx173_0)
                          replace p173 := eq_true p173
                          replace q173 := eq_true q173
                          try go_wp2_with (first | ((with_reducible refine gate_callee (f := 29) rfl ?_); refine goesL_ (some 35) rfl rfl Tryd.func29 (by kernel_rfl) rfl #[.string (rdOf ByteArray.empty t170 0)] rfl (by ((try simp only [List.map_toArray, List.map_cons, List.map_nil]); first | done | rfl | (simp only [List.length_drop, List.length_take]; rfl))) ?_; (with_reducible refine (infra_Lower.calls (rdOf ByteArray.empty t170 0) t174 _ A24.out).mono ?_); rintro e w42 ⟨rfl, hb⟩; refine ⟨_, rfl, ?_⟩; have n0_ := Am (Kd.R_below (by (with_reducible repeat (first | apply Kd.R_alloc | apply Kd.R_drewN | apply Kd.R_drew)); exact HO_8.out) hb); have n1_ := Am (Kd.R_below (by (with_reducible repeat (first | apply Kd.R_alloc | apply Kd.R_drewN | apply Kd.R_drew)); exact HO_15.out) hb); have n2_ := Am (Kd.S_below (by (with_reducible repeat (first | apply Kd.S_alloc | apply Kd.S_drewN | apply Kd.S_drew)); exact HO_166000.out) hb); have n3_ := Am (blk_below (g := gb164) (o := .cells #[.slice none 0 0, .bool false] 33 (0, 0)) (by (with_reducible repeat (first | refine blk_drewN ?_ _ | refine blk_drew ?_ | refine blk_alloc ?_ _)); exact BK164.out) hb); have n4_ := Am (blk_below (g := gb165) (o := .cells #[u166000, .bool a1] 33 (0, 0)) (by (with_reducible repeat (first | refine blk_drewN ?_ _ | refine blk_drew ?_ | refine blk_alloc ?_ _)); exact BK165.out) hb); have n5_ := Am (below_step (by (repeat (first | (with_reducible first | exact HB.out | apply below_alloc | apply pw_below_drewN | apply below_drew1 | refine below_set ?_ (Aside0.out GE164) | refine below_set ?_ (Aside0.out GE165)) | exact HB.out))) hb); clear HO_8; clear HO_15; clear HO_166000; clear BK164; clear BK165; clear HB; have HO_8 := n0_; have HO_15 := n1_; have HO_166000 := n2_; have BK164 := n3_; have BK165 := n4_; have HB := n5_; clear n0_ n1_ n2_ n3_ n4_ n5_; (try clear hb); (try clear hb2); (try clear hk); (try clear hi); have hnb43 := NB165_164.out; have hnc43 := NB164_165.out; have hcz44_0 : w42.cell? ⟨gb165, 0, none⟩ = some (u166000) := (blk_cell BK165.out 0).trans rfl; have hcz44_1 : w42.cell? ⟨gb165, 1, none⟩ = some (.bool a1) := (blk_cell BK165.out 1).trans rfl; have hfz44_0 := blk_frozen BK165.out 0; have hfz44_1 := blk_frozen BK165.out 1; obtain ⟨Ao45, co45, eo45⟩ := Kd.S_slice HO_166000.out; subst eo45) | ((with_reducible refine gate_callee (f := 33) rfl ?_); refine goesL_ (some 39) rfl rfl Tryd.func33 (by kernel_rfl) rfl #[.agg #[.slice Ao45 x166000_1.length co45, .bool a1], .string t174] rfl (by ((try simp only [List.map_toArray, List.map_cons, List.map_nil]); first | done | rfl | (simp only [List.length_drop, List.length_take]; rfl))) ?_; (with_reducible refine (policy_Policy_rule.calls (fun k_ => (((some k_ ≠ (.slice (some ad173) t170.length co41 : Value).ownBlock ∧ some k_ ≠ (.slice (some ad169) t166.length co9 : Value).ownBlock) ∧ k_ ≠ gb164) ∧ k_ ≠ gb165)) _ _ x166000_1 a1 t174 t175 t176 false _ ?side1 A25.out).mono ?_); (case side1 => exact Kd.S_V (Kd.S_types (Kd.S_types (HO_166000.out) BK164.out (by decide)) BK165.out (by decide))); rintro e w46 ⟨v177, rfl, ho0, hb⟩; refine ⟨_, rfl, ?_⟩; have n0_ := Am (Kd.R_below (by (with_reducible repeat (first | apply Kd.R_alloc | apply Kd.R_drewN | apply Kd.R_drew)); exact HO_8.out) hb); have n1_ := Am (Kd.R_below (by (with_reducible repeat (first | apply Kd.R_alloc | apply Kd.R_drewN | apply Kd.R_drew)); exact HO_15.out) hb); have n2_ := Am (Kd.S_below (by (with_reducible repeat (first | apply Kd.S_alloc | apply Kd.S_drewN | apply Kd.S_drew)); exact HO_166000.out) hb); have n3_ := Am (Kd.V_lower (Kd.V_mono (ok' := fun k_ => some k_ ≠ (.slice (some ad173) t170.length co41 : Value).ownBlock ∧ some k_ ≠ (.slice (some ad169) t166.length co9 : Value).ownBlock ∧ k_ ≠ gb164 ∧ k_ ≠ gb165) ho0 (fun k_ hk_ => ⟨Or.elim hk_ (fun hs_ => hs_.1.1.1) (fun hn_ => (Kd.fresh' (Kd.R_lt (by (with_reducible repeat (first | apply Kd.R_alloc | apply Kd.R_drewN | apply Kd.R_drew)); exact HO_8.out)) k_ hn_)), Or.elim hk_ (fun hs_ => hs_.1.1.2) (fun hn_ => (Kd.fresh' (Kd.R_lt (by (with_reducible repeat (first | apply Kd.R_alloc | apply Kd.R_drewN | apply Kd.R_drew)); exact HO_15.out)) k_ hn_)), Or.elim hk_ (fun hs_ => hs_.1.2) (fun hn_ => (Kd.freshB (g := gb164) (o := .cells #[.slice none 0 0, .bool false] 33 (0, 0)) (by (with_reducible repeat (first | refine blk_drewN ?_ _ | refine blk_drew ?_ | refine blk_alloc ?_ _)); exact BK164.out) k_ hn_)), Or.elim hk_ (fun hs_ => hs_.2) (fun hn_ => (Kd.freshB (g := gb165) (o := .cells #[.slice Ao45 x166000_1.length co45, .bool a1] 33 (0, 0)) (by (with_reducible repeat (first | refine blk_drewN ?_ _ | refine blk_drew ?_ | refine blk_alloc ?_ _)); exact BK165.out) k_ hn_))⟩)) (below_size (by (repeat (first | (with_reducible first | exact HB.out | apply below_alloc | apply pw_below_drewN | apply below_drew1 | refine below_set ?_ (Aside0.out GE164) | refine below_set ?_ (Aside0.out GE165)) | exact HB.out))))); have n4_ := Am (blk_below (g := gb164) (o := .cells #[.slice none 0 0, .bool false] 33 (0, 0)) (by (with_reducible repeat (first | refine blk_drewN ?_ _ | refine blk_drew ?_ | refine blk_alloc ?_ _)); exact BK164.out) hb); have n5_ := Am (blk_below (g := gb165) (o := .cells #[.slice Ao45 x166000_1.length co45, .bool a1] 33 (0, 0)) (by (with_reducible repeat (first | refine blk_drewN ?_ _ | refine blk_drew ?_ | refine blk_alloc ?_ _)); exact BK165.out) hb); have n6_ := Am (below_step (by (repeat (first | (with_reducible first | exact HB.out | apply below_alloc | apply pw_below_drewN | apply below_drew1 | refine below_set ?_ (Aside0.out GE164) | refine below_set ?_ (Aside0.out GE165)) | exact HB.out))) hb); clear HO_8; clear HO_15; clear HO_166000; clear BK164; clear BK165; clear HB; have HO_8 := n0_; have HO_15 := n1_; have HO_166000 := n2_; have HO178 := n3_; have BK164 := n4_; have BK165 := n5_; have HB := n6_; clear n0_ n1_ n2_ n3_ n4_ n5_ n6_; ((try clear hb); (try clear hb2); (try clear hk); (try clear hi); (try clear ho0))) | ((with_reducible refine gate_dst (N := 10) rfl ?_); (try (refine gate_guard (by rfl) ?_; dsimp only)); refine box_event ?hg (N := 10) ?hd (cs := #[.string (⟨#[]⟩ : ByteArray), .slice none 0 0]) (t := 52) ?hr ?_; ((case hd => rfl); (case hg => rfl); (case hr => first | (go_simp; done) | (go_simp; rfl))); intro gb180 hg w47 hbox hb; have n0_ := Am (Kd.R_below (by (with_reducible repeat (first | apply Kd.R_alloc | apply Kd.R_drewN | apply Kd.R_drew)); exact HO_8.out) hb); have n1_ := Am (Kd.R_below (by (with_reducible repeat (first | apply Kd.R_alloc | apply Kd.R_drewN | apply Kd.R_drew)); exact HO_15.out) hb); have n2_ := Am (Kd.S_below (Kd.S_elderB (by (with_reducible repeat (first | apply Kd.S_alloc | apply Kd.S_drewN | apply Kd.S_drew)); exact HO_166000.out) gb180 (Nat.le_of_eq hg.symm)) hb); have n3_ := Am (Kd.V_below (Kd.V_elderB (by (with_reducible repeat (first | apply Kd.V_alloc | apply Kd.V_drewN | apply Kd.V_drew)); exact HO178.out) gb180 (Nat.le_of_eq hg.symm)) hb); have n4_ := Am (blk_below (g := gb164) (o := .cells #[.slice none 0 0, .bool false] 33 (0, 0)) (by (with_reducible repeat (first | refine blk_drewN ?_ _ | refine blk_drew ?_ | refine blk_alloc ?_ _)); exact BK164.out) hb); have n5_ := Am (blk_below (g := gb165) (o := .cells #[.slice Ao45 x166000_1.length co45, .bool a1] 33 (0, 0)) (by (with_reducible repeat (first | refine blk_drewN ?_ _ | refine blk_drew ?_ | refine blk_alloc ?_ _)); exact BK165.out) hb); have n6_ := Am (below_step (by (repeat (first | (with_reducible first | exact HB.out | apply below_alloc | apply pw_below_drewN | apply below_drew1 | refine below_set ?_ (Aside0.out GE164) | refine below_set ?_ (Aside0.out GE165)) | exact HB.out))) hb); have n7_ := Am (hbox); have n8_ := Am ((by rw [hg]; exact (below_size (by (repeat (first | (with_reducible first | exact HB.out | apply below_alloc | apply pw_below_drewN | apply below_drew1 | refine below_set ?_ (Aside0.out GE164) | refine below_set ?_ (Aside0.out GE165)) | exact HB.out)))) : w.heap.size ≤ gb180)); have n9_ := Am ((by rw [hg]; exact (below_size (by (repeat (first | (with_reducible first | exact HB.out | apply below_alloc | apply pw_below_drewN | apply below_drew1 | refine below_set ?_ (Aside0.out GE164) | refine below_set ?_ (Aside0.out GE165)) | exact HB.out)))) : w.heap.size ≤ gb180)); have n10_ := Am ((by rw [hg]; exact Nat.ne_of_lt (blk_lt (g := gb164) (o := .cells #[.slice none 0 0, .bool false] 33 (0, 0)) (by (with_reducible repeat (first | refine blk_drewN ?_ _ | refine blk_drew ?_ | refine blk_alloc ?_ _)); exact BK164.out)) : gb164 ≠ gb180)); have n11_ := Am ((by rw [hg]; exact Nat.ne_of_gt (blk_lt (g := gb164) (o := .cells #[.slice none 0 0, .bool false] 33 (0, 0)) (by (with_reducible repeat (first | refine blk_drewN ?_ _ | refine blk_drew ?_ | refine blk_alloc ?_ _)); exact BK164.out)) : gb180 ≠ gb164)); have n12_ := Am ((by rw [hg]; exact Nat.ne_of_lt (blk_lt (g := gb165) (o := .cells #[.slice Ao45 x166000_1.length co45, .bool a1] 33 (0, 0)) (by (with_reducible repeat (first | refine blk_drewN ?_ _ | refine blk_drew ?_ | refine blk_alloc ?_ _)); exact BK165.out)) : gb165 ≠ gb180)); have n13_ := Am ((by rw [hg]; exact Nat.ne_of_gt (blk_lt (g := gb165) (o := .cells #[.slice Ao45 x166000_1.length co45, .bool a1] 33 (0, 0)) (by (with_reducible repeat (first | refine blk_drewN ?_ _ | refine blk_drew ?_ | refine blk_alloc ?_ _)); exact BK165.out)) : gb180 ≠ gb165)); clear HO_8; clear HO_15; clear HO_166000; clear HO178; clear BK164; clear BK165; clear HB; have HO_8 := n0_; have HO_15 := n1_; have HO_166000 := n2_; have HO178 := n3_; have BK164 := n4_; have BK165 := n5_; have HB := n6_; have BK180 := n7_; have GW180 := n8_; have GE180 := n9_; have NB164_180 := n10_; have NB180_164 := n11_; have NB165_180 := n12_; have NB180_165 := n13_; clear n0_ n1_ n2_ n3_ n4_ n5_ n6_ n7_ n8_ n9_ n10_ n11_ n12_ n13_; clear hb hbox hg; have hnb48 := NB180_164.out; have hnc48 := NB164_180.out; have hnb49 := NB180_165.out; have hnc49 := NB165_180.out; have hcz50_0 : w47.cell? ⟨gb180, 0, none⟩ = some (.string (⟨#[]⟩ : ByteArray)) := (blk_cell BK180.out 0).trans rfl; have hcz50_1 : w47.cell? ⟨gb180, 1, none⟩ = some (.slice none 0 0) := (blk_cell BK180.out 1).trans rfl; have hfz50_0 := blk_frozen BK180.out 0; have hfz50_1 := blk_frozen BK180.out 1; obtain ⟨Ao51, co51, eo51⟩ := Kd.V_slice HO178.out; subst eo51))
                          have n0_ : Aside0 (Kd.R Kd.string 9 ((w47.setCell ⟨gb180, 0, none⟩ (.string t175)).setCell ⟨gb180, 1, none⟩ (.slice Ao51 t176.length co51)) w.heap.size (fun k_ => some k_ ≠ (.slice (some ad169) t166.length co9 : Value).ownBlock) (.slice (some ad173) t170.length co41) t170) := ⟨by (with_reducible repeat (first | apply Kd.R_alloc | apply Kd.R_drewN | apply Kd.R_drew)); exact Kd.R_mono (Kd.R_far (p := ⟨gb180, 1, none⟩) (Kd.R_far (p := ⟨gb180, 0, none⟩) (Kd.R_types HO_8.out BK180.out (by decide)) (fun _ hk => hk.2) (.string t175)) (fun _ hk => hk.2) (.slice Ao51 t176.length co51)) (fun _ hk => hk.1)⟩
                          have n1_ : Aside0 (Kd.R Kd.string 9 ((w47.setCell ⟨gb180, 0, none⟩ (.string t175)).setCell ⟨gb180, 1, none⟩ (.slice Ao51 t176.length co51)) w.heap.size (fun k_ => some k_ ≠ (.slice (some ad173) t170.length co41 : Value).ownBlock) (.slice (some ad169) t166.length co9) t166) := ⟨by (with_reducible repeat (first | apply Kd.R_alloc | apply Kd.R_drewN | apply Kd.R_drew)); exact Kd.R_mono (Kd.R_far (p := ⟨gb180, 1, none⟩) (Kd.R_far (p := ⟨gb180, 0, none⟩) (Kd.R_types HO_15.out BK180.out (by decide)) (fun _ hk => hk.2) (.string t175)) (fun _ hk => hk.2) (.slice Ao51 t176.length co51)) (fun _ hk => hk.1)⟩
                          have n2_ : Aside0 (Kd.S k52 52 ((w47.setCell ⟨gb180, 0, none⟩ (.string t175)).setCell ⟨gb180, 1, none⟩ (.slice Ao51 t176.length co51)) w.heap.size (fun k_ => some k_ ≠ (.slice (some ad173) t170.length co41 : Value).ownBlock ∧ some k_ ≠ (.slice (some ad169) t166.length co9 : Value).ownBlock ∧ k_ ≠ gb180) (.slice Ao45 x166000_1.length co45) x166000_1) := ⟨by (with_reducible repeat (first | apply Kd.S_alloc | apply Kd.S_drewN | apply Kd.S_drew)); exact Kd.S_mono (Kd.S_far (p := ⟨gb180, 1, none⟩) (Kd.S_far (p := ⟨gb180, 0, none⟩) (Kd.S_mono HO_166000.out (fun k_ hk => (⟨hk, hk.2⟩ : _ ∧ k_ ≠ gb180))) (fun _ hk => hk.2) (.string t175)) (fun _ hk => hk.2) (.slice Ao51 t176.length co51)) (fun _ hk => ⟨hk.1.1.1, ⟨hk.1.1.2, hk.1.2⟩⟩)⟩
                          have n3_ : Aside0 (Kd.V Kd.string 9 ((w47.setCell ⟨gb180, 0, none⟩ (.string t175)).setCell ⟨gb180, 1, none⟩ (.slice Ao51 t176.length co51)) w.heap.size (fun k_ => some k_ ≠ (.slice (some ad173) t170.length co41 : Value).ownBlock ∧ some k_ ≠ (.slice (some ad169) t166.length co9 : Value).ownBlock ∧ k_ ≠ gb164 ∧ k_ ≠ gb165 ∧ k_ ≠ gb180) (.slice Ao51 t176.length co51) t176) := ⟨by (with_reducible repeat (first | apply Kd.V_alloc | apply Kd.V_drewN | apply Kd.V_drew)); exact Kd.V_mono (Kd.V_far (p := ⟨gb180, 1, none⟩) (Kd.V_far (p := ⟨gb180, 0, none⟩) (Kd.V_mono HO178.out (fun k_ hk => (⟨hk, hk.2⟩ : _ ∧ k_ ≠ gb180))) (fun _ hk => hk.2) (.string t175)) (fun _ hk => hk.2) (.slice Ao51 t176.length co51)) (fun _ hk => ⟨hk.1.1.1, ⟨hk.1.1.2.1, ⟨hk.1.1.2.2.1, ⟨hk.1.1.2.2.2, hk.1.2⟩⟩⟩⟩)⟩
                          have n4_ : Aside0 (((w47.setCell ⟨gb180, 0, none⟩ (.string t175)).setCell ⟨gb180, 1, none⟩ (.slice Ao51 t176.length co51)).heap[gb164]? = some (.cells #[.slice none 0 0, .bool false] 33 (0, 0))) := ⟨by (with_reducible repeat (first | refine blk_drewN ?_ _ | refine blk_drew ?_ | refine blk_alloc ?_ _)); refine blk_far ?_ NB164_180.out _; (with_reducible repeat (first | refine blk_drewN ?_ _ | refine blk_drew ?_ | refine blk_alloc ?_ _)); refine blk_far ?_ NB164_180.out _; (with_reducible repeat (first | refine blk_drewN ?_ _ | refine blk_drew ?_ | refine blk_alloc ?_ _)); exact BK164.out⟩
                          have n5_ : Aside0 (((w47.setCell ⟨gb180, 0, none⟩ (.string t175)).setCell ⟨gb180, 1, none⟩ (.slice Ao51 t176.length co51)).heap[gb165]? = some (.cells #[.slice Ao45 x166000_1.length co45, .bool a1] 33 (0, 0))) := ⟨by (with_reducible repeat (first | refine blk_drewN ?_ _ | refine blk_drew ?_ | refine blk_alloc ?_ _)); refine blk_far ?_ NB165_180.out _; (with_reducible repeat (first | refine blk_drewN ?_ _ | refine blk_drew ?_ | refine blk_alloc ?_ _)); refine blk_far ?_ NB165_180.out _; (with_reducible repeat (first | refine blk_drewN ?_ _ | refine blk_drew ?_ | refine blk_alloc ?_ _)); exact BK165.out⟩
                          have n6_ : Aside0 (((w47.setCell ⟨gb180, 0, none⟩ (.string t175)).setCell ⟨gb180, 1, none⟩ (.slice Ao51 t176.length co51)).heap[gb180]? = some (.cells #[.string t175, .slice Ao51 t176.length co51] 52 (0, 0))) := ⟨by (with_reducible repeat (first | refine blk_drewN ?_ _ | refine blk_drew ?_ | refine blk_alloc ?_ _)); refine blk_put (cs := #[.string t175, .slice none 0 0]) ?_ 1 _ rfl; (with_reducible repeat (first | refine blk_drewN ?_ _ | refine blk_drew ?_ | refine blk_alloc ?_ _)); refine blk_put (cs := #[.string (⟨#[]⟩ : ByteArray), .slice none 0 0]) ?_ 0 _ rfl; (with_reducible repeat (first | refine blk_drewN ?_ _ | refine blk_drew ?_ | refine blk_alloc ?_ _)); exact BK180.out⟩
                          have n7_ : Aside0 (Below w.heap.size w ((w47.setCell ⟨gb180, 0, none⟩ (.string t175)).setCell ⟨gb180, 1, none⟩ (.slice Ao51 t176.length co51))) := ⟨by repeat (first | (with_reducible first | exact HB.out | apply below_alloc | apply pw_below_drewN | apply below_drew1 | refine below_set ?_ GE164.out | refine below_set ?_ GE165.out | refine below_set ?_ GE180.out) | exact HB.out)⟩
                          (try clear HO_8)
                          (try clear HO_15)
                          (try clear HO_166000)
                          (try clear HO178)
                          (try clear BK164)
                          (try clear BK165)
                          (try clear BK180)
                          (try clear HB)
                          generalize ((w47.setCell ⟨gb180, 0, none⟩ (.string t175)).setCell ⟨gb180, 1, none⟩ (.slice Ao51 t176.length co51)) = w52 at n0_ n1_ n2_ n3_ n4_ n5_ n6_ n7_ ⊢
                          have HO_8 := n0_
                          have HO_15 := n1_
                          have HO_166000 := n2_
                          have HO178 := n3_
                          have BK164 := n4_
                          have BK165 := n5_
                          have BK180 := n6_
                          have HB := n7_
                          clear n0_ n1_ n2_ n3_ n4_ n5_ n6_ n7_
                          have n0_ := Am (Kd.R_drew HO_8.out)
                          have n1_ := Am (Kd.R_drew HO_15.out)
                          have n2_ := Am (Kd.S_drew HO_166000.out)
                          have n3_ := Am (Kd.V_drew HO178.out)
                          have n4_ := Am (blk_drew BK164.out)
                          have n5_ := Am (blk_drew BK165.out)
                          have n6_ := Am (blk_drew BK180.out)
                          have n7_ := Am (below_drew1 HB.out)
                          clear HO_8
                          clear HO_15
                          clear HO_166000
                          clear HO178
                          clear BK164
                          clear BK165
                          clear BK180
                          clear HB
                          have HO_8 := n0_
                          have HO_15 := n1_
                          have HO_166000 := n2_
                          have HO178 := n3_
                          have BK164 := n4_
                          have BK165 := n5_
                          have BK180 := n6_
                          have HB := n7_
                          clear n0_ n1_ n2_ n3_ n4_ n5_ n6_ n7_
                          have q54 : (1 : Int) ≤ ((t170.length : Int) : Int) := of_decide_eq_true (by first | (with_reducible assumption) | assumption)
                          obtain ⟨i054, hi054, _, hsz54, _⟩ := info_parts info9
                          have hroom54 : t170.length ≤ co41 := (Kd.R_reads' HO_8.out).2.1
                          have hC54 : Kd.C Kd.string _ (some ad173) t170.length t170 := (Kd.R_reads' HO_8.out).2.2
                          have hcut54 := cut_from (P := Tryd.prog) 22 9 .i64 Tryd.underlying22 hi054 1 hsz54 (some ad173) t170.length co41 1 (by omega) q54
                          have hr54 := Kd.C_drop (m := (1 : Int).toNat) (c := co41) hC54 (by omega) hroom54
                          obtain ⟨A54, hA54⟩ : ∃ A1, A1 = (if co41 = (1 : Int).toNat then (some ad173) else ((some ad173) : Option Addr).map (·.add ((1 : Int).toNat * 1))) := ⟨_, rfl⟩
                          obtain ⟨c54, hc54⟩ : ∃ c1, c1 = co41 - (1 : Int).toNat := ⟨_, rfl⟩
                          have hy54 : y181.length = t170.length - (1 : Int).toNat := (by rw [Ny181.out, List.length_drop] <;> omega)
                          rw [show (t170).drop (1 : Int).toNat = y181 from Ny181.out.symm] at hr54
                          replace hr54 : Kd.C Kd.string _ A54 y181.length y181 := (by rw [hA54]; exact hr54)
                          rw [← hy54, ← hA54, ← hc54] at hcut54
                          have HR184 := Aside0.mk hr54
                          have HC184 := Am (show y181.length ≤ c54 from by rw [hy54, hc54]; exact Nat.sub_le_sub_right hroom54 _)
                          clear hr54 hC54 hroom54 hi054 hsz54 hc54
                          have KY54 := Aside0.mk hy54
                          have KA54 := Aside0.mk hA54
                          clear hy54 hA54
                          have KL54 := Am (show 1 ≤ t170.length from by omega)
                          replace q54 := eq_true q54
                          refine start_ (n := 11) (S := fun w' => w'.cell? ⟨gb165, 0, none⟩ = some (.slice Ao45 x166000_1.length co45) ∧ w'.cell? ⟨gb165, 1, none⟩ = some (.bool a1)) (ds := [10]) #[false, false, false, false, false, false, false, false, false, false, false] (by kernel_rfl) rfl rfl ⟨(blk_cell BK165.out 0).trans rfl, (blk_cell BK165.out 1).trans rfl⟩ (fun hHeld => ?_); refine with_tabW policy_Parse.tab10 policy_Parse.bits10 (fun HT_ HW_ => ?_)
                          generalize w52.drew = w53 at HO_8 HO_15 HO_166000 HO178 BK164 BK165 BK180 HB HR184 hHeld ⊢
                          refine pure_ (i := 0) (N := some 44) (v := ?_) (a' := ?_) #[true, false, false, false, false, false, false, false, false, false, false] rfl rfl (any_of HT_.out (by kernel_rfl)) (fun _ _ _ h => h) (Or.inl ⟨by rfl, ?_⟩) ?_ ?_
                          rotate_left
                          · intro w'
                            go_simp
                            with_reducible rfl
                          rotate_left
                          · simp only [Act.put, List.setIfInBounds_toArray, List.set_cons_zero, List.set_cons_succ, i64_w, i32_w]
                            rfl
                          refine pure_ (i := 2) (N := some 46) (v := ?_) (a' := ?_) #[true, false, true, false, false, false, false, false, false, false, false] rfl rfl (any_of HT_.out (by kernel_rfl)) (fun _ _ _ h => h) (Or.inl ⟨by rfl, ?_⟩) ?_ ?_
                          rotate_left
                          · intro w'
                            go_simp
                            with_reducible rfl
                          rotate_left
                          · simp only [Act.put, List.setIfInBounds_toArray, List.set_cons_zero, List.set_cons_succ, i64_w, i32_w]
                            rfl
                          refine pure_ (i := 3) (N := some 47) (v := ?_) (a' := ?_) #[true, false, true, true, false, false, false, false, false, false, false] rfl rfl (any_of HT_.out (by kernel_rfl)) (fun _ _ _ h => h) (Or.inl ⟨by rfl, ?_⟩) ?_ ?_
                          rotate_left
                          · intro w'
                            go_simp
                            with_reducible rfl
                          rotate_left
                          · simp only [Act.put, List.setIfInBounds_toArray, List.set_cons_zero, List.set_cons_succ, i64_w, i32_w]
                            rfl
                          refine pure_ (i := 4) (N := some 48) (v := ?_) (a' := ?_) #[true, false, true, true, true, false, false, false, false, false, false] rfl rfl (any_of HT_.out (by kernel_rfl)) (fun _ _ _ h => h) (Or.inl ⟨by rfl, ?_⟩) ?_ ?_
                          rotate_left
                          · intro w'
                            go_simp
                            with_reducible rfl
                          rotate_left
                          · simp only [Act.put, List.setIfInBounds_toArray, List.set_cons_zero, List.set_cons_succ, i64_w, i32_w]
                            rfl
                          refine take_ (i := 1) (N := some 45) (v := ?_) (a' := ?_) #[true, true, true, true, true, false, false, false, false, false, false] rfl rfl (take_ofW HT_.out HW_.out (by kernel_rfl)) (fun _ _ _ h => h) (Or.inl ⟨by rfl, ?_⟩) hHeld ?_ ?_
                          rotate_left
                          · rintro w' ⟨s0, s1⟩
                            go_simp
                            with_reducible rfl
                          rotate_left
                          · simp only [Act.put, List.setIfInBounds_toArray, List.set_cons_zero, List.set_cons_succ, i64_w, i32_w]
                            rfl
                          refine one_ (i := 5) (N := some 49) #[true, true, true, true, true, true, false, false, false, false, false] rfl rfl (one_of HT_.out (by kernel_rfl)) (by decide) (fun K hK => ?_)
                          refine goes_ Tryd.func34 (by kernel_rfl) rfl #[.slice A54 y181.length c54] (by rfl) rfl rfl (by ((try simp only [List.map_toArray, List.map_cons, List.map_nil]); first | done | rfl | (simp only [List.length_drop, List.length_take]; rfl))) ?_
                          with_reducible refine (slices_Clone_string_string.calls _ _ y181 t185 _ ?side1 ?side2 A39.out).mono ?_
                          (case side1 => repeat (first | exact (by repeat (first | (with_reducible exact HR184.out) | (with_reducible refine Kd.C_alloc ?_ _) | (with_reducible refine Kd.C_drewN ?_ _) | (with_reducible refine Kd.C_drew ?_) | exact HR184.out)) | (first | (with_reducible refine Kd.C_alloc ?_ _) | (with_reducible refine Kd.C_drewN ?_ _) | (with_reducible refine Kd.C_drew ?_))))
                          (case side2 => exact HC184.out)
                          rintro e w55 ⟨v186, rfl, ho0, hb⟩
                          refine ⟨_, rfl, ?_⟩
                          have n0_ := Am (Kd.R_elder' (by (with_reducible repeat (first | apply Kd.R_alloc | apply Kd.R_drewN | apply Kd.R_drew)); exact HO_8.out) (Kd.R_base ho0) hb)
                          have n1_ := Am (Kd.R_elder' (by (with_reducible repeat (first | apply Kd.R_alloc | apply Kd.R_drewN | apply Kd.R_drew)); exact HO_15.out) (Kd.R_base ho0) hb)
                          have n2_ := Am (Kd.S_elder' (by (with_reducible repeat (first | apply Kd.S_alloc | apply Kd.S_drewN | apply Kd.S_drew)); exact HO_166000.out) (Kd.R_base ho0) hb)
                          have n3_ := Am (Kd.V_elder' (by (with_reducible repeat (first | apply Kd.V_alloc | apply Kd.V_drewN | apply Kd.V_drew)); exact HO178.out) (Kd.R_base ho0) hb)
                          have n4_ := Am (Kd.R_lower (Kd.R_new' (Kd.R_new' ho0 (Kd.R_lt (by (with_reducible repeat (first | apply Kd.R_alloc | apply Kd.R_drewN | apply Kd.R_drew)); exact HO_8.out))) (Kd.R_lt (by (with_reducible repeat (first | apply Kd.R_alloc | apply Kd.R_drewN | apply Kd.R_drew)); exact HO_15.out))) (below_size (by repeat (first | (with_reducible first | exact HB.out | apply below_alloc | apply pw_below_drewN | apply below_drew1 | refine below_set ?_ GE164.out | refine below_set ?_ GE165.out | refine below_set ?_ GE180.out) | exact HB.out))))
                          have n5_ := Am (blk_below (g := gb164) (o := .cells #[.slice none 0 0, .bool false] 33 (0, 0)) (by (with_reducible repeat (first | refine blk_drewN ?_ _ | refine blk_drew ?_ | refine blk_alloc ?_ _)); exact BK164.out) hb)
                          have n6_ := Am (blk_below (g := gb165) (o := .cells #[.slice Ao45 x166000_1.length co45, .bool a1] 33 (0, 0)) (by (with_reducible repeat (first | refine blk_drewN ?_ _ | refine blk_drew ?_ | refine blk_alloc ?_ _)); exact BK165.out) hb)
                          have n7_ := Am (blk_below (g := gb180) (o := .cells #[.string t175, .slice Ao51 t176.length co51] 52 (0, 0)) (by (with_reducible repeat (first | refine blk_drewN ?_ _ | refine blk_drew ?_ | refine blk_alloc ?_ _)); exact BK180.out) hb)
                          have n8_ := Am (Kd.C_below (by repeat (first | (with_reducible exact HR184.out) | (with_reducible refine Kd.C_alloc ?_ _) | (with_reducible refine Kd.C_drewN ?_ _) | (with_reducible refine Kd.C_drew ?_) | exact HR184.out)) hb)
                          have n9_ := Am (below_step (by repeat (first | (with_reducible first | exact HB.out | apply below_alloc | apply pw_below_drewN | apply below_drew1 | refine below_set ?_ GE164.out | refine below_set ?_ GE165.out | refine below_set ?_ GE180.out) | exact HB.out)) hb)
                          clear HO_8
                          clear HO_15
                          clear HO_166000
                          clear HO178
                          clear BK164
                          clear BK165
                          clear BK180
                          clear HR184
                          clear HB
                          have HO_8 := n0_
                          have HO_15 := n1_
                          have HO_166000 := n2_
                          have HO178 := n3_
                          have HO187 := n4_
                          have BK164 := n5_
                          have BK165 := n6_
                          have BK180 := n7_
                          have HR184 := n8_
                          have HB := n9_
                          clear n0_ n1_ n2_ n3_ n4_ n5_ n6_ n7_ n8_ n9_
                          (try clear hb)
                          (try clear hb2)
                          (try clear hk)
                          (try clear hi)
                          (try clear ho0)
                          obtain ⟨Ao56, co56, eo56⟩ := Kd.R_slice HO187.out
                          (first | subst eo56 | (injection eo56 with f1_ f2_ f3_; have f4_ := f1_.symm; have f5_ := f3_.symm; clear f1_ f2_ f3_; subst f4_; subst f5_))
                          refine hK.out _ _ ⟨(blk_cell BK165.out 0).trans rfl, (blk_cell BK165.out 1).trans rfl⟩ (fun hHeld => ?_)
                          clear hK K
                          refine norm_ (a' := ?_) ?_ ?_
                          rotate_left
                          · show Act.put _ (some 49) _ = _
                            simp only [Act.put, List.setIfInBounds_toArray, List.set_cons_zero, List.set_cons_succ, i64_w, i32_w]
                            rfl
                          refine pure_ (i := 6) (N := some 50) (v := ?_) (a' := ?_) #[true, true, true, true, true, true, true, false, false, false, false] rfl rfl (any_of HT_.out (by kernel_rfl)) (fun _ _ _ h => h) (Or.inl ⟨by rfl, ?_⟩) ?_ ?_
                          rotate_left
                          · intro w'
                            go_simp
                            with_reducible rfl
                          rotate_left
                          · simp only [Act.put, List.setIfInBounds_toArray, List.set_cons_zero, List.set_cons_succ, i64_w, i32_w]
                            rfl
                          refine one_ (i := 7) (N := some 51) #[true, true, true, true, true, true, true, true, false, false, false] rfl rfl (one_of HT_.out (by kernel_rfl)) (by decide) (fun K hK => ?_)
                          refine value_ (w1 := ?_) (v := ?_) (by rfl) rfl ?_ ?_
                          rotate_left 2
                          · go_simp
                            constructor
                            · rfl
                            · rfl
                          refine hK.out _ _ ⟨(blk_cell (blk_alloc BK165.out _) 0).trans rfl, (blk_cell (blk_alloc BK165.out _) 1).trans rfl⟩ (fun hHeld => ?_)
                          clear hK K
                          refine norm_ (a' := ?_) ?_ ?_
                          rotate_left
                          · show Act.put _ (some 51) _ = _
                            simp only [Act.put, List.setIfInBounds_toArray, List.set_cons_zero, List.set_cons_succ, i64_w, i32_w]
                            rfl
                          refine one_ (i := 8) (N := some 52) #[true, true, true, true, true, true, true, true, true, false, false] rfl rfl (one_of HT_.out (by kernel_rfl)) (by decide) (fun K hK => ?_)
                          refine Kd.S_append_step k52 (w0 := w) w.heap.size (by rfl) (.tmp 45) (.tmp 51) 31 52 (.agg #[(.string ⟨#[]⟩), (.slice none 0 0)]) 40 rfl Tryd.underlying31 info52 rfl (by decide) (by omega) (.slice Ao45 x166000_1.length co45) x166000_1 (⟨t174, t185⟩ : S52) [.string t174, .slice Ao56 t185.length co56] (fun k_ => some k_ ≠ (.slice (some ad173) t170.length co41 : Value).ownBlock ∧ some k_ ≠ (.slice (some ad169) t166.length co9 : Value).ownBlock ∧ k_ ≠ gb180) (fun k_ => some k_ = (.slice Ao56 t185.length co56 : Value).ownBlock) rfl rfl ?aP (fun k_ hk_ => ((Kd.R_mono (ok' := fun k_ => ((fun k_ => some k_ ≠ (.slice (some ad173) t170.length co41 : Value).ownBlock ∧ some k_ ≠ (.slice (some ad169) t166.length co9 : Value).ownBlock ∧ k_ ≠ gb180)) k_ ∧ some k_ ≠ (.slice Ao45 x166000_1.length co45 : Value).ownBlock) (Kd.R_types (Kd.R_apart' (HO187.out) (Kd.S_typed HO_166000.out) (by decide)) BK180.out (by decide)) (fun k_ hk => ⟨⟨hk.1.1.1.2, ⟨hk.1.1.2, hk.2⟩⟩, hk.1.2⟩))).1 k_ hk_.symm) ?aF ?aO ?aB ?aS ?aL ?_
                          (case aP => exact k52_mkM _ _ _ (⟨t174, t185⟩ : S52) (Kd.R_mono (Kd.R_tight rfl (Kd.R_mono (ok' := fun k_ => ((fun k_ => some k_ ≠ (.slice (some ad173) t170.length co41 : Value).ownBlock ∧ some k_ ≠ (.slice (some ad169) t166.length co9 : Value).ownBlock ∧ k_ ≠ gb180)) k_ ∧ some k_ ≠ (.slice Ao45 x166000_1.length co45 : Value).ownBlock) (Kd.R_types (Kd.R_apart' (HO187.out) (Kd.S_typed HO_166000.out) (by decide)) BK180.out (by decide)) (fun k_ hk => ⟨⟨hk.1.1.1.2, ⟨hk.1.1.2, hk.2⟩⟩, hk.1.2⟩))) (fun _ h_ => h_)))
                          (case aB => exact (by repeat (first | (with_reducible first | exact HB.out | apply below_alloc | apply pw_below_drewN | apply below_drew1 | refine below_set ?_ GE164.out | refine below_set ?_ GE165.out | refine below_set ?_ GE180.out) | exact HB.out)))
                          (case aF => exact (fun k_ hk => ⟨Kd.fresh' (Kd.R_lt (by (with_reducible repeat (first | apply Kd.R_alloc | apply Kd.R_drewN | apply Kd.R_drew)); exact HO_8.out)) k_ hk, Kd.fresh' (Kd.R_lt (by (with_reducible repeat (first | apply Kd.R_alloc | apply Kd.R_drewN | apply Kd.R_drew)); exact HO_15.out)) k_ hk, Kd.freshB (g := gb180) (o := .cells #[.string t175, .slice Ao51 t176.length co51] 52 (0, 0)) (by (with_reducible repeat (first | refine blk_drewN ?_ _ | refine blk_drew ?_ | refine blk_alloc ?_ _)); exact BK180.out) k_ hk⟩))
                          (case aO => exact (by (with_reducible repeat (first | apply Kd.S_alloc | apply Kd.S_drewN | apply Kd.S_drew)); exact Kd.S_mono HO_166000.out (fun k_ hk => ⟨⟨hk.1.1, ⟨hk.1.2.1, hk.1.2.2⟩⟩, fun e_ => hk.2 e_⟩)))
                          (case aS => exact (below_size (by repeat (first | (with_reducible first | exact HB.out | apply below_alloc | apply pw_below_drewN | apply below_drew1 | refine below_set ?_ GE164.out | refine below_set ?_ GE165.out | refine below_set ?_ GE180.out) | exact HB.out))))
                          (case aL => have := LMc40.out; omega)
                          intro v189 w57 ho hb hg hat
                          rw [← Ny188.out] at ho
                          have n0_ := Am (Kd.R_over' (by (with_reducible repeat (first | apply Kd.R_alloc | apply Kd.R_drewN | apply Kd.R_drew)); exact HO_8.out) (Kd.S_typed (by (with_reducible repeat (first | apply Kd.S_alloc | apply Kd.S_drewN | apply Kd.S_drew)); exact HO_166000.out)) (by decide) hg)
                          have n1_ := Am (Kd.R_over' (by (with_reducible repeat (first | apply Kd.R_alloc | apply Kd.R_drewN | apply Kd.R_drew)); exact HO_15.out) (Kd.S_typed (by (with_reducible repeat (first | apply Kd.S_alloc | apply Kd.S_drewN | apply Kd.S_drew)); exact HO_166000.out)) (by decide) hg)
                          have n2_ := Am (blk_grown (g := gb164) (o := .cells #[.slice none 0 0, .bool false] 33 (0, 0)) (by (with_reducible repeat (first | refine blk_drewN ?_ _ | refine blk_drew ?_ | refine blk_alloc ?_ _)); exact BK164.out) hg (Kd.S_ne HO_166000.out BK164.out (by decide)))
                          have n3_ := Am (blk_grown (g := gb165) (o := .cells #[.slice Ao45 x166000_1.length co45, .bool a1] 33 (0, 0)) (by (with_reducible repeat (first | refine blk_drewN ?_ _ | refine blk_drew ?_ | refine blk_alloc ?_ _)); exact BK165.out) hg (Kd.S_ne HO_166000.out BK165.out (by decide)))
                          have n4_ := Am (blk_grown (g := gb180) (o := .cells #[.string t175, .slice Ao51 t176.length co51] 52 (0, 0)) (by (with_reducible repeat (first | refine blk_drewN ?_ _ | refine blk_drew ?_ | refine blk_alloc ?_ _)); exact BK180.out) hg (Kd.S_away HO_166000.out (fun _ hk => hk.1.2.2)))
                          have n5_ := Am (hb)
                          have n6_ := Am ((show Kd.C Kd.string w57 A54 y181.length y181 from by rw [Ny181.out, KA54.out]; exact Kd.C_drop (m := 1) (c := co41) ((Kd.R_reads' (Kd.R_over' (by (with_reducible repeat (first | apply Kd.R_alloc | apply Kd.R_drewN | apply Kd.R_drew)); exact HO_8.out) (Kd.S_typed (by (with_reducible repeat (first | apply Kd.S_alloc | apply Kd.S_drewN | apply Kd.S_drew)); exact HO_166000.out)) (by decide) hg)).2.2) KL54.out ((Kd.R_reads' (Kd.R_over' (by (with_reducible repeat (first | apply Kd.R_alloc | apply Kd.R_drewN | apply Kd.R_drew)); exact HO_8.out) (Kd.S_typed (by (with_reducible repeat (first | apply Kd.S_alloc | apply Kd.S_drewN | apply Kd.S_drew)); exact HO_166000.out)) (by decide) hg)).2.1)))
                          have n7_ := Am (ho)
                          clear HO_8
                          clear HO_15
                          clear BK164
                          clear BK165
                          clear BK180
                          clear HB
                          clear HR184
                          clear HO_166000
                          clear HO187
                          have HO_8 := n0_
                          have HO_15 := n1_
                          have BK164 := n2_
                          have BK165 := n3_
                          have BK180 := n4_
                          have HB := n5_
                          have HR184 := n6_
                          have HO190 := n7_
                          clear n0_ n1_ n2_ n3_ n4_ n5_ n6_ n7_
                          clear ho hb hg hat
                          obtain ⟨Ao58, co58, eo58⟩ := Kd.S_slice HO190.out
                          (first | subst eo58 | (injection eo58 with f1_ f2_ f3_; have f4_ := f1_.symm; have f5_ := f3_.symm; clear f1_ f2_ f3_; subst f4_; subst f5_))
                          refine hK.out _ _ ⟨(blk_cell BK165.out 0).trans rfl, (blk_cell BK165.out 1).trans rfl⟩ (fun hHeld => ?_)
                          clear hK K
                          refine norm_ (a' := ?_) ?_ ?_
                          rotate_left
                          · show Act.put _ (some 52) _ = _
                            simp only [Act.put, List.setIfInBounds_toArray, List.set_cons_zero, List.set_cons_succ, i64_w, i32_w]
                            rfl
                          refine pure_ (i := 9) (N := some 53) (v := ?_) (a' := ?_) #[true, true, true, true, true, true, true, true, true, true, false] rfl rfl (any_of HT_.out (by kernel_rfl)) (fun _ _ _ h => h) (Or.inl ⟨by rfl, ?_⟩) ?_ ?_
                          rotate_left
                          · intro w'
                            go_simp
                            with_reducible rfl
                          rotate_left
                          · simp only [Act.put, List.setIfInBounds_toArray, List.set_cons_zero, List.set_cons_succ, i64_w, i32_w]
                            rfl
                          refine last_ (i := 10) (N := none) #[true, true, true, true, true, true, true, true, true, true, true] rfl rfl (one_of HT_.out (by kernel_rfl)) (by decide) (fun K hK => ?_)
                          have hs59 : w57.cell? ⟨gb165, 0, none⟩ = some (.slice Ao45 x166000_1.length co45) := (blk_cell BK165.out 0).trans rfl
                          have hfs59 := blk_frozen BK165.out 0
                          have hns59_0 := NB164_165.out
                          have hns59_2 := NB180_165.out
                          have hms59_0 := NB165_164.out
                          have hms59_2 := NB165_180.out
                          refine skip_ (w1 := ?_) (by rfl) rfl ?_ ?_
                          rotate_left
                          · go_simp
                            rfl
                          refine hK.out _ _ ?_
                          clear hK K
                          refine done_ (done_of HT_.out (by kernel_rfl)) ?_
                          try go_wp2
                          go_roundg kj13
                          case measure => have := HK1.out; have := HJ13.out; omega
                          case rel => exact ⟨(wrap64 (x17_1 + 1)), (y188), (.slice Ao58 y188.length co58), (by first | rfl | (simp; done) | (simp [*]; done)), H', ⟨by have := HK1.out; have := HJ13.out; omega⟩, ⟨by (with_reducible repeat (first | apply Kd.R_alloc | apply Kd.R_drewN | apply Kd.R_drew)); exact Kd.R_mono (Kd.R_far (p := ⟨gb165, 0, none⟩) (Kd.R_types HO_15.out BK165.out (by decide)) (fun _ hk => hk.2) (.slice Ao58 y188.length co58)) (fun _ hk => trivial)⟩, ⟨by (with_reducible repeat (first | apply Kd.S_alloc | apply Kd.S_drewN | apply Kd.S_drew)); exact Kd.S_mono (Kd.S_far (p := ⟨gb165, 0, none⟩) (Kd.S_types HO190.out BK165.out (by decide)) (fun _ hk => hk.2) (.slice Ao58 y188.length co58)) (fun _ hk => hk.1.2.1)⟩, ⟨by (with_reducible repeat (first | refine blk_drewN ?_ _ | refine blk_drew ?_ | refine blk_alloc ?_ _)); refine blk_far ?_ NB164_165.out _; (with_reducible repeat (first | refine blk_drewN ?_ _ | refine blk_drew ?_ | refine blk_alloc ?_ _)); exact BK164.out⟩, ⟨by (with_reducible repeat (first | refine blk_drewN ?_ _ | refine blk_drew ?_ | refine blk_alloc ?_ _)); refine blk_put (cs := #[.slice Ao45 x166000_1.length co45, .bool a1]) ?_ 0 _ rfl; (with_reducible repeat (first | refine blk_drewN ?_ _ | refine blk_drew ?_ | refine blk_alloc ?_ _)); exact BK165.out⟩, ⟨by repeat (first | (with_reducible first | exact HB.out | apply below_alloc | apply pw_below_drewN | apply below_drew1 | refine below_set ?_ GE164.out | refine below_set ?_ GE165.out | refine below_set ?_ GE180.out) | exact HB.out)⟩⟩
                        · rw [if_neg c40] at H
                          exact absurd H (by simp)
                      · rw [if_neg c38] at H
                        exact absurd H (by simp)
                  · rw [if_neg c23] at H
                    exact absurd H (by simp)
          · rw [if_neg c12] at H
            exact absurd H (by simp)
        · rw [if_neg c11] at H
          exact absurd H (by simp)
      · rw [if_neg c10] at H
        have c10b0 : decide (x17_1 < (t166.length : Int)) = false := decide_eq_false c10
        clear c10
        simp only [Option.some.injEq, Prod.mk.injEq] at H
        obtain ⟨rfl, rfl⟩ := H
        have hnb60 := NB165_164.out
        have hnc60 := NB164_165.out
        have hcz61_0 : wr.cell? ⟨gb165, 0, none⟩ = some (u166000) := (blk_cell BK165.out 0).trans rfl
        have hcz61_1 : wr.cell? ⟨gb165, 1, none⟩ = some (.bool a1) := (blk_cell BK165.out 1).trans rfl
        have hfz61_0 := blk_frozen BK165.out 0
        have hfz61_1 := blk_frozen BK165.out 1
        obtain ⟨Ao62, co62, eo62⟩ := Kd.S_slice HO_166000.out
        subst eo62
        have hcz63_0 : wr.cell? ⟨gb164, 0, none⟩ = some (.slice none 0 0) := (blk_cell BK164.out 0).trans rfl
        have hcz63_1 : wr.cell? ⟨gb164, 1, none⟩ = some (.bool false) := (blk_cell BK164.out 1).trans rfl
        have hfz63_0 := blk_frozen BK164.out 0
        have hfz63_1 := blk_frozen BK164.out 1
        go_wp2
        refine bodyPost_ret (results_cell_row rfl _ _ gb164 33 #[.slice Ao62 x166000_1.length co62, .bool a1] (0, 0) _ rfl (by (with_reducible repeat (first | refine blk_drewN ?_ _ | refine blk_drew ?_ | refine blk_alloc ?_ _)); refine blk_put (cs := #[.slice Ao62 x166000_1.length co62, .bool false]) ?_ 1 _ rfl; (with_reducible repeat (first | refine blk_drewN ?_ _ | refine blk_drew ?_ | refine blk_alloc ?_ _)); refine blk_put (cs := #[.slice none 0 0, .bool false]) ?_ 0 _ rfl; (with_reducible repeat (first | refine blk_drewN ?_ _ | refine blk_drew ?_ | refine blk_alloc ?_ _)); exact BK164.out) Tryd.underlying33 rfl (by kernel_rfl)) rfl ?_
        exact ⟨_, by (first | rfl | (simp [errW_none, errW_some] <;> rfl) | (simp [*, errW_none, errW_some] <;> rfl)), by (with_reducible repeat (first | apply Kd.S_alloc | apply Kd.S_drewN | apply Kd.S_drew)); exact Kd.S_mono (Kd.S_far (p := ⟨gb164, 1, none⟩) (Kd.S_far (p := ⟨gb164, 0, none⟩) (Kd.S_types HO_166000.out BK164.out (by decide)) (fun _ hk => hk.2) (.slice Ao62 x166000_1.length co62)) (fun _ hk => hk.2) (.bool a1)) (fun _ hk => trivial), by (repeat (first | (with_reducible first | exact HB.out | apply below_alloc | apply pw_below_drewN | apply below_drew1 | refine below_set ?_ (Aside0.out GE164) | refine below_set ?_ (Aside0.out GE165)) | exact HB.out))⟩

/-! ### stringslite_HasSuffix: function 44 -/
def stringslite_HasSuffix.f (a0 : ByteArray) (a1 : ByteArray) : Option (Bool) := if (a0.size : Int) ≥ (a1.size : Int) then (if 0 ≤ (wrap64 ((a0.size : Int) - (a1.size : Int))) then (if (wrap64 ((a0.size : Int) - (a1.size : Int))) ≤ (a0.size : Int) then (some ((a0.extract ((wrap64 ((a0.size : Int) - (a1.size : Int))) : Int).toNat a0.size).toList == a1.toList)) else (none)) else (none)) else (some false)
set_option maxHeartbeats 8000000 in
set_option maxRecDepth 100000 in
theorem stringslite_HasSuffix.calls (a0 : ByteArray) (a1 : ByteArray) (r : Bool) (w : World) (h : stringslite_HasSuffix.f a0 a1 = some r) :
    Calls Tryd.prog 44 #[.string a0, .string a1] w fun e w' => e = .returned (.bool r) ∧ Drawn0 w w' := by
  have H : (if (a0.size : Int) ≥ (a1.size : Int) then (if 0 ≤ (wrap64 ((a0.size : Int) - (a1.size : Int))) then (if (wrap64 ((a0.size : Int) - (a1.size : Int))) ≤ (a0.size : Int) then (some ((a0.extract ((wrap64 ((a0.size : Int) - (a1.size : Int))) : Int).toNat a0.size).toList == a1.toList)) else (none)) else (none)) else (some false)) = some r := h
  clear h
  by_cases c3 : (a0.size : Int) ≥ (a1.size : Int)
  · rw [if_pos c3] at H
    have c3b0 : decide ((a1.size : Int) ≤ (a0.size : Int)) = true := decide_eq_true c3
    have c3b1 : decide (a1.size ≤ a0.size) = true := decide_eq_true (Int.ofNat_le.mp c3)
    clear c3
    obtain ⟨ji4, hji4⟩ : ∃ j_ : Int, (wrap64 ((a0.size : Int) - (a1.size : Int))) = j_ := ⟨_, rfl⟩
    replace H : (if 0 ≤ (ji4) then (if (ji4) ≤ (a0.size : Int) then (some ((a0.extract ((ji4) : Int).toNat a0.size).toList == a1.toList)) else (none)) else (none)) = some r := by first | (rw [hji4] at H; exact H) | (simp only [hji4] at H ⊢; exact H)
    have hji4w : (IntKind.i64.wrap ((a0.size : Int) - (a1.size : Int))) = ji4 := (i64_w _).trans hji4
    by_cases c5 : 0 ≤ (ji4)
    · rw [if_pos c5] at H
      have c5b0 := eq_true c5
      have c5b1 : decide (0 ≤ (ji4)) = true := decide_eq_true c5
      clear c5
      by_cases c6 : (ji4) ≤ (a0.size : Int)
      · rw [if_pos c6] at H
        have c6b0 := eq_true c6
        have c6b1 : decide ((ji4) ≤ (a0.size : Int)) = true := decide_eq_true c6
        clear c6
        obtain rfl := Option.some.inj H
        go_enter Tryd.func44, Tryd.ntmps44
        go_wp2
        go_ret
        exact ⟨by first | rfl | (simp; done) | (simp only [← hji4] <;> (first | rfl | simp)) | (simp [*]; done), by repeat (first | exact Drawn0.refl _ | apply Drawn0.step)⟩
      · rw [if_neg c6] at H
        exact absurd H (by simp)
    · rw [if_neg c5] at H
      exact absurd H (by simp)
  · rw [if_neg c3] at H
    have c3b0 : decide ((a1.size : Int) ≤ (a0.size : Int)) = false := decide_eq_false c3
    have c3b1 : decide (a1.size ≤ a0.size) = false := decide_eq_false (fun h => c3 (Int.ofNat_le.mpr h))
    clear c3
    obtain rfl := Option.some.inj H
    go_enter Tryd.func44, Tryd.ntmps44
    go_wp2
    go_ret
    exact ⟨by first | rfl | (simp; done) | (simp [*]; done) | (congr 2; generalize ByteArray.toList _ = l; cases l <;> rfl), by repeat (first | exact Drawn0.refl _ | apply Drawn0.step)⟩

/-! ### strings_HasSuffix: function 31 -/
def strings_HasSuffix.f (a0 : ByteArray) (a1 : ByteArray) : Option (Bool) := (stringslite_HasSuffix.f a0 a1).bind fun t191 => (some t191)
set_option maxHeartbeats 8000000 in
set_option maxRecDepth 100000 in
theorem strings_HasSuffix.calls (a0 : ByteArray) (a1 : ByteArray) (r : Bool) (w : World) (h : strings_HasSuffix.f a0 a1 = some r) :
    Calls Tryd.prog 31 #[.string a0, .string a1] w fun e w' => e = .returned (.bool r) ∧ Drawn0 w w' := by
  have H : ((stringslite_HasSuffix.f a0 a1).bind fun t191 => (some t191)) = some r := h
  clear h
  replace H := Option.bind_eq_some_iff.mp H
  obtain ⟨t191, A30, H⟩ := H
  replace H : (some t191) = some r := H
  have A3 := Aside0.mk A30
  clear A30
  obtain rfl := Option.some.inj H
  go_enter Tryd.func31, Tryd.ntmps31
  go_wp2_with (first | ((with_reducible refine gate_callee (f := 44) rfl ?_); refine goesL_ (some 7) rfl rfl Tryd.func44 (by kernel_rfl) rfl #[.string a0, .string a1] rfl (by ((try simp only [List.map_toArray, List.map_cons, List.map_nil]); first | done | rfl | (simp only [List.length_drop, List.length_take]; rfl))) ?_; (with_reducible refine (stringslite_HasSuffix.calls a0 a1 t191 _ A3.out).mono ?_); rintro e w' ⟨rfl, ⟨nd, rfl⟩⟩; refine ⟨_, rfl, ?_⟩))
  go_ret
  exact ⟨by first | rfl | (simp; done) | (simp [*]; done) | (congr 2; generalize ByteArray.toList _ = l; cases l <;> rfl), by repeat (first | exact Drawn0.refl _ | apply Drawn0.step)⟩

end Go.Proofs.YtohcjdninpjpgaaDoor.PX
