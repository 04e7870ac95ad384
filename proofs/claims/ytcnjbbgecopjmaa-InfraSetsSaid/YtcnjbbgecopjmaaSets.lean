/- Walk of InfraSets, printed by a program and turned to a slice of bytes that came in. -/
import Derived.Test.YtcnjbbgecopjmaaPXx4
import Derived.Test.YtcnjbbgecopjmaaFew
namespace Go.Proofs.Ytcnjbbgecopjmaa.PSets
open Go.Proofs.Ytcnjbbgecopjmaa.Own Go.Proofs.Ytcnjbbgecopjmaa.PX
open Go.RowKit Go.Proofs.YtcnjbbgecopjmaaW.PrintWords Go.Proofs.YtcnjbbgecopjmaaW.PrintLast Go.Proofs.YtcnjbbgecopjmaaW.PrintMore
attribute [local go_sem] max2_int min2_int max_two min_two max_three min_three max_four min_four   -- for this text's walks alone
set_option linter.unusedVariables false
set_option linter.unusedSimpArgs false

/-! ### ostiarylaw1_InfraSets: function 3 -/
mutual
def ostiarylaw1_InfraSets.l0 : Nat → ByteArray → List Int → Int → Option (Bool)
  | 0, _, _, _ => none
  | k + 1, x3, x4, x5 => if x5 < (x4.length : Int) then (if 0 ≤ x5 then ((infra_Percent.f k x3 (rd x4 x5)).bind fun t163 => ((infra_Percent.f k t163 (rd x4 x5)).bind fun t165 => (if t165.toList = t163.toList then (if x5 > 0 then (if 0 ≤ (wrap64 (x5 - 1)) then (if (wrap64 (x5 - 1)) < (x4.length : Int) then ((infra_Percent.f k x3 (rd x4 (wrap64 (x5 - 1)))).bind fun t167 => (ostiarylaw1_InfraSets.j1 k x3 x4 x5 t163 (decide ((t167.size : Int) > (t163.size : Int))))) else (none)) else (none)) else (ostiarylaw1_InfraSets.j1 k x3 x4 x5 t163 false)) else (ostiarylaw1_InfraSets.j1 k x3 x4 x5 t163 true)))) else (none)) else ((ostiarylaw1_known.f k).bind fun t161 => (some t161))
def ostiarylaw1_InfraSets.j1 : Nat → ByteArray → List Int → Int → ByteArray → Bool → Option (Bool)
  | 0, _, _, _, _, _ => none
  | k + 1, x3, x4, x5, x6, x48 => if x48 = true then (some false) else (ostiarylaw1_InfraSets.l1 k x3 x4 x5 x6 0)
def ostiarylaw1_InfraSets.l1 : Nat → ByteArray → List Int → Int → ByteArray → Int → Option (Bool)
  | 0, _, _, _, _, _ => none
  | k + 1, x3, x4, x5, x6, x7 => if x7 < (x6.size : Int) then (if 0 ≤ x7 then (if (bt x6 x7) < 32 then (some false) else (if (bt x6 x7) > 126 then (some false) else (ostiarylaw1_InfraSets.l1 k x3 x4 x5 x6 (wrap64 (x7 + 1))))) else (none)) else (ostiarylaw1_InfraSets.l0 k x3 x4 (wrap64 (x5 + 1)))
end
def ostiarylaw1_InfraSets.f (k : Nat) (a0 : ByteArray) : Option (Bool) := ostiarylaw1_InfraSets.l0 k a0 (([1, 3, 5, 6] : List Int)) 0
theorem ostiarylaw1_InfraSets.mono_l : ∀ k, (∀ y0 y1 y2, LeO (ostiarylaw1_InfraSets.l0 k y0 y1 y2) (ostiarylaw1_InfraSets.l0 (k + 1) y0 y1 y2)) ∧ (∀ y0 y1 y2 y3 y4, LeO (ostiarylaw1_InfraSets.j1 k y0 y1 y2 y3 y4) (ostiarylaw1_InfraSets.j1 (k + 1) y0 y1 y2 y3 y4)) ∧ (∀ y0 y1 y2 y3 y4, LeO (ostiarylaw1_InfraSets.l1 k y0 y1 y2 y3 y4) (ostiarylaw1_InfraSets.l1 (k + 1) y0 y1 y2 y3 y4))
  | 0 => ⟨fun _ _ _ r h => by simp [ostiarylaw1_InfraSets.l0] at h, fun _ _ _ _ _ r h => by simp [ostiarylaw1_InfraSets.j1] at h, fun _ _ _ _ _ r h => by simp [ostiarylaw1_InfraSets.l1] at h⟩
  | k + 1 => by
    obtain ⟨ih0, ih1, ih2⟩ := ostiarylaw1_InfraSets.mono_l k
    refine ⟨?_, ?_, ?_⟩
    · intro y0 y1 y2
      unfold ostiarylaw1_InfraSets.l0
      repeat' first
      | (with_reducible exact ih0 _ _ _)
      | (with_reducible exact ih1 _ _ _ _ _)
      | (with_reducible exact ih2 _ _ _ _ _)
      | (with_reducible exact infra_Percent.mono _ _ _)
      | (with_reducible exact ostiarylaw1_known.mono _)
      | (with_reducible exact LeO.refl _)
      | (with_reducible exact LeO.none _)
      | (with_reducible refine LeO.ite ?_ ?_)
      | (with_reducible refine LeO.bind ?_ (fun _ => ?_))
      | exact ih0 _ _ _
      | exact ih1 _ _ _ _ _
      | exact ih2 _ _ _ _ _
      | exact infra_Percent.mono _ _ _
      | exact ostiarylaw1_known.mono _
      | exact LeO.none _
      | refine LeO.ite ?_ ?_
      | refine LeO.bind ?_ (fun _ => ?_)
    · intro y0 y1 y2 y3 y4
      unfold ostiarylaw1_InfraSets.j1
      repeat' first
      | (with_reducible exact ih0 _ _ _)
      | (with_reducible exact ih1 _ _ _ _ _)
      | (with_reducible exact ih2 _ _ _ _ _)
      | (with_reducible exact infra_Percent.mono _ _ _)
      | (with_reducible exact ostiarylaw1_known.mono _)
      | (with_reducible exact LeO.refl _)
      | (with_reducible exact LeO.none _)
      | (with_reducible refine LeO.ite ?_ ?_)
      | (with_reducible refine LeO.bind ?_ (fun _ => ?_))
      | exact ih0 _ _ _
      | exact ih1 _ _ _ _ _
      | exact ih2 _ _ _ _ _
      | exact infra_Percent.mono _ _ _
      | exact ostiarylaw1_known.mono _
      | exact LeO.none _
      | refine LeO.ite ?_ ?_
      | refine LeO.bind ?_ (fun _ => ?_)
    · intro y0 y1 y2 y3 y4
      unfold ostiarylaw1_InfraSets.l1
      repeat' first
      | (with_reducible exact ih0 _ _ _)
      | (with_reducible exact ih1 _ _ _ _ _)
      | (with_reducible exact ih2 _ _ _ _ _)
      | (with_reducible exact infra_Percent.mono _ _ _)
      | (with_reducible exact ostiarylaw1_known.mono _)
      | (with_reducible exact LeO.refl _)
      | (with_reducible exact LeO.none _)
      | (with_reducible refine LeO.ite ?_ ?_)
      | (with_reducible refine LeO.bind ?_ (fun _ => ?_))
      | exact ih0 _ _ _
      | exact ih1 _ _ _ _ _
      | exact ih2 _ _ _ _ _
      | exact infra_Percent.mono _ _ _
      | exact ostiarylaw1_known.mono _
      | exact LeO.none _
      | refine LeO.ite ?_ ?_
      | refine LeO.bind ?_ (fun _ => ?_)
theorem ostiarylaw1_InfraSets.mono : ∀ a0 k, LeO (ostiarylaw1_InfraSets.f k a0) (ostiarylaw1_InfraSets.f (k + 1) a0) := by
  intro a0 k
  obtain ⟨ih0, ih1, ih2⟩ := ostiarylaw1_InfraSets.mono_l k
  unfold ostiarylaw1_InfraSets.f
  repeat' first
      | (with_reducible exact ih0 _ _ _)
      | (with_reducible exact ih1 _ _ _ _ _)
      | (with_reducible exact ih2 _ _ _ _ _)
      | (with_reducible exact infra_Percent.mono _ _ _)
      | (with_reducible exact ostiarylaw1_known.mono _)
      | (with_reducible exact LeO.refl _)
      | (with_reducible exact LeO.none _)
      | (with_reducible refine LeO.ite ?_ ?_)
      | (with_reducible refine LeO.bind ?_ (fun _ => ?_))
      | exact ih0 _ _ _
      | exact ih1 _ _ _ _ _
      | exact ih2 _ _ _ _ _
      | exact infra_Percent.mono _ _ _
      | exact ostiarylaw1_known.mono _
      | exact LeO.none _
      | refine LeO.ite ?_ ?_
      | refine LeO.bind ?_ (fun _ => ?_)
set_option maxHeartbeats 8000000 in
set_option maxRecDepth 100000 in
theorem ostiarylaw1_InfraSets.calls (k : Nat) (A0_ : Option Addr) (n_ c_ : Nat) (xs_ : List Int) (a0 : ByteArray) (r : Bool) (w : World) (hC_ : (Kd.int .u8).C w A0_ n_ xs_) (hnc_ : n_ ≤ c_) (ha0_ : a0 = strOfNums (xs_.take 500)) (h : ostiarylaw1_InfraSets.f k a0 = some r) :
    Calls Try.prog 3 #[.slice A0_ n_ c_] w fun e w' => e = .returned (.bool r) ∧ Below w.heap.size w w' := by
  have hconv_ : (convert 22 9 (.slice A0_ (min n_ 500) c_)).run Try.prog w = .ok (.string a0) w := few_string hC_ ha0_
  clear hC_ ha0_
  have HB := Aside0.mk (Below.refl w.heap.size w)
  have H : (ostiarylaw1_InfraSets.l0 k a0 (([1, 3, 5, 6] : List Int)) 0) = some r := h
  clear h
  obtain ⟨y158, hy158⟩ : ∃ y_ : List Int, y_ = (([1, 3, 5, 6] : List Int)) := ⟨_, rfl⟩
  replace H : (ostiarylaw1_InfraSets.l0 k a0 y158 0) = some r := by first | (rw [hy158]; with_reducible exact H) | (have H2_ := (Option.bind_some _ _).symm.trans H; rw [hy158]; with_reducible exact H2_) | (have H2_ := (Option.bind_some _ _).symm.trans H; with_reducible exact H2_) | with_reducible exact H | (rw [hy158]; exact H) | exact H
  have Ny158 := Aside0.mk hy158
  clear hy158
  have H' := Aside0.mk H
  clear H
  go_enter Try.func3, Try.ntmps3
  go_wp2_with (first | (go_at_call 8; refine (few_500 A0_ n_ c_ hnc_ _).mono ?_; rintro e w_ ⟨rfl, hw_⟩; rw [hw_]; clear hw_ w_) | ((with_reducible refine gate_dst (N := 11) rfl ?_); (try (refine gate_guard (by rfl) ?_; dsimp only)); refine Kd.R_lit (Kd.int .i64) _ 3 ?hg (N := 11) ?hd (xs := ([1, 3, 5, 6] : List Int)) (inner := [.int .i64 1, .int .i64 3, .int .i64 5, .int .i64 6]) (ok := fun _ => True) (okp := fun _ => True) ?hr ?hp (fun _ hk => hk) trivial (Below.refl _ _) (Nat.le_refl _) (by simp) ?_; (case hd => rfl); (case hg => rfl); (case hr => first | (go_simp; done) | (go_simp; rfl)); (case hp => exact (Reps.one (show Kd.M (Kd.int .i64) _ _ _ 1 [.int .i64 1] from rfl) (Reps.one (show Kd.M (Kd.int .i64) _ _ _ 3 [.int .i64 3] from rfl) (Reps.one (show Kd.M (Kd.int .i64) _ _ _ 5 [.int .i64 5] from rfl) (Reps.one (show Kd.M (Kd.int .i64) _ _ _ 6 [.int .i64 6] from rfl) (Reps.none _ _)))))); intro v159 w2 ho3 hb hg_ hnew_; clear hg_ hnew_; (first | rw [← Ny158.out] at ho3 | (simp only [Int.reduceToNat] at ho3; rw [← Ny158.out] at ho3)); have n0_ := Aside0.mk (Kd.R_lower ho3 (below_size (by repeat (first | (with_reducible first | exact HB.out | apply below_alloc | apply pw_below_drewN | apply below_drew1) | exact HB.out)))); have n1_ := Aside0.mk (below_step (by repeat (first | (with_reducible first | exact HB.out | apply below_alloc | apply pw_below_drewN | apply below_drew1) | exact HB.out)) hb); clear HB; have HO160 := n0_; have HB := n1_; clear n0_ n1_; clear hb ho3))
  go_loopg [5] k (fun kq v5 w' => ∃ (x5_1 : Int), v5 = .int .i64 x5_1 ∧ Aside0 (ostiarylaw1_InfraSets.l0 kq a0 y158 x5_1 = some r) ∧ Aside0 (kq ≤ k) ∧ Aside0 (Kd.R (Kd.int .i64) 3 w' w.heap.size (fun _ => True) v159 y158) ∧ Aside0 (Below w.heap.size w w'))
  case atStart => exact ⟨(0), (by first | rfl | (simp; done) | (simp [*]; done)), H', ⟨Nat.le_refl _⟩, ⟨by (with_reducible repeat (first | apply Kd.R_alloc | apply Kd.R_drewN | apply Kd.R_drew)); exact HO160.out⟩, ⟨by repeat (first | (with_reducible first | exact HB.out | apply below_alloc | apply pw_below_drewN | apply below_drew1) | exact HB.out)⟩⟩
  case round =>
    clear H'
    try clear p2
    try clear c3
    obtain ⟨x5_1, rfl, HA, HK1, HO_4, HB⟩ := hrel
    cases gk with
    | zero => exact absurd HA.out (by simp [ostiarylaw1_InfraSets.l0])
    | succ k1 =>
      have H := HA.out
      clear HA
      simp only [ostiarylaw1_InfraSets.l0] at H
      by_cases c4 : x5_1 < (y158.length : Int)
      · rw [if_pos c4] at H
        have c4b0 : decide (x5_1 < (y158.length : Int)) = true := decide_eq_true c4
        clear c4
        by_cases c5 : 0 ≤ x5_1
        · rw [if_pos c5] at H
          have c5b0 : decide (0 ≤ x5_1) = true := decide_eq_true c5
          clear c5
          replace H := Option.bind_eq_some_iff.mp H
          obtain ⟨t163, A60, H⟩ := H
          replace H : ((infra_Percent.f k1 t163 (rd y158 x5_1)).bind fun t165 => (if t165.toList = t163.toList then (if x5_1 > 0 then (if 0 ≤ (wrap64 (x5_1 - 1)) then (if (wrap64 (x5_1 - 1)) < (y158.length : Int) then ((infra_Percent.f k1 a0 (rd y158 (wrap64 (x5_1 - 1)))).bind fun t167 => (ostiarylaw1_InfraSets.j1 k1 a0 y158 x5_1 t163 (decide ((t167.size : Int) > (t163.size : Int))))) else (none)) else (none)) else (ostiarylaw1_InfraSets.j1 k1 a0 y158 x5_1 t163 false)) else (ostiarylaw1_InfraSets.j1 k1 a0 y158 x5_1 t163 true))) = some r := H
          have A6 := Aside0.mk A60
          clear A60
          have HC7 := Aside0.mk H
          clear H
          obtain ⟨Ao8, co8, eo8⟩ := Kd.R_slice HO_4.out
          subst eo8
          have p162 : 0 ≤ (x5_1 : Int) := of_decide_eq_true (by first | (with_reducible assumption) | assumption)
          have q162 : x5_1 < (y158.length : Int) := of_decide_eq_true (by first | (with_reducible assumption) | assumption)
          obtain ⟨ad162, e162, hx162_0⟩ := Kd.at_int (Kd.R_reads' HO_4.out).2.2 x5_1 p162 q162
          cases e162
          replace p162 := eq_true p162
          replace q162 := eq_true q162
          go_upto_region 7 with (first | ((with_reducible refine gate_callee (f := 9) rfl ?_); refine goesL_ (some 23) rfl rfl Try.func9 (by kernel_rfl) rfl #[.string a0, .int .i64 (rd y158 x5_1)] rfl (by (try simp only [List.map_toArray, List.map_cons, List.map_nil]); first | done | rfl | (simp only [List.length_drop, List.length_take]; rfl)) ?_; (with_reducible refine (infra_Percent.calls k1 a0 (rd y158 x5_1) t163 _ A6.out).mono ?_); rintro e w9 ⟨rfl, hb⟩; refine ⟨_, rfl, ?_⟩; have n0_ := Aside0.mk (Kd.R_below (by (with_reducible repeat (first | apply Kd.R_alloc | apply Kd.R_drewN | apply Kd.R_drew)); exact HO_4.out) hb); have n1_ := Aside0.mk (below_step (by repeat (first | (with_reducible first | exact HB.out | apply below_alloc | apply pw_below_drewN | apply below_drew1) | exact HB.out)) hb); clear HO_4; clear HB; have HO_4 := n0_; have HB := n1_; clear n0_ n1_; (try clear hb); (try clear hb2); (try clear hk); (try clear hi)))
          (try simp only [Act.put, List.setIfInBounds_toArray, List.set_cons_zero, List.set_cons_succ])
          go_cut [48] (fun v48 wc => ∃ (kq : Nat) (x48_6 : Bool), v48 = .bool x48_6 ∧ Aside0 (ostiarylaw1_InfraSets.j1 kq a0 y158 x5_1 t163 x48_6 = some r) ∧ Aside0 (kq ≤ k1) ∧ Aside0 (Kd.R (Kd.int .i64) 3 wc w.heap.size (fun _ => True) (.slice (some ad162) y158.length co8) y158) ∧ Aside0 (Below w.heap.size w wc))
          case first =>
            have H := HC7.out
            clear HC7
            replace H := Option.bind_eq_some_iff.mp H
            obtain ⟨t165, A100, H⟩ := H
            replace H : (if t165.toList = t163.toList then (if x5_1 > 0 then (if 0 ≤ (wrap64 (x5_1 - 1)) then (if (wrap64 (x5_1 - 1)) < (y158.length : Int) then ((infra_Percent.f k1 a0 (rd y158 (wrap64 (x5_1 - 1)))).bind fun t167 => (ostiarylaw1_InfraSets.j1 k1 a0 y158 x5_1 t163 (decide ((t167.size : Int) > (t163.size : Int))))) else (none)) else (none)) else (ostiarylaw1_InfraSets.j1 k1 a0 y158 x5_1 t163 false)) else (ostiarylaw1_InfraSets.j1 k1 a0 y158 x5_1 t163 true)) = some r := H
            have A10 := Aside0.mk A100
            clear A100
            by_cases c11 : t165.toList = t163.toList
            · rw [if_pos c11] at H
              have c11b0 : (t165.toList == t163.toList) = true := beq_iff_eq.mpr c11
              have c11b1 : (t165.toList != t163.toList) = false := bne_eq_false_iff_eq.mpr c11
              clear c11
              (first | rw [c11b0] | (simp only [i64_w, i32_w]; rw [c11b0]) | skip)
              by_cases c12 : x5_1 > 0
              · rw [if_pos c12] at H
                have c12b0 : decide (0 < x5_1) = true := decide_eq_true c12
                clear c12
                obtain ⟨ji13, hji13⟩ : ∃ j_ : Int, (wrap64 (x5_1 - 1)) = j_ := ⟨_, rfl⟩
                replace H : (if 0 ≤ (ji13) then (if (ji13) < (y158.length : Int) then ((infra_Percent.f k1 a0 (rd y158 (ji13))).bind fun t167 => (ostiarylaw1_InfraSets.j1 k1 a0 y158 x5_1 t163 (decide ((t167.size : Int) > (t163.size : Int))))) else (none)) else (none)) = some r := by first | (rw [hji13] at H; exact H) | (simp only [hji13] at H ⊢; exact H)
                (try rw [hji13] at A10)
                have hji13w : (IntKind.i64.wrap (x5_1 - 1)) = ji13 := (i64_w _).trans hji13
                by_cases c14 : 0 ≤ (ji13)
                · rw [if_pos c14] at H
                  have c14b0 : decide (0 ≤ (ji13)) = true := decide_eq_true c14
                  clear c14
                  by_cases c15 : (ji13) < (y158.length : Int)
                  · rw [if_pos c15] at H
                    have c15b0 : decide ((ji13) < (y158.length : Int)) = true := decide_eq_true c15
                    clear c15
                    replace H := Option.bind_eq_some_iff.mp H
                    obtain ⟨t167, A160, H⟩ := H
                    replace H : (ostiarylaw1_InfraSets.j1 k1 a0 y158 x5_1 t163 (decide ((t167.size : Int) > (t163.size : Int)))) = some r := H
                    have A16 := Aside0.mk A160
                    clear A160
                    have H' := Aside0.mk H
                    clear H
                    have p164 : 0 ≤ (x5_1 : Int) := of_decide_eq_true (by first | (with_reducible assumption) | assumption)
                    have q164 : x5_1 < (y158.length : Int) := of_decide_eq_true (by first | (with_reducible assumption) | assumption)
                    obtain ⟨ad164, e164, hx164_0⟩ := Kd.at_int (Kd.R_reads' HO_4.out).2.2 x5_1 p164 q164
                    obtain rfl : ad162 = ad164 := (by injection e164)
                    replace p164 := eq_true p164
                    replace q164 := eq_true q164
                    go_wp2_with (first | ((with_reducible refine gate_callee (f := 9) rfl ?_); refine goesL_ (some 29) rfl rfl Try.func9 (by kernel_rfl) rfl #[.string t163, .int .i64 (rd y158 x5_1)] rfl (by (try simp only [List.map_toArray, List.map_cons, List.map_nil]); first | done | rfl | (simp only [List.length_drop, List.length_take]; rfl)) ?_; (with_reducible refine (infra_Percent.calls k1 t163 (rd y158 x5_1) t165 _ A10.out).mono ?_); rintro e w17 ⟨rfl, hb⟩; refine ⟨_, rfl, ?_⟩; have n0_ := Aside0.mk (Kd.R_below (by (with_reducible repeat (first | apply Kd.R_alloc | apply Kd.R_drewN | apply Kd.R_drew)); exact HO_4.out) hb); have n1_ := Aside0.mk (below_step (by repeat (first | (with_reducible first | exact HB.out | apply below_alloc | apply pw_below_drewN | apply below_drew1) | exact HB.out)) hb); clear HO_4; clear HB; have HO_4 := n0_; have HB := n1_; clear n0_ n1_; (try clear hb); (try clear hb2); (try clear hk); (try clear hi); have p166 : 0 ≤ ((ji13) : Int) := of_decide_eq_true (by first | (with_reducible assumption) | assumption); have q166 : (ji13) < (y158.length : Int) := of_decide_eq_true (by first | (with_reducible assumption) | assumption); obtain ⟨ad166, e166, hx166_0⟩ := Kd.at_int (Kd.R_reads' HO_4.out).2.2 (ji13) p166 q166; obtain rfl : ad162 = ad166 := (by injection e166); replace p166 := eq_true p166; replace q166 := eq_true q166) | (go_at_call 9; (with_reducible refine (infra_Percent.calls k1 a0 (rd y158 (ji13)) t167 _ A16.out).mono ?_); rintro e w18 ⟨rfl, hb⟩; have n0_ := Aside0.mk (Kd.R_below (by (with_reducible repeat (first | apply Kd.R_alloc | apply Kd.R_drewN | apply Kd.R_drew)); exact HO_4.out) hb); have n1_ := Aside0.mk (below_step (by repeat (first | (with_reducible first | exact HB.out | apply below_alloc | apply pw_below_drewN | apply below_drew1) | exact HB.out)) hb); clear HO_4; clear HB; have HO_4 := n0_; have HB := n1_; clear n0_ n1_; (try clear hb); (try clear hb2); (try clear hk); (try clear hi)))
                    go_meet
                    case rel => exact ⟨_, (decide ((t167.size : Int) > (t163.size : Int))), (by first | rfl | (simp; done) | (simp [*]; done)), H', ⟨by have := HK1.out; first | omega | exact Nat.le_refl _⟩, ⟨by (with_reducible repeat (first | apply Kd.R_alloc | apply Kd.R_drewN | apply Kd.R_drew)); exact HO_4.out⟩, ⟨by repeat (first | (with_reducible first | exact HB.out | apply below_alloc | apply pw_below_drewN | apply below_drew1) | exact HB.out)⟩⟩
                  · rw [if_neg c15] at H
                    exact absurd H (by simp)
                · rw [if_neg c14] at H
                  exact absurd H (by simp)
              · rw [if_neg c12] at H
                have c12b0 : decide (0 < x5_1) = false := decide_eq_false c12
                clear c12
                have H' := Aside0.mk H
                clear H
                have p164 : 0 ≤ (x5_1 : Int) := of_decide_eq_true (by first | (with_reducible assumption) | assumption)
                have q164 : x5_1 < (y158.length : Int) := of_decide_eq_true (by first | (with_reducible assumption) | assumption)
                obtain ⟨ad164, e164, hx164_0⟩ := Kd.at_int (Kd.R_reads' HO_4.out).2.2 x5_1 p164 q164
                obtain rfl : ad162 = ad164 := (by injection e164)
                replace p164 := eq_true p164
                replace q164 := eq_true q164
                go_wp2_with (first | ((with_reducible refine gate_callee (f := 9) rfl ?_); refine goesL_ (some 29) rfl rfl Try.func9 (by kernel_rfl) rfl #[.string t163, .int .i64 (rd y158 x5_1)] rfl (by (try simp only [List.map_toArray, List.map_cons, List.map_nil]); first | done | rfl | (simp only [List.length_drop, List.length_take]; rfl)) ?_; (with_reducible refine (infra_Percent.calls k1 t163 (rd y158 x5_1) t165 _ A10.out).mono ?_); rintro e w19 ⟨rfl, hb⟩; refine ⟨_, rfl, ?_⟩; have n0_ := Aside0.mk (Kd.R_below (by (with_reducible repeat (first | apply Kd.R_alloc | apply Kd.R_drewN | apply Kd.R_drew)); exact HO_4.out) hb); have n1_ := Aside0.mk (below_step (by repeat (first | (with_reducible first | exact HB.out | apply below_alloc | apply pw_below_drewN | apply below_drew1) | exact HB.out)) hb); clear HO_4; clear HB; have HO_4 := n0_; have HB := n1_; clear n0_ n1_; (try clear hb); (try clear hb2); (try clear hk); (try clear hi)))
                go_meet
                case rel => exact ⟨_, (false), (by first | rfl | (simp; done) | (simp [*]; done)), H', ⟨by have := HK1.out; first | omega | exact Nat.le_refl _⟩, ⟨by (with_reducible repeat (first | apply Kd.R_alloc | apply Kd.R_drewN | apply Kd.R_drew)); exact HO_4.out⟩, ⟨by repeat (first | (with_reducible first | exact HB.out | apply below_alloc | apply pw_below_drewN | apply below_drew1) | exact HB.out)⟩⟩
            · rw [if_neg c11] at H
              have c11b0 : (t165.toList == t163.toList) = false := beq_eq_false_iff_ne.mpr c11
              have c11b1 : (t165.toList != t163.toList) = true := bne_iff_ne.mpr c11
              (first | rw [c11b0] | (simp only [i64_w, i32_w]; rw [c11b0]) | skip)
              have H' := Aside0.mk H
              clear H
              have p164 : 0 ≤ (x5_1 : Int) := of_decide_eq_true (by first | (with_reducible assumption) | assumption)
              have q164 : x5_1 < (y158.length : Int) := of_decide_eq_true (by first | (with_reducible assumption) | assumption)
              obtain ⟨ad164, e164, hx164_0⟩ := Kd.at_int (Kd.R_reads' HO_4.out).2.2 x5_1 p164 q164
              obtain rfl : ad162 = ad164 := (by injection e164)
              replace p164 := eq_true p164
              replace q164 := eq_true q164
              go_wp2_with (first | ((with_reducible refine gate_callee (f := 9) rfl ?_); refine goesL_ (some 29) rfl rfl Try.func9 (by kernel_rfl) rfl #[.string t163, .int .i64 (rd y158 x5_1)] rfl (by (try simp only [List.map_toArray, List.map_cons, List.map_nil]); first | done | rfl | (simp only [List.length_drop, List.length_take]; rfl)) ?_; (with_reducible refine (infra_Percent.calls k1 t163 (rd y158 x5_1) t165 _ A10.out).mono ?_); rintro e w20 ⟨rfl, hb⟩; refine ⟨_, rfl, ?_⟩; have n0_ := Aside0.mk (Kd.R_below (by (with_reducible repeat (first | apply Kd.R_alloc | apply Kd.R_drewN | apply Kd.R_drew)); exact HO_4.out) hb); have n1_ := Aside0.mk (below_step (by repeat (first | (with_reducible first | exact HB.out | apply below_alloc | apply pw_below_drewN | apply below_drew1) | exact HB.out)) hb); clear HO_4; clear HB; have HO_4 := n0_; have HB := n1_; clear n0_ n1_; (try clear hb); (try clear hb2); (try clear hk); (try clear hi)))
              go_meet
              case rel => exact ⟨_, (true), (by first | rfl | (simp; done) | (simp [*]; done)), H', ⟨by have := HK1.out; first | omega | exact Nat.le_refl _⟩, ⟨by (with_reducible repeat (first | apply Kd.R_alloc | apply Kd.R_drewN | apply Kd.R_drew)); exact HO_4.out⟩, ⟨by repeat (first | (with_reducible first | exact HB.out | apply below_alloc | apply pw_below_drewN | apply below_drew1) | exact HB.out)⟩⟩
          case rest =>
            clear HC7
            try clear c1
            try clear p1
            try clear q1
            try clear hx1
            try clear p2
            try clear c3
            try clear c4
            try clear c4b0
            try clear c5
            try clear c5b0
            try clear p6
            try clear c9
            try clear c11
            try clear c11b0
            try clear c11b1
            try clear c12
            try clear c12b0
            try clear c14
            try clear c14b0
            try clear c15
            try clear c15b0
            try clear p16
            try clear q16
            try clear hx16
            try clear hx162_0
            try clear hx164_0
            try clear hx166_0
            try clear p162
            try clear p164
            try clear p166
            try clear p2
            try clear q162
            try clear q164
            try clear q166
            obtain ⟨kq, x48_6, rfl, HA, HJ6, HO_4, HB⟩ := hcut
            cases kq with
            | zero => exact absurd HA.out (by simp [ostiarylaw1_InfraSets.j1])
            | succ kj6 =>
              have H := HA.out
              clear HA
              simp only [ostiarylaw1_InfraSets.j1] at H
              by_cases c21 : x48_6 = true
              · subst c21
                have H1 : (some false) = some r := by rw [if_pos rfl] at H; exact H
                clear H
                have H := H1
                clear H1
                obtain rfl := Option.some.inj H
                go_wp2
                go_ret
                exact ⟨by first | rfl | (simp [errW_none, errW_some] <;> rfl) | (simp [*, errW_none, errW_some] <;> rfl), by repeat (first | (with_reducible first | exact HB.out | apply below_alloc | apply pw_below_drewN | apply below_drew1) | exact HB.out)⟩
              · replace c21 := Bool.eq_false_iff.mpr c21
                subst c21
                have H1 : (ostiarylaw1_InfraSets.l1 kj6 a0 y158 x5_1 t163 0) = some r := by rw [if_neg (show ¬ (false = true) by decide)] at H; exact H
                clear H
                have H := H1
                clear H1
                have H' := Aside0.mk H
                clear H
                go_wp2
                go_loopg [7] kj6 (fun kq v7 w' => ∃ (x7_3 : Int), v7 = .int .i64 x7_3 ∧ Aside0 (ostiarylaw1_InfraSets.l1 kq a0 y158 x5_1 t163 x7_3 = some r) ∧ Aside0 (kq ≤ kj6) ∧ Aside0 (Kd.R (Kd.int .i64) 3 w' w.heap.size (fun _ => True) (.slice (some ad162) y158.length co8) y158) ∧ Aside0 (Below w.heap.size w w'))
                case atStart => exact ⟨(0), (by first | rfl | (simp; done) | (simp [*]; done)), H', ⟨Nat.le_refl _⟩, ⟨by (with_reducible repeat (first | apply Kd.R_alloc | apply Kd.R_drewN | apply Kd.R_drew)); exact HO_4.out⟩, ⟨by repeat (first | (with_reducible first | exact HB.out | apply below_alloc | apply pw_below_drewN | apply below_drew1) | exact HB.out)⟩⟩
                case round =>
                  clear H'
                  try clear c1
                  try clear p1
                  try clear q1
                  try clear hx1
                  try clear c2
                  try clear p2
                  try clear c3
                  try clear c4
                  try clear c4b0
                  try clear c5
                  try clear c5b0
                  try clear p6
                  try clear c9
                  try clear c11
                  try clear c11b0
                  try clear c11b1
                  try clear c12
                  try clear c12b0
                  try clear c14
                  try clear c14b0
                  try clear c15
                  try clear c15b0
                  try clear p16
                  try clear q16
                  try clear hx16
                  try clear c21
                  try clear hx162_0
                  try clear hx164_0
                  try clear hx166_0
                  try clear p1
                  try clear p16
                  try clear p162
                  try clear p164
                  try clear p166
                  try clear p2
                  try clear p6
                  try clear q1
                  try clear q16
                  try clear q162
                  try clear q164
                  try clear q166
                  obtain ⟨x7_3, rfl, HA, HK3, HO_4, HB⟩ := hrel
                  cases gk with
                  | zero => exact absurd HA.out (by simp [ostiarylaw1_InfraSets.l1])
                  | succ k3 =>
                    have H := HA.out
                    clear HA
                    simp only [ostiarylaw1_InfraSets.l1] at H
                    by_cases c22 : x7_3 < (t163.size : Int)
                    · rw [if_pos c22] at H
                      have c22b0 : decide (x7_3 < (t163.size : Int)) = true := decide_eq_true c22
                      clear c22
                      by_cases c23 : 0 ≤ x7_3
                      · rw [if_pos c23] at H
                        have c23b0 : decide (0 ≤ x7_3) = true := decide_eq_true c23
                        clear c23
                        by_cases c25 : (bt t163 x7_3) < 32
                        · rw [if_pos c25] at H
                          have c25b0 : decide ((bt t163 x7_3) < 32) = true := decide_eq_true c25
                          clear c25
                          obtain rfl := Option.some.inj H
                          have p24 : 0 ≤ (x7_3 : Int) := of_decide_eq_true (by first | (with_reducible assumption) | assumption)
                          have q24 : x7_3 < (t163.size : Int) := of_decide_eq_true (by first | (with_reducible assumption) | assumption)
                          have hx24 := bt_at t163 x7_3
                          replace p24 := eq_true p24
                          replace q24 := eq_true q24
                          go_wp2
                          go_ret
                          exact ⟨by first | rfl | (simp [errW_none, errW_some] <;> rfl) | (simp [*, errW_none, errW_some] <;> rfl), by repeat (first | (with_reducible first | exact HB.out | apply below_alloc | apply pw_below_drewN | apply below_drew1) | exact HB.out)⟩
                        · rw [if_neg c25] at H
                          have c25b0 : decide ((bt t163 x7_3) < 32) = false := decide_eq_false c25
                          clear c25
                          by_cases c27 : (bt t163 x7_3) > 126
                          · rw [if_pos c27] at H
                            have c27b0 : decide (126 < (bt t163 x7_3)) = true := decide_eq_true c27
                            clear c27
                            obtain rfl := Option.some.inj H
                            have p24 : 0 ≤ (x7_3 : Int) := of_decide_eq_true (by first | (with_reducible assumption) | assumption)
                            have q24 : x7_3 < (t163.size : Int) := of_decide_eq_true (by first | (with_reducible assumption) | assumption)
                            have hx24 := bt_at t163 x7_3
                            replace p24 := eq_true p24
                            replace q24 := eq_true q24
                            have p26 : 0 ≤ (x7_3 : Int) := of_decide_eq_true (by first | (with_reducible assumption) | assumption)
                            have q26 : x7_3 < (t163.size : Int) := of_decide_eq_true (by first | (with_reducible assumption) | assumption)
                            have hx26 := bt_at t163 x7_3
                            replace p26 := eq_true p26
                            replace q26 := eq_true q26
                            go_wp2
                            go_ret
                            exact ⟨by first | rfl | (simp [errW_none, errW_some] <;> rfl) | (simp [*, errW_none, errW_some] <;> rfl), by repeat (first | (with_reducible first | exact HB.out | apply below_alloc | apply pw_below_drewN | apply below_drew1) | exact HB.out)⟩
                          · rw [if_neg c27] at H
                            have c27b0 : decide (126 < (bt t163 x7_3)) = false := decide_eq_false c27
                            clear c27
                            have H' := Aside0.mk H
                            clear H
                            have p24 : 0 ≤ (x7_3 : Int) := of_decide_eq_true (by first | (with_reducible assumption) | assumption)
                            have q24 : x7_3 < (t163.size : Int) := of_decide_eq_true (by first | (with_reducible assumption) | assumption)
                            have hx24 := bt_at t163 x7_3
                            replace p24 := eq_true p24
                            replace q24 := eq_true q24
                            have p26 : 0 ≤ (x7_3 : Int) := of_decide_eq_true (by first | (with_reducible assumption) | assumption)
                            have q26 : x7_3 < (t163.size : Int) := of_decide_eq_true (by first | (with_reducible assumption) | assumption)
                            have hx26 := bt_at t163 x7_3
                            replace p26 := eq_true p26
                            replace q26 := eq_true q26
                            go_wp2
                            go_roundg k3
                            case measure => have := HK1.out; have := HJ6.out; have := HK3.out; omega
                            case rel => exact ⟨(wrap64 (x7_3 + 1)), (by first | rfl | (simp; done) | (simp [*]; done)), H', ⟨by have := HK1.out; have := HJ6.out; have := HK3.out; omega⟩, ⟨by (with_reducible repeat (first | apply Kd.R_alloc | apply Kd.R_drewN | apply Kd.R_drew)); exact HO_4.out⟩, ⟨by repeat (first | (with_reducible first | exact HB.out | apply below_alloc | apply pw_below_drewN | apply below_drew1) | exact HB.out)⟩⟩
                      · rw [if_neg c23] at H
                        exact absurd H (by simp)
                    · rw [if_neg c22] at H
                      have c22b0 : decide (x7_3 < (t163.size : Int)) = false := decide_eq_false c22
                      clear c22
                      have H' := Aside0.mk H
                      clear H
                      go_wp2
                      go_roundg k3
                      case measure => have := HK1.out; have := HJ6.out; have := HK3.out; omega
                      case rel => exact ⟨(wrap64 (x5_1 + 1)), (by first | rfl | (simp; done) | (simp [*]; done)), H', ⟨by have := HK1.out; have := HJ6.out; have := HK3.out; omega⟩, ⟨by (with_reducible repeat (first | apply Kd.R_alloc | apply Kd.R_drewN | apply Kd.R_drew)); exact HO_4.out⟩, ⟨by repeat (first | (with_reducible first | exact HB.out | apply below_alloc | apply pw_below_drewN | apply below_drew1) | exact HB.out)⟩⟩
        · rw [if_neg c5] at H
          exact absurd H (by simp)
      · rw [if_neg c4] at H
        have c4b0 : decide (x5_1 < (y158.length : Int)) = false := decide_eq_false c4
        clear c4
        replace H := Option.bind_eq_some_iff.mp H
        obtain ⟨t161, A280, H⟩ := H
        replace H : (some t161) = some r := H
        have A28 := Aside0.mk A280
        clear A280
        obtain rfl := Option.some.inj H
        obtain ⟨Ao29, co29, eo29⟩ := Kd.R_slice HO_4.out
        subst eo29
        go_wp2_with (first | ((with_reducible refine gate_callee (f := 10) rfl ?_); refine goesL_ (some 65) rfl rfl Try.func10 (by kernel_rfl) rfl #[] rfl (by (try simp only [List.map_toArray, List.map_cons, List.map_nil]); first | done | rfl | (simp only [List.length_drop, List.length_take]; rfl)) ?_; (with_reducible refine (ostiarylaw1_known.calls k1  t161 _ A28.out).mono ?_); rintro e w30 ⟨rfl, hb⟩; refine ⟨_, rfl, ?_⟩; have n0_ := Aside0.mk (Kd.R_below (by (with_reducible repeat (first | apply Kd.R_alloc | apply Kd.R_drewN | apply Kd.R_drew)); exact HO_4.out) hb); have n1_ := Aside0.mk (below_step (by repeat (first | (with_reducible first | exact HB.out | apply below_alloc | apply pw_below_drewN | apply below_drew1) | exact HB.out)) hb); clear HO_4; clear HB; have HO_4 := n0_; have HB := n1_; clear n0_ n1_; (try clear hb); (try clear hb2); (try clear hk); (try clear hi)))
        go_ret
        exact ⟨by first | rfl | (simp [errW_none, errW_some] <;> rfl) | (simp [*, errW_none, errW_some] <;> rfl), by repeat (first | (with_reducible first | exact HB.out | apply below_alloc | apply pw_below_drewN | apply below_drew1) | exact HB.out)⟩


end Go.Proofs.Ytcnjbbgecopjmaa.PSets
