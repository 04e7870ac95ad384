/- Functions of the program and their walks, printed by a program. -/
import Derived.Test.YtcnjbbgecopjmaaCstringsIndexByte
import Derived.Test.YtcnjbbgecopjmaaPXx0
import Derived.Test.YtcnjbbgecopjmaaPXx1
namespace Go.Proofs.Ytcnjbbgecopjmaa.PX
open Go.Proofs.Ytcnjbbgecopjmaa.Own
open Go.RowKit Go.Proofs.YtcnjbbgecopjmaaW.PrintWords Go.Proofs.YtcnjbbgecopjmaaW.PrintLast Go.Proofs.YtcnjbbgecopjmaaW.PrintMore
attribute [local go_sem] max2_int min2_int max_two min_two max_three min_three max_four min_four   -- for this text's walks alone
set_option linter.unusedVariables false
set_option linter.unusedSimpArgs false

/-! ### infra_Base64: function 11 -/
mutual
def infra_Base64.l0 : Nat → ByteArray → List Int → Int → Int → Option (List Int × Bool)
  | 0, _, _, _, _ => none
  | k + 1, x0, x4, x15, x16 => if x16 < x15 then (if 0 ≤ x16 then (if x16 < (x0.size : Int) then ((strings_IndexByte.f (⟨#[9, 10, 12, 13, 32]⟩ : ByteArray) (bt x0 x16)).bind fun t119 => (if t119 < 0 then (if x4.length < 140737488355328 then (infra_Base64.l0 k x0 (x4 ++ [bt x0 x16]) x15 (wrap64 (x16 + 1))) else (none)) else (infra_Base64.l0 k x0 x4 x15 (wrap64 (x16 + 1))))) else (none)) else (none)) else (if (x4.length : Int) > 0 then (infra_Base64.j1 k x4 (((x4.length : Int) % 4) == 0)) else (infra_Base64.j1 k x4 false))
def infra_Base64.j1 : Nat → List Int → Bool → Option (List Int × Bool)
  | 0, _, _ => none
  | k + 1, x4, x39 => if x39 = true then (infra_Base64.l1 k x4 0) else (infra_Base64.j3 k x4)
def infra_Base64.j3 : Nat → List Int → Option (List Int × Bool)
  | 0, _ => none
  | k + 1, x4 => if ((x4.length : Int) % 4) = 1 then (some (([] : List Int), false)) else (if x4.length < 140737488355328 then (infra_Base64.l2 k ([] : List Int) 0 0 x4 (x4.length : Int) 0) else (none))
def infra_Base64.l2 : Nat → List Int → Int → Int → List Int → Int → Int → Option (List Int × Bool)
  | 0, _, _, _, _, _, _ => none
  | k + 1, x8, x9, x10, x67, x68, x69 => if x69 < x68 then (if 0 ≤ x69 then (if x69 < (x67.length : Int) then ((strings_IndexByte.f (⟨#[65, 66, 67, 68, 69, 70, 71, 72, 73, 74, 75, 76, 77, 78, 79, 80, 81, 82, 83, 84, 85, 86, 87, 88, 89, 90, 97, 98, 99, 100, 101, 102, 103, 104, 105, 106, 107, 108, 109, 110, 111, 112, 113, 114, 115, 116, 117, 118, 119, 120, 121, 122, 48, 49, 50, 51, 52, 53, 54, 55, 56, 57, 43, 47]⟩ : ByteArray) (rd x67 x69)).bind fun t128 => (if t128 < 0 then (some (([] : List Int), false)) else (if (wrap64 (x10 + 6)) ≥ 8 then (if 0 ≤ (wrap64 ((wrap64 (x10 + 6)) - 8)) then (if x8.length < 140737488355328 then (infra_Base64.l2 k (x8 ++ [(shr .i64 (Go.bits .or .i64 (Go.bits .and .i64 (wrap64 (x9 * 64)) 65535) t128) (wrap64 ((wrap64 (x10 + 6)) - 8))) % 256]) (Go.bits .or .i64 (Go.bits .and .i64 (wrap64 (x9 * 64)) 65535) t128) (wrap64 ((wrap64 (x10 + 6)) - 8)) x67 x68 (wrap64 (x69 + 1))) else (none)) else (none)) else (infra_Base64.l2 k x8 (Go.bits .or .i64 (Go.bits .and .i64 (wrap64 (x9 * 64)) 65535) t128) (wrap64 (x10 + 6)) x67 x68 (wrap64 (x69 + 1)))))) else (none)) else (none)) else (some (x8, true))
def infra_Base64.l1 : Nat → List Int → Int → Option (List Int × Bool)
  | 0, _, _ => none
  | k + 1, x4, x7 => if x7 < 2 then (if 0 ≤ (wrap64 ((x4.length : Int) - 1)) then (if (wrap64 ((x4.length : Int) - 1)) < (x4.length : Int) then (if (rd x4 (wrap64 ((x4.length : Int) - 1))) = 61 then (if (wrap64 ((x4.length : Int) - 1)) ≤ (x4.length : Int) then (infra_Base64.l1 k (x4.take ((wrap64 ((x4.length : Int) - 1)) : Int).toNat) (wrap64 (x7 + 1))) else (none)) else (infra_Base64.j3 k x4)) else (none)) else (none)) else (infra_Base64.j3 k x4)
end
def infra_Base64.f (k : Nat) (a0 : ByteArray) : Option (List Int × Bool) := infra_Base64.l0 k a0 ([] : List Int) (a0.size : Int) 0
theorem infra_Base64.mono_l : ∀ k, (∀ y0 y1 y2 y3, LeO (infra_Base64.l0 k y0 y1 y2 y3) (infra_Base64.l0 (k + 1) y0 y1 y2 y3)) ∧ (∀ y0 y1, LeO (infra_Base64.j1 k y0 y1) (infra_Base64.j1 (k + 1) y0 y1)) ∧ (∀ y0, LeO (infra_Base64.j3 k y0) (infra_Base64.j3 (k + 1) y0)) ∧ (∀ y0 y1 y2 y3 y4 y5, LeO (infra_Base64.l2 k y0 y1 y2 y3 y4 y5) (infra_Base64.l2 (k + 1) y0 y1 y2 y3 y4 y5)) ∧ (∀ y0 y1, LeO (infra_Base64.l1 k y0 y1) (infra_Base64.l1 (k + 1) y0 y1))
  | 0 => ⟨fun _ _ _ _ r h => by simp [infra_Base64.l0] at h, fun _ _ r h => by simp [infra_Base64.j1] at h, fun _ r h => by simp [infra_Base64.j3] at h, fun _ _ _ _ _ _ r h => by simp [infra_Base64.l2] at h, fun _ _ r h => by simp [infra_Base64.l1] at h⟩
  | k + 1 => by
    obtain ⟨ih0, ih1, ih2, ih3, ih4⟩ := infra_Base64.mono_l k
    refine ⟨?_, ?_, ?_, ?_, ?_⟩
    · intro y0 y1 y2 y3
      unfold infra_Base64.l0
      repeat' first
      | (with_reducible exact ih0 _ _ _ _)
      | (with_reducible exact ih1 _ _)
      | (with_reducible exact ih2 _)
      | (with_reducible exact ih3 _ _ _ _ _ _)
      | (with_reducible exact ih4 _ _)
      | (with_reducible exact LeO.refl _)
      | (with_reducible exact LeO.none _)
      | (with_reducible refine LeO.ite ?_ ?_)
      | (with_reducible refine LeO.bind ?_ (fun _ => ?_))
      | exact ih0 _ _ _ _
      | exact ih1 _ _
      | exact ih2 _
      | exact ih3 _ _ _ _ _ _
      | exact ih4 _ _
      | exact LeO.none _
      | refine LeO.ite ?_ ?_
      | refine LeO.bind ?_ (fun _ => ?_)
    · intro y0 y1
      unfold infra_Base64.j1
      repeat' first
      | (with_reducible exact ih0 _ _ _ _)
      | (with_reducible exact ih1 _ _)
      | (with_reducible exact ih2 _)
      | (with_reducible exact ih3 _ _ _ _ _ _)
      | (with_reducible exact ih4 _ _)
      | (with_reducible exact LeO.refl _)
      | (with_reducible exact LeO.none _)
      | (with_reducible refine LeO.ite ?_ ?_)
      | (with_reducible refine LeO.bind ?_ (fun _ => ?_))
      | exact ih0 _ _ _ _
      | exact ih1 _ _
      | exact ih2 _
      | exact ih3 _ _ _ _ _ _
      | exact ih4 _ _
      | exact LeO.none _
      | refine LeO.ite ?_ ?_
      | refine LeO.bind ?_ (fun _ => ?_)
    · intro y0
      unfold infra_Base64.j3
      repeat' first
      | (with_reducible exact ih0 _ _ _ _)
      | (with_reducible exact ih1 _ _)
      | (with_reducible exact ih2 _)
      | (with_reducible exact ih3 _ _ _ _ _ _)
      | (with_reducible exact ih4 _ _)
      | (with_reducible exact LeO.refl _)
      | (with_reducible exact LeO.none _)
      | (with_reducible refine LeO.ite ?_ ?_)
      | (with_reducible refine LeO.bind ?_ (fun _ => ?_))
      | exact ih0 _ _ _ _
      | exact ih1 _ _
      | exact ih2 _
      | exact ih3 _ _ _ _ _ _
      | exact ih4 _ _
      | exact LeO.none _
      | refine LeO.ite ?_ ?_
      | refine LeO.bind ?_ (fun _ => ?_)
    · intro y0 y1 y2 y3 y4 y5
      unfold infra_Base64.l2
      repeat' first
      | (with_reducible exact ih0 _ _ _ _)
      | (with_reducible exact ih1 _ _)
      | (with_reducible exact ih2 _)
      | (with_reducible exact ih3 _ _ _ _ _ _)
      | (with_reducible exact ih4 _ _)
      | (with_reducible exact LeO.refl _)
      | (with_reducible exact LeO.none _)
      | (with_reducible refine LeO.ite ?_ ?_)
      | (with_reducible refine LeO.bind ?_ (fun _ => ?_))
      | exact ih0 _ _ _ _
      | exact ih1 _ _
      | exact ih2 _
      | exact ih3 _ _ _ _ _ _
      | exact ih4 _ _
      | exact LeO.none _
      | refine LeO.ite ?_ ?_
      | refine LeO.bind ?_ (fun _ => ?_)
    · intro y0 y1
      unfold infra_Base64.l1
      repeat' first
      | (with_reducible exact ih0 _ _ _ _)
      | (with_reducible exact ih1 _ _)
      | (with_reducible exact ih2 _)
      | (with_reducible exact ih3 _ _ _ _ _ _)
      | (with_reducible exact ih4 _ _)
      | (with_reducible exact LeO.refl _)
      | (with_reducible exact LeO.none _)
      | (with_reducible refine LeO.ite ?_ ?_)
      | (with_reducible refine LeO.bind ?_ (fun _ => ?_))
      | exact ih0 _ _ _ _
      | exact ih1 _ _
      | exact ih2 _
      | exact ih3 _ _ _ _ _ _
      | exact ih4 _ _
      | exact LeO.none _
      | refine LeO.ite ?_ ?_
      | refine LeO.bind ?_ (fun _ => ?_)
theorem infra_Base64.mono : ∀ a0 k, LeO (infra_Base64.f k a0) (infra_Base64.f (k + 1) a0) := by
  intro a0 k
  obtain ⟨ih0, ih1, ih2, ih3, ih4⟩ := infra_Base64.mono_l k
  unfold infra_Base64.f
  repeat' first
      | (with_reducible exact ih0 _ _ _ _)
      | (with_reducible exact ih1 _ _)
      | (with_reducible exact ih2 _)
      | (with_reducible exact ih3 _ _ _ _ _ _)
      | (with_reducible exact ih4 _ _)
      | (with_reducible exact LeO.refl _)
      | (with_reducible exact LeO.none _)
      | (with_reducible refine LeO.ite ?_ ?_)
      | (with_reducible refine LeO.bind ?_ (fun _ => ?_))
      | exact ih0 _ _ _ _
      | exact ih1 _ _
      | exact ih2 _
      | exact ih3 _ _ _ _ _ _
      | exact ih4 _ _
      | exact LeO.none _
      | refine LeO.ite ?_ ?_
      | refine LeO.bind ?_ (fun _ => ?_)
set_option maxHeartbeats 8000000 in
set_option maxRecDepth 100000 in
theorem infra_Base64.calls (k : Nat) (a0 : ByteArray) (r1 : List Int) (r2 : Bool) (w : World) (h : infra_Base64.f k a0 = some (r1, r2)) :
    Calls Try.prog 11 #[.string a0] w fun e w' => ∃ v0_ : Value, e = .returned (.tuple #[v0_, .bool r2]) ∧ Kd.R (Kd.int .u8) 5 w' w.heap.size (fun _ => True) v0_ r1 ∧ Below w.heap.size w w' := by
  have HB := Aside0.mk (Below.refl w.heap.size w)
  have H : (infra_Base64.l0 k a0 ([] : List Int) (a0.size : Int) 0) = some (r1, r2) := h
  clear h
  have H' := Aside0.mk H
  clear H
  go_enter Try.func11, Try.ntmps11
  go_wp2
  go_loopg [4, 16] k (fun kq v4 v16 w' => ∃ (x4_1 : List Int) (x16_1 : Int), v16 = .int .i64 x16_1 ∧ Aside0 (infra_Base64.l0 kq a0 x4_1 (a0.size : Int) x16_1 = some (r1, r2)) ∧ Aside0 (kq ≤ k) ∧ Aside0 (Kd.R (Kd.int .u8) 5 w' w.heap.size (fun _ => True) v4 x4_1) ∧ Aside0 (Below w.heap.size w w'))
  case atStart => exact ⟨(([] : List Int)), (0), (by first | rfl | (simp; done) | (simp [*]; done)), H', ⟨Nat.le_refl _⟩, ⟨by first | exact Kd.R_nil _ _ _ _ _ | exact Kd.N_nil _ _ _ _ _ | exact Kd.V_nil _ _ _ _ _ | exact Kd.Q_nil _ _ _ _ _ | exact Kd.S_nil _ _ _ _ _⟩, ⟨by repeat (first | (with_reducible first | exact HB.out | apply below_alloc | apply pw_below_drewN | apply below_drew1) | exact HB.out)⟩⟩
  case round =>
    clear H'
    try clear c1
    obtain ⟨x4_1, x16_1, rfl, HA, HK1, HO_4, HB⟩ := hrel
    cases gk with
    | zero => exact absurd HA.out (by simp [infra_Base64.l0])
    | succ k1 =>
      have H := HA.out
      clear HA
      simp only [infra_Base64.l0] at H
      by_cases c2 : x16_1 < (a0.size : Int)
      · rw [if_pos c2] at H
        have c2b0 : decide (x16_1 < (a0.size : Int)) = true := decide_eq_true c2
        clear c2
        by_cases c3 : 0 ≤ x16_1
        · rw [if_pos c3] at H
          have c3b0 : decide (0 ≤ x16_1) = true := decide_eq_true c3
          clear c3
          by_cases c4 : x16_1 < (a0.size : Int)
          · rw [if_pos c4] at H
            have c4b0 : decide (x16_1 < (a0.size : Int)) = true := decide_eq_true c4
            clear c4
            replace H := Option.bind_eq_some_iff.mp H
            obtain ⟨t119, A60, H⟩ := H
            replace H : (if t119 < 0 then (if x4_1.length < 140737488355328 then (infra_Base64.l0 k1 a0 (x4_1 ++ [bt a0 x16_1]) (a0.size : Int) (wrap64 (x16_1 + 1))) else (none)) else (infra_Base64.l0 k1 a0 x4_1 (a0.size : Int) (wrap64 (x16_1 + 1)))) = some (r1, r2) := H
            have A6 := Aside0.mk A60
            clear A60
            by_cases c7 : t119 < 0
            · rw [if_pos c7] at H
              have c7b0 : decide (t119 < 0) = true := decide_eq_true c7
              clear c7
              by_cases c9 : x4_1.length < 140737488355328
              · rw [if_pos c9] at H
                have LMc9 := Aside0.mk c9
                clear c9
                obtain ⟨y120, hy120⟩ : ∃ y_ : List Int, y_ = (x4_1 ++ [bt a0 x16_1]) := ⟨_, rfl⟩
                replace H : (infra_Base64.l0 k1 a0 y120 (a0.size : Int) (wrap64 (x16_1 + 1))) = some (r1, r2) := by first | (rw [hy120]; with_reducible exact H) | (have H2_ := (Option.bind_some _ _).symm.trans H; rw [hy120]; with_reducible exact H2_) | (have H2_ := (Option.bind_some _ _).symm.trans H; with_reducible exact H2_) | with_reducible exact H | (rw [hy120]; exact H) | exact H
                have Ny120 := Aside0.mk hy120
                clear hy120
                have H' := Aside0.mk H
                clear H
                have p5 : 0 ≤ (x16_1 : Int) := of_decide_eq_true (by first | (with_reducible assumption) | assumption)
                have q5 : x16_1 < (a0.size : Int) := of_decide_eq_true (by first | (with_reducible assumption) | assumption)
                have hx5 := bt_at a0 x16_1
                replace p5 := eq_true p5
                replace q5 := eq_true q5
                go_wp2_with (first | ((with_reducible refine gate_callee (f := 26) rfl ?_); refine goesL_ (some 22) rfl rfl Try.func26 (by kernel_rfl) rfl #[.string (⟨#[9, 10, 12, 13, 32]⟩ : ByteArray), .int .u8 (bt a0 x16_1)] rfl (by (try simp only [List.map_toArray, List.map_cons, List.map_nil]); first | done | rfl | (simp only [List.length_drop, List.length_take]; rfl)) ?_; (with_reducible refine (strings_IndexByte.calls (⟨#[9, 10, 12, 13, 32]⟩ : ByteArray) (bt a0 x16_1) t119 _ A6.out).mono ?_); rintro e w' ⟨rfl, ⟨nd, rfl⟩⟩; refine ⟨_, rfl, ?_⟩; have p8 : 0 ≤ (x16_1 : Int) := of_decide_eq_true (by first | (with_reducible assumption) | assumption); have q8 : x16_1 < (a0.size : Int) := of_decide_eq_true (by first | (with_reducible assumption) | assumption); have hx8 := bt_at a0 x16_1; replace p8 := eq_true p8; replace q8 := eq_true q8) | ((with_reducible refine gate_builtin (b := .append) (xs := #[.tmp 24, .tmp 28]) rfl ?_); (try (refine gate_guard (by rfl) ?_; dsimp only)); at_builtin; refine Kd.R_append (Kd.int .u8) (w0 := w) w.heap.size rfl (.tmp 24) (.tmp 28) 22 5 (.int .u8 0) 1 rfl Try.underlying22 info5 rfl (by decide) (by omega) u4 x4_1 (bt a0 x16_1) [.int .u8 (bt a0 x16_1)] (fun _ => True) (fun _ => False) rfl rfl ?aP (fun _ hk => hk.elim) ?aF ?aO ?aB ?aS ?aL ?_; (case aP => exact rfl); (case aB => exact (by repeat (first | (with_reducible first | exact HB.out | apply below_alloc | apply pw_below_drewN | apply below_drew1) | exact HB.out))); (case aF => exact (fun _ _ => trivial)); (case aO => exact (by (with_reducible repeat (first | apply Kd.R_alloc | apply Kd.R_drewN | apply Kd.R_drew)); exact HO_4.out)); (case aS => exact (below_size (by repeat (first | (with_reducible first | exact HB.out | apply below_alloc | apply pw_below_drewN | apply below_drew1) | exact HB.out)))); (case aL => have := LMc9.out; omega); intro v121 w10 ho hb hg hat; rw [← Ny120.out] at ho; have n0_ := Aside0.mk (hb); have n1_ := Aside0.mk (ho); clear HB; clear HO_4; have HB := n0_; have HO122 := n1_; clear n0_ n1_; clear ho hb hg hat))
                go_roundg k1
                case measure => have := HK1.out; omega
                case rel => exact ⟨(y120), (wrap64 (x16_1 + 1)), (by first | rfl | (simp; done) | (simp [*]; done)), H', ⟨by have := HK1.out; omega⟩, ⟨by (with_reducible repeat (first | apply Kd.R_alloc | apply Kd.R_drewN | apply Kd.R_drew)); exact HO122.out⟩, ⟨by repeat (first | (with_reducible first | exact HB.out | apply below_alloc | apply pw_below_drewN | apply below_drew1) | exact HB.out)⟩⟩
              · rw [if_neg c9] at H
                exact absurd H (by simp)
            · rw [if_neg c7] at H
              have c7b0 : decide (t119 < 0) = false := decide_eq_false c7
              clear c7
              have H' := Aside0.mk H
              clear H
              have p5 : 0 ≤ (x16_1 : Int) := of_decide_eq_true (by first | (with_reducible assumption) | assumption)
              have q5 : x16_1 < (a0.size : Int) := of_decide_eq_true (by first | (with_reducible assumption) | assumption)
              have hx5 := bt_at a0 x16_1
              replace p5 := eq_true p5
              replace q5 := eq_true q5
              go_wp2_with (first | ((with_reducible refine gate_callee (f := 26) rfl ?_); refine goesL_ (some 22) rfl rfl Try.func26 (by kernel_rfl) rfl #[.string (⟨#[9, 10, 12, 13, 32]⟩ : ByteArray), .int .u8 (bt a0 x16_1)] rfl (by (try simp only [List.map_toArray, List.map_cons, List.map_nil]); first | done | rfl | (simp only [List.length_drop, List.length_take]; rfl)) ?_; (with_reducible refine (strings_IndexByte.calls (⟨#[9, 10, 12, 13, 32]⟩ : ByteArray) (bt a0 x16_1) t119 _ A6.out).mono ?_); rintro e w' ⟨rfl, ⟨nd, rfl⟩⟩; refine ⟨_, rfl, ?_⟩))
              go_roundg k1
              case measure => have := HK1.out; omega
              case rel => exact ⟨(x4_1), (wrap64 (x16_1 + 1)), (by first | rfl | (simp; done) | (simp [*]; done)), H', ⟨by have := HK1.out; omega⟩, ⟨by (with_reducible repeat (first | apply Kd.R_alloc | apply Kd.R_drewN | apply Kd.R_drew)); exact HO_4.out⟩, ⟨by repeat (first | (with_reducible first | exact HB.out | apply below_alloc | apply pw_below_drewN | apply below_drew1) | exact HB.out)⟩⟩
          · rw [if_neg c4] at H
            exact absurd H (by simp)
        · rw [if_neg c3] at H
          exact absurd H (by simp)
      · rw [if_neg c2] at H
        have c2b0 : decide (x16_1 < (a0.size : Int)) = false := decide_eq_false c2
        clear c2
        have HC11 := Aside0.mk H
        clear H
        obtain ⟨Ao12, co12, eo12⟩ := Kd.R_slice HO_4.out
        subst eo12
        go_upto_region 9 with (fail)
        go_cut [39] (fun v39 wc => ∃ (kq : Nat) (x39_10 : Bool), v39 = .bool x39_10 ∧ Aside0 (infra_Base64.j1 kq x4_1 x39_10 = some (r1, r2)) ∧ Aside0 (kq ≤ k1) ∧ Aside0 (Kd.R (Kd.int .u8) 5 wc w.heap.size (fun _ => True) (.slice Ao12 x4_1.length co12) x4_1) ∧ Aside0 (Below w.heap.size w wc))
        case first =>
          have H := HC11.out
          clear HC11
          by_cases c13 : (x4_1.length : Int) > 0
          · rw [if_pos c13] at H
            have c13b0 : decide (0 < (x4_1.length : Int)) = true := decide_eq_true c13
            have c13b1 : decide (0 < x4_1.length) = true := decide_eq_true (by omega)
            clear c13
            (first | rw [c13b0] | (simp only [i64_w, i32_w]; rw [c13b0]) | skip)
            have H' := Aside0.mk H
            clear H
            go_wp2
            go_meet
            case rel => exact ⟨_, ((((x4_1.length : Int) % 4) == 0)), (by first | rfl | (simp; done) | (simp [*]; done)), H', ⟨by have := HK1.out; first | omega | exact Nat.le_refl _⟩, ⟨by (with_reducible repeat (first | apply Kd.R_alloc | apply Kd.R_drewN | apply Kd.R_drew)); exact HO_4.out⟩, ⟨by repeat (first | (with_reducible first | exact HB.out | apply below_alloc | apply pw_below_drewN | apply below_drew1) | exact HB.out)⟩⟩
          · rw [if_neg c13] at H
            have c13b0 : decide (0 < (x4_1.length : Int)) = false := decide_eq_false c13
            have c13b1 : decide (0 < x4_1.length) = false := decide_eq_false (by omega)
            clear c13
            (first | rw [c13b0] | (simp only [i64_w, i32_w]; rw [c13b0]) | skip)
            have H' := Aside0.mk H
            clear H
            go_wp2
            go_meet
            case rel => exact ⟨_, (false), (by first | rfl | (simp; done) | (simp [*]; done)), H', ⟨by have := HK1.out; first | omega | exact Nat.le_refl _⟩, ⟨by (with_reducible repeat (first | apply Kd.R_alloc | apply Kd.R_drewN | apply Kd.R_drew)); exact HO_4.out⟩, ⟨by repeat (first | (with_reducible first | exact HB.out | apply below_alloc | apply pw_below_drewN | apply below_drew1) | exact HB.out)⟩⟩
        case rest =>
          clear HC11
          try clear c1
          try clear c2
          try clear c2b0
          try clear p2
          try clear c3
          try clear c3b0
          try clear c4
          try clear c4b0
          try clear p5
          try clear q5
          try clear hx5
          try clear p6
          try clear c7
          try clear c7b0
          try clear p8
          try clear q8
          try clear hx8
          try clear c9
          try clear c11
          try clear c13
          try clear c13b0
          try clear c13b1
          try clear p5
          try clear p8
          try clear q5
          try clear q8
          obtain ⟨kq, x39_10, rfl, HA, HJ10, HO_4, HB⟩ := hcut
          cases kq with
          | zero => exact absurd HA.out (by simp [infra_Base64.j1])
          | succ kj10 =>
            have H := HA.out
            clear HA
            simp only [infra_Base64.j1] at H
            have HC14 := Aside0.mk H
            clear H
            go_upto_if 39 with (fail)
            go_cut [4] (fun v4 wc => ∃ (kq : Nat) (x4_13 : List Int), Aside0 (infra_Base64.j3 kq x4_13 = some (r1, r2)) ∧ Aside0 (kq ≤ kj10) ∧ Aside0 (Kd.R (Kd.int .u8) 5 wc w.heap.size (fun _ => True) v4 x4_13) ∧ Aside0 (Below w.heap.size w wc))
            case first =>
              have H := HC14.out
              clear HC14
              by_cases c15 : x39_10 = true
              · subst c15
                have H1 : (infra_Base64.l1 kj10 x4_1 0) = some (r1, r2) := by rw [if_pos rfl] at H; exact H
                clear H
                have H := H1
                clear H1
                have H' := Aside0.mk H
                clear H
                go_wp2
                go_loopg [4, 7] kj10 (fun kq v4 v7 w' => ∃ (x4_3 : List Int) (x7_3 : Int), v7 = .int .i64 x7_3 ∧ Aside0 (infra_Base64.l1 kq x4_3 x7_3 = some (r1, r2)) ∧ Aside0 (kq ≤ kj10) ∧ Aside0 (Kd.R (Kd.int .u8) 5 w' w.heap.size (fun _ => True) v4 x4_3) ∧ Aside0 (Below w.heap.size w w'))
                case atStart => exact ⟨(x4_1), (0), (by first | rfl | (simp; done) | (simp [*]; done)), H', ⟨Nat.le_refl _⟩, ⟨by (with_reducible repeat (first | apply Kd.R_alloc | apply Kd.R_drewN | apply Kd.R_drew)); exact HO_4.out⟩, ⟨by repeat (first | (with_reducible first | exact HB.out | apply below_alloc | apply pw_below_drewN | apply below_drew1) | exact HB.out)⟩⟩
                case round =>
                  clear H'
                  try clear c1
                  try clear c2
                  try clear c2b0
                  try clear p2
                  try clear c3
                  try clear c3b0
                  try clear c4
                  try clear c4b0
                  try clear p5
                  try clear q5
                  try clear hx5
                  try clear p6
                  try clear c7
                  try clear c7b0
                  try clear p8
                  try clear q8
                  try clear hx8
                  try clear c9
                  try clear c11
                  try clear c13
                  try clear c13b0
                  try clear c13b1
                  try clear c15
                  try clear p2
                  try clear p5
                  try clear p6
                  try clear p8
                  try clear q5
                  try clear q8
                  obtain ⟨x4_3, x7_3, rfl, HA, HK3, HO_4, HB⟩ := hrel
                  cases gk with
                  | zero => exact absurd HA.out (by simp [infra_Base64.l1])
                  | succ k3 =>
                    have H := HA.out
                    clear HA
                    simp only [infra_Base64.l1] at H
                    by_cases c16 : x7_3 < 2
                    · rw [if_pos c16] at H
                      have c16b0 : decide (x7_3 < 2) = true := decide_eq_true c16
                      clear c16
                      (first | rw [c16b0] | (simp only [i64_w, i32_w]; rw [c16b0]) | skip)
                      obtain ⟨ji17, hji17⟩ : ∃ j_ : Int, (wrap64 ((x4_3.length : Int) - 1)) = j_ := ⟨_, rfl⟩
                      replace H : (if 0 ≤ (ji17) then (if (ji17) < (x4_3.length : Int) then (if (rd x4_3 (ji17)) = 61 then (if (ji17) ≤ (x4_3.length : Int) then (infra_Base64.l1 k3 (x4_3.take ((ji17) : Int).toNat) (wrap64 (x7_3 + 1))) else (none)) else (infra_Base64.j3 k3 x4_3)) else (none)) else (none)) = some (r1, r2) := by first | (rw [hji17] at H; exact H) | (simp only [hji17] at H ⊢; exact H)
                      have hji17w : (IntKind.i64.wrap ((x4_3.length : Int) - 1)) = ji17 := (i64_w _).trans hji17
                      by_cases c18 : 0 ≤ (ji17)
                      · rw [if_pos c18] at H
                        have c18b0 : decide (0 ≤ (ji17)) = true := decide_eq_true c18
                        clear c18
                        by_cases c19 : (ji17) < (x4_3.length : Int)
                        · rw [if_pos c19] at H
                          have c19b0 : decide ((ji17) < (x4_3.length : Int)) = true := decide_eq_true c19
                          clear c19
                          by_cases c20 : (rd x4_3 (ji17)) = 61
                          · rw [if_pos c20] at H
                            have c20b0 : ((rd x4_3 (ji17)) == 61) = true := beq_iff_eq.mpr c20
                            have c20b1 : ((rd x4_3 (ji17)) != 61) = false := bne_eq_false_iff_eq.mpr c20
                            clear c20
                            by_cases c21 : (ji17) ≤ (x4_3.length : Int)
                            · rw [if_pos c21] at H
                              have c21b0 := eq_true c21
                              have c21b1 : decide ((ji17) ≤ (x4_3.length : Int)) = true := decide_eq_true c21
                              clear c21
                              obtain ⟨y124, hy124⟩ : ∃ y_ : List Int, y_ = (x4_3.take ((ji17) : Int).toNat) := ⟨_, rfl⟩
                              replace H : (infra_Base64.l1 k3 y124 (wrap64 (x7_3 + 1))) = some (r1, r2) := by first | (rw [hy124]; with_reducible exact H) | (have H2_ := (Option.bind_some _ _).symm.trans H; rw [hy124]; with_reducible exact H2_) | (have H2_ := (Option.bind_some _ _).symm.trans H; with_reducible exact H2_) | with_reducible exact H | (rw [hy124]; exact H) | exact H
                              have Ny124 := Aside0.mk hy124
                              clear hy124
                              have H' := Aside0.mk H
                              clear H
                              obtain ⟨Ao22, co22, eo22⟩ := Kd.R_slice HO_4.out
                              subst eo22
                              have p123 : 0 ≤ ((ji17) : Int) := of_decide_eq_true (by first | (with_reducible assumption) | assumption)
                              have q123 : (ji17) < (x4_3.length : Int) := of_decide_eq_true (by first | (with_reducible assumption) | assumption)
                              obtain ⟨ad123, e123, hx123_0⟩ := Kd.at_int (Kd.R_reads' HO_4.out).2.2 (ji17) p123 q123
                              cases e123
                              replace p123 := eq_true p123
                              replace q123 := eq_true q123
                              have q23 : ((ji17) : Int) ≤ ((x4_3.length : Int) : Int) := of_decide_eq_true (by first | (with_reducible assumption) | assumption)
                              obtain ⟨i023, hi023, _, hsz23, _⟩ := info_parts info5
                              have hcut23 := cut_to (P := Try.prog) 22 5 .i64 Try.underlying22 hi023 (some ad123) x4_3.length co22 (ji17) (of_decide_eq_true (by first | (with_reducible assumption) | assumption)) q23 (Kd.R_reads' HO_4.out).2.1
                              have hr23 := Kd.R_take (m := ((ji17) : Int).toNat) HO_4.out (by omega)
                              have hy23 : y124.length = ((ji17) : Int).toNat := (by rw [Ny124.out, List.length_take]; omega)
                              rw [← Ny124.out] at hr23
                              rw [← hy23] at hr23 hcut23
                              clear hy23 hi023 hsz23 HO_4
                              have HO126 := Aside0.mk hr23
                              clear hr23
                              replace q23 := eq_true q23
                              go_wp2
                              go_roundg k3
                              case measure => have := HK1.out; have := HJ10.out; have := HK3.out; omega
                              case rel => exact ⟨(y124), (wrap64 (x7_3 + 1)), (by first | rfl | (simp; done) | (simp [*]; done)), H', ⟨by have := HK1.out; have := HJ10.out; have := HK3.out; omega⟩, ⟨by (with_reducible repeat (first | apply Kd.R_alloc | apply Kd.R_drewN | apply Kd.R_drew)); exact HO126.out⟩, ⟨by repeat (first | (with_reducible first | exact HB.out | apply below_alloc | apply pw_below_drewN | apply below_drew1) | exact HB.out)⟩⟩
                            · rw [if_neg c21] at H
                              exact absurd H (by simp)
                          · rw [if_neg c20] at H
                            have c20b0 : ((rd x4_3 (ji17)) == 61) = false := beq_eq_false_iff_ne.mpr c20
                            have c20b1 : ((rd x4_3 (ji17)) != 61) = true := bne_iff_ne.mpr c20
                            have H' := Aside0.mk H
                            clear H
                            obtain ⟨Ao24, co24, eo24⟩ := Kd.R_slice HO_4.out
                            subst eo24
                            have p123 : 0 ≤ ((ji17) : Int) := of_decide_eq_true (by first | (with_reducible assumption) | assumption)
                            have q123 : (ji17) < (x4_3.length : Int) := of_decide_eq_true (by first | (with_reducible assumption) | assumption)
                            obtain ⟨ad123, e123, hx123_0⟩ := Kd.at_int (Kd.R_reads' HO_4.out).2.2 (ji17) p123 q123
                            cases e123
                            replace p123 := eq_true p123
                            replace q123 := eq_true q123
                            go_wp2
                            go_meet
                            case rel => exact ⟨_, (x4_3), H', ⟨by have := HK1.out; have := HJ10.out; have := HK3.out; first | omega | exact Nat.le_refl _⟩, ⟨by (with_reducible repeat (first | apply Kd.R_alloc | apply Kd.R_drewN | apply Kd.R_drew)); exact HO_4.out⟩, ⟨by repeat (first | (with_reducible first | exact HB.out | apply below_alloc | apply pw_below_drewN | apply below_drew1) | exact HB.out)⟩⟩
                        · rw [if_neg c19] at H
                          exact absurd H (by simp)
                      · rw [if_neg c18] at H
                        exact absurd H (by simp)
                    · rw [if_neg c16] at H
                      have c16b0 : decide (x7_3 < 2) = false := decide_eq_false c16
                      clear c16
                      (first | rw [c16b0] | (simp only [i64_w, i32_w]; rw [c16b0]) | skip)
                      have H' := Aside0.mk H
                      clear H
                      go_wp2
                      go_meet
                      case rel => exact ⟨_, (x4_3), H', ⟨by have := HK1.out; have := HJ10.out; have := HK3.out; first | omega | exact Nat.le_refl _⟩, ⟨by (with_reducible repeat (first | apply Kd.R_alloc | apply Kd.R_drewN | apply Kd.R_drew)); exact HO_4.out⟩, ⟨by repeat (first | (with_reducible first | exact HB.out | apply below_alloc | apply pw_below_drewN | apply below_drew1) | exact HB.out)⟩⟩
              · replace c15 := Bool.eq_false_iff.mpr c15
                subst c15
                have H1 : (infra_Base64.j3 kj10 x4_1) = some (r1, r2) := by rw [if_neg (show ¬ (false = true) by decide)] at H; exact H
                clear H
                have H := H1
                clear H1
                have H' := Aside0.mk H
                clear H
                go_wp2
                go_meet
                case rel => exact ⟨_, (x4_1), H', ⟨by have := HK1.out; have := HJ10.out; first | omega | exact Nat.le_refl _⟩, ⟨by (with_reducible repeat (first | apply Kd.R_alloc | apply Kd.R_drewN | apply Kd.R_drew)); exact HO_4.out⟩, ⟨by repeat (first | (with_reducible first | exact HB.out | apply below_alloc | apply pw_below_drewN | apply below_drew1) | exact HB.out)⟩⟩
            case rest =>
              clear HC14
              try clear c1
              try clear p1
              try clear q1
              try clear hx1
              try clear c2
              try clear c2b0
              try clear p2
              try clear q2
              try clear c3
              try clear c3b0
              try clear c4
              try clear c4b0
              try clear p5
              try clear q5
              try clear hx5
              try clear p6
              try clear c7
              try clear c7b0
              try clear p8
              try clear q8
              try clear hx8
              try clear c9
              try clear c11
              try clear p12
              try clear q12
              try clear hx12
              try clear c13
              try clear c13b0
              try clear c13b1
              try clear c15
              try clear c16
              try clear c16b0
              try clear c18
              try clear c18b0
              try clear c19
              try clear c19b0
              try clear c20
              try clear c20b0
              try clear c20b1
              try clear c21
              try clear c21b0
              try clear c21b1
              try clear q23
              try clear hx123_0
              try clear p123
              try clear p2
              try clear p5
              try clear p6
              try clear p8
              try clear q123
              try clear q23
              try clear q5
              try clear q8
              obtain ⟨kq, x4_13, HA, HJ13, HO_4, HB⟩ := hcut
              cases kq with
              | zero => exact absurd HA.out (by simp [infra_Base64.j3])
              | succ kj13 =>
                have H := HA.out
                clear HA
                simp only [infra_Base64.j3] at H
                by_cases c25 : ((x4_13.length : Int) % 4) = 1
                · rw [if_pos c25] at H
                  have c25b0 : (((x4_13.length : Int) % 4) == 1) = true := beq_iff_eq.mpr c25
                  have c25b1 : (((x4_13.length : Int) % 4) != 1) = false := bne_eq_false_iff_eq.mpr c25
                  clear c25
                  simp only [Option.some.injEq, Prod.mk.injEq] at H
                  obtain ⟨rfl, rfl⟩ := H
                  obtain ⟨Ao26, co26, eo26⟩ := Kd.R_slice HO_4.out
                  subst eo26
                  go_wp2
                  go_ret2
                  exact ⟨_, by first | rfl | (simp [errW_none, errW_some] <;> rfl) | (simp [*, errW_none, errW_some] <;> rfl), by first | exact Kd.R_nil _ _ _ _ _ | exact Kd.N_nil _ _ _ _ _ | exact Kd.V_nil _ _ _ _ _ | exact Kd.Q_nil _ _ _ _ _ | exact Kd.S_nil _ _ _ _ _, by repeat (first | (with_reducible first | exact HB.out | apply below_alloc | apply pw_below_drewN | apply below_drew1) | exact HB.out)⟩
                · rw [if_neg c25] at H
                  have c25b0 : (((x4_13.length : Int) % 4) == 1) = false := beq_eq_false_iff_ne.mpr c25
                  have c25b1 : (((x4_13.length : Int) % 4) != 1) = true := bne_iff_ne.mpr c25
                  by_cases cm : ¬ (x4_13.length < 140737488355328)
                  · rw [if_neg cm] at H; exact absurd H (by simp)
                  replace cm := Decidable.not_not.mp cm
                  rw [if_pos cm] at H
                  have H' := Aside0.mk H
                  clear H
                  obtain ⟨Ao27, co27, eo27⟩ := Kd.R_slice HO_4.out
                  subst eo27
                  have hmk : ∀ W : World, (Instr.makeSlice 22 (.int .i64 0) (.int .i64 ((x4_13.length : Int) * 3 / 4))).run Try.prog W = .ok (.slice (some ⟨W.heap.size, 0, none⟩) 0 ((x4_13.length : Int) * 3 / 4).toNat) (W.alloc (.cells (madeCells #[.int .u8 0] ((x4_13.length : Int) * 3 / 4).toNat) 5)) := by
                    intro W
                    obtain ⟨info, hi, hz, hs, hb⟩ : ∃ i, Try.prog.info? 5 = some i ∧ i.zero = some (.int .u8 0) ∧ i.size = 1 ∧ i.bytes = 1 := ⟨_, rfl, by kernel_rfl, by kernel_rfl, by kernel_rfl⟩
                    have := run_make (P := Try.prog) W 22 5 info (.int .u8 0) Try.underlying22 hi hz .i64 .i64 0 ((x4_13.length : Int) * 3 / 4) (Int.le_refl _) (by omega) (by rw [hb]; omega) (by omega)
                    rw [hs, Nat.mul_one] at this
                    exact this
                  go_wp2
                  go_loopg [8, 9, 10, 69] kj13 (fun kq v8 v9 v10 v69 w' => ∃ (x8_4 : List Int) (x9_4 : Int) (x10_4 : Int) (x69_4 : Int), v9 = .int .i64 x9_4 ∧ v10 = .int .i64 x10_4 ∧ v69 = .int .i64 x69_4 ∧ Aside0 (infra_Base64.l2 kq x8_4 x9_4 x10_4 x4_13 (x4_13.length : Int) x69_4 = some (r1, r2)) ∧ Aside0 (kq ≤ kj13) ∧ Aside0 (Kd.R (Kd.int .u8) 5 w' w.heap.size (fun k_ => some k_ ≠ ((.slice Ao27 x4_13.length co27) : Value).ownBlock) v8 x8_4) ∧ Aside0 (Kd.R (Kd.int .u8) 5 w' w.heap.size (fun k_ => some k_ ≠ (v8 : Value).ownBlock) (.slice Ao27 x4_13.length co27) x4_13) ∧ Aside0 (Below w.heap.size w w'))
                  case atStart => exact ⟨(([] : List Int)), (0), (0), (0), (by first | rfl | (simp; done) | (simp [*]; done)), (by first | rfl | (simp; done) | (simp [*]; done)), (by first | rfl | (simp; done) | (simp [*]; done)), H', ⟨Nat.le_refl _⟩, ⟨by (with_reducible repeat (first | apply Kd.R_drewN | apply Kd.R_drew)); exact Kd.R_of_own (World.ownsRow_made _ _ _ HB.out.size (by unfold maxLen; omega) (by rw [size_madeCells, Nat.mul_one])) (fun q hq he => by have hlt := own_lt (Kd.own_of_R HO_4.out) q he.symm; simp [Value.ownBlock] at hq; omega)⟩, ⟨by (with_reducible repeat (first | apply Kd.R_drewN | apply Kd.R_drew)); exact Kd.R_alloc (Kd.R_mono (Kd.R_bound HO_4.out) (fun q hq he => by have hlt := hq.2.2.1; simp [Value.ownBlock] at he; omega)) _⟩, ⟨by repeat (first | (with_reducible first | exact HB.out | apply below_alloc | apply pw_below_drewN | apply below_drew1) | exact HB.out)⟩⟩
                  case round =>
                    clear H'
                    try clear c1
                    try clear p1
                    try clear q1
                    try clear hx1
                    try clear c2
                    try clear c2b0
                    try clear p2
                    try clear q2
                    try clear c3
                    try clear c3b0
                    try clear c4
                    try clear c4b0
                    try clear p5
                    try clear q5
                    try clear hx5
                    try clear p6
                    try clear c7
                    try clear c7b0
                    try clear p8
                    try clear q8
                    try clear hx8
                    try clear c9
                    try clear c11
                    try clear p12
                    try clear q12
                    try clear hx12
                    try clear c13
                    try clear c13b0
                    try clear c13b1
                    try clear c15
                    try clear c16
                    try clear c16b0
                    try clear c18
                    try clear c18b0
                    try clear c19
                    try clear c19b0
                    try clear c20
                    try clear c20b0
                    try clear c20b1
                    try clear c21
                    try clear c21b0
                    try clear c21b1
                    try clear q23
                    try clear c25
                    try clear c25b0
                    try clear c25b1
                    try clear c26
                    try clear hx123_0
                    try clear p1
                    try clear p12
                    try clear p123
                    try clear p2
                    try clear p5
                    try clear p6
                    try clear p8
                    try clear q1
                    try clear q12
                    try clear q123
                    try clear q2
                    try clear q23
                    try clear q5
                    try clear q8
                    obtain ⟨x8_4, x9_4, x10_4, x69_4, rfl, rfl, rfl, HA, HK4, HO_8, HO_67, HB⟩ := hrel
                    cases gk with
                    | zero => exact absurd HA.out (by simp [infra_Base64.l2])
                    | succ k4 =>
                      have H := HA.out
                      clear HA
                      simp only [infra_Base64.l2] at H
                      by_cases c28 : x69_4 < (x4_13.length : Int)
                      · rw [if_pos c28] at H
                        have c28b0 : decide (x69_4 < (x4_13.length : Int)) = true := decide_eq_true c28
                        clear c28
                        by_cases c29 : 0 ≤ x69_4
                        · rw [if_pos c29] at H
                          have c29b0 : decide (0 ≤ x69_4) = true := decide_eq_true c29
                          clear c29
                          by_cases c30 : x69_4 < (x4_13.length : Int)
                          · rw [if_pos c30] at H
                            have c30b0 : decide (x69_4 < (x4_13.length : Int)) = true := decide_eq_true c30
                            clear c30
                            replace H := Option.bind_eq_some_iff.mp H
                            obtain ⟨t128, A310, H⟩ := H
                            replace H : (if t128 < 0 then (some (([] : List Int), false)) else (if (wrap64 (x10_4 + 6)) ≥ 8 then (if 0 ≤ (wrap64 ((wrap64 (x10_4 + 6)) - 8)) then (if x8_4.length < 140737488355328 then (infra_Base64.l2 k4 (x8_4 ++ [(shr .i64 (Go.bits .or .i64 (Go.bits .and .i64 (wrap64 (x9_4 * 64)) 65535) t128) (wrap64 ((wrap64 (x10_4 + 6)) - 8))) % 256]) (Go.bits .or .i64 (Go.bits .and .i64 (wrap64 (x9_4 * 64)) 65535) t128) (wrap64 ((wrap64 (x10_4 + 6)) - 8)) x4_13 (x4_13.length : Int) (wrap64 (x69_4 + 1))) else (none)) else (none)) else (infra_Base64.l2 k4 x8_4 (Go.bits .or .i64 (Go.bits .and .i64 (wrap64 (x9_4 * 64)) 65535) t128) (wrap64 (x10_4 + 6)) x4_13 (x4_13.length : Int) (wrap64 (x69_4 + 1))))) = some (r1, r2) := H
                            have A31 := Aside0.mk A310
                            clear A310
                            by_cases c32 : t128 < 0
                            · rw [if_pos c32] at H
                              have c32b0 : decide (t128 < 0) = true := decide_eq_true c32
                              clear c32
                              simp only [Option.some.injEq, Prod.mk.injEq] at H
                              obtain ⟨rfl, rfl⟩ := H
                              have p127 : 0 ≤ (x69_4 : Int) := of_decide_eq_true (by first | (with_reducible assumption) | assumption)
                              have q127 : x69_4 < (x4_13.length : Int) := of_decide_eq_true (by first | (with_reducible assumption) | assumption)
                              obtain ⟨ad127, e127, hx127_0⟩ := Kd.at_int (Kd.R_reads' HO_67.out).2.2 x69_4 p127 q127
                              cases e127
                              replace p127 := eq_true p127
                              replace q127 := eq_true q127
                              go_wp2_with (first | ((with_reducible refine gate_callee (f := 26) rfl ?_); refine goesL_ (some 74) rfl rfl Try.func26 (by kernel_rfl) rfl #[.string (⟨#[65, 66, 67, 68, 69, 70, 71, 72, 73, 74, 75, 76, 77, 78, 79, 80, 81, 82, 83, 84, 85, 86, 87, 88, 89, 90, 97, 98, 99, 100, 101, 102, 103, 104, 105, 106, 107, 108, 109, 110, 111, 112, 113, 114, 115, 116, 117, 118, 119, 120, 121, 122, 48, 49, 50, 51, 52, 53, 54, 55, 56, 57, 43, 47]⟩ : ByteArray), .int .u8 (rd x4_13 x69_4)] rfl (by (try simp only [List.map_toArray, List.map_cons, List.map_nil]); first | done | rfl | (simp only [List.length_drop, List.length_take]; rfl)) ?_; (with_reducible refine (strings_IndexByte.calls (⟨#[65, 66, 67, 68, 69, 70, 71, 72, 73, 74, 75, 76, 77, 78, 79, 80, 81, 82, 83, 84, 85, 86, 87, 88, 89, 90, 97, 98, 99, 100, 101, 102, 103, 104, 105, 106, 107, 108, 109, 110, 111, 112, 113, 114, 115, 116, 117, 118, 119, 120, 121, 122, 48, 49, 50, 51, 52, 53, 54, 55, 56, 57, 43, 47]⟩ : ByteArray) (rd x4_13 x69_4) t128 _ A31.out).mono ?_); rintro e w' ⟨rfl, ⟨nd, rfl⟩⟩; refine ⟨_, rfl, ?_⟩))
                              go_ret2
                              exact ⟨_, by first | rfl | (simp [errW_none, errW_some] <;> rfl) | (simp [*, errW_none, errW_some] <;> rfl), by first | exact Kd.R_nil _ _ _ _ _ | exact Kd.N_nil _ _ _ _ _ | exact Kd.V_nil _ _ _ _ _ | exact Kd.Q_nil _ _ _ _ _ | exact Kd.S_nil _ _ _ _ _, by repeat (first | (with_reducible first | exact HB.out | apply below_alloc | apply pw_below_drewN | apply below_drew1) | exact HB.out)⟩
                            · rw [if_neg c32] at H
                              have c32b0 : decide (t128 < 0) = false := decide_eq_false c32
                              clear c32
                              by_cases c33 : (wrap64 (x10_4 + 6)) ≥ 8
                              · rw [if_pos c33] at H
                                have c33b0 : decide (8 ≤ (wrap64 (x10_4 + 6))) = true := decide_eq_true c33
                                clear c33
                                obtain ⟨ji34, hji34⟩ : ∃ j_ : Int, (wrap64 ((wrap64 (x10_4 + 6)) - 8)) = j_ := ⟨_, rfl⟩
                                replace H : (if 0 ≤ (ji34) then (if x8_4.length < 140737488355328 then (infra_Base64.l2 k4 (x8_4 ++ [(shr .i64 (Go.bits .or .i64 (Go.bits .and .i64 (wrap64 (x9_4 * 64)) 65535) t128) (ji34)) % 256]) (Go.bits .or .i64 (Go.bits .and .i64 (wrap64 (x9_4 * 64)) 65535) t128) ji34 x4_13 (x4_13.length : Int) (wrap64 (x69_4 + 1))) else (none)) else (none)) = some (r1, r2) := by first | (rw [hji34] at H; exact H) | (simp only [hji34] at H ⊢; exact H)
                                (try rw [hji34] at A31)
                                have hji34w : (IntKind.i64.wrap ((wrap64 (x10_4 + 6)) - 8)) = ji34 := (i64_w _).trans hji34
                                by_cases c35 : 0 ≤ (ji34)
                                · rw [if_pos c35] at H
                                  have c35b0 := eq_true c35
                                  have c35b1 : decide (0 ≤ (ji34)) = true := decide_eq_true c35
                                  clear c35
                                  obtain ⟨ji36, hji36⟩ : ∃ j_ : Int, (shr .i64 (Go.bits .or .i64 (Go.bits .and .i64 (wrap64 (x9_4 * 64)) 65535) t128) (ji34)) = j_ := ⟨_, rfl⟩
                                  replace H : (if x8_4.length < 140737488355328 then (infra_Base64.l2 k4 (x8_4 ++ [(ji36) % 256]) (Go.bits .or .i64 (Go.bits .and .i64 (wrap64 (x9_4 * 64)) 65535) t128) ji34 x4_13 (x4_13.length : Int) (wrap64 (x69_4 + 1))) else (none)) = some (r1, r2) := by first | (rw [hji36] at H; exact H) | (simp only [hji36] at H ⊢; exact H)
                                  (try rw [hji36] at A31)
                                  have hji36_ : ((Go.bits .or .i64 (Go.bits .and .i64 (wrap64 (x9_4 * 64)) 65535) t128) / 2 ^ min (ji34).toNat 64) = ji36 := hji36
                                  have hji36z : (ji34) ≤ 64 → ((Go.bits .or .i64 (Go.bits .and .i64 (wrap64 (x9_4 * 64)) 65535) t128) / 2 ^ (ji34).toNat) = ji36 := shr_small hji36
                                  by_cases c37 : x8_4.length < 140737488355328
                                  · rw [if_pos c37] at H
                                    have LMc37 := Aside0.mk c37
                                    clear c37
                                    obtain ⟨y129, hy129⟩ : ∃ y_ : List Int, y_ = (x8_4 ++ [(ji36) % 256]) := ⟨_, rfl⟩
                                    replace H : (infra_Base64.l2 k4 y129 (Go.bits .or .i64 (Go.bits .and .i64 (wrap64 (x9_4 * 64)) 65535) t128) ji34 x4_13 (x4_13.length : Int) (wrap64 (x69_4 + 1))) = some (r1, r2) := by first | (rw [hy129]; with_reducible exact H) | (have H2_ := (Option.bind_some _ _).symm.trans H; rw [hy129]; with_reducible exact H2_) | (have H2_ := (Option.bind_some _ _).symm.trans H; with_reducible exact H2_) | with_reducible exact H | (rw [hy129]; exact H) | exact H
                                    have Ny129 := Aside0.mk hy129
                                    clear hy129
                                    have H' := Aside0.mk H
                                    clear H
                                    have p127 : 0 ≤ (x69_4 : Int) := of_decide_eq_true (by first | (with_reducible assumption) | assumption)
                                    have q127 : x69_4 < (x4_13.length : Int) := of_decide_eq_true (by first | (with_reducible assumption) | assumption)
                                    obtain ⟨ad127, e127, hx127_0⟩ := Kd.at_int (Kd.R_reads' HO_67.out).2.2 x69_4 p127 q127
                                    cases e127
                                    replace p127 := eq_true p127
                                    replace q127 := eq_true q127
                                    go_wp2_with (first | ((with_reducible refine gate_callee (f := 26) rfl ?_); refine goesL_ (some 74) rfl rfl Try.func26 (by kernel_rfl) rfl #[.string (⟨#[65, 66, 67, 68, 69, 70, 71, 72, 73, 74, 75, 76, 77, 78, 79, 80, 81, 82, 83, 84, 85, 86, 87, 88, 89, 90, 97, 98, 99, 100, 101, 102, 103, 104, 105, 106, 107, 108, 109, 110, 111, 112, 113, 114, 115, 116, 117, 118, 119, 120, 121, 122, 48, 49, 50, 51, 52, 53, 54, 55, 56, 57, 43, 47]⟩ : ByteArray), .int .u8 (rd x4_13 x69_4)] rfl (by (try simp only [List.map_toArray, List.map_cons, List.map_nil]); first | done | rfl | (simp only [List.length_drop, List.length_take]; rfl)) ?_; (with_reducible refine (strings_IndexByte.calls (⟨#[65, 66, 67, 68, 69, 70, 71, 72, 73, 74, 75, 76, 77, 78, 79, 80, 81, 82, 83, 84, 85, 86, 87, 88, 89, 90, 97, 98, 99, 100, 101, 102, 103, 104, 105, 106, 107, 108, 109, 110, 111, 112, 113, 114, 115, 116, 117, 118, 119, 120, 121, 122, 48, 49, 50, 51, 52, 53, 54, 55, 56, 57, 43, 47]⟩ : ByteArray) (rd x4_13 x69_4) t128 _ A31.out).mono ?_); rintro e w' ⟨rfl, ⟨nd, rfl⟩⟩; refine ⟨_, rfl, ?_⟩) | ((with_reducible refine gate_builtin (b := .append) (xs := #[.tmp 88, .tmp 93]) rfl ?_); (try (refine gate_guard (by rfl) ?_; dsimp only)); at_builtin; refine Kd.R_append (Kd.int .u8) (w0 := w) w.heap.size rfl (.tmp 88) (.tmp 93) 22 5 (.int .u8 0) 1 rfl Try.underlying22 info5 rfl (by decide) (by omega) u8 x8_4 ((ji36) % 256) [.int .u8 ((ji36) % 256)] (fun k_ => some k_ ≠ (.slice (some ad127) x4_13.length co27 : Value).ownBlock) (fun _ => False) rfl rfl ?aP (fun _ hk => hk.elim) ?aF ?aO ?aB ?aS ?aL ?_; (case aP => exact rfl); (case aB => exact (by repeat (first | (with_reducible first | exact HB.out | apply below_alloc | apply pw_below_drewN | apply below_drew1) | exact HB.out))); (case aF => exact (fun k_ hk => Kd.fresh' (Kd.R_lt (by (with_reducible repeat (first | apply Kd.R_alloc | apply Kd.R_drewN | apply Kd.R_drew)); exact HO_67.out)) k_ hk)); (case aO => exact (by (with_reducible repeat (first | apply Kd.R_alloc | apply Kd.R_drewN | apply Kd.R_drew)); exact HO_8.out)); (case aS => exact (below_size (by repeat (first | (with_reducible first | exact HB.out | apply below_alloc | apply pw_below_drewN | apply below_drew1) | exact HB.out)))); (case aL => have := LMc37.out; omega); intro v130 w38 ho hb hg hat; rw [← Ny129.out] at ho; have n0_ := Aside0.mk (Kd.R_after (ok := (fun _ => True)) (by (with_reducible repeat (first | apply Kd.R_alloc | apply Kd.R_drewN | apply Kd.R_drew)); exact Kd.R_mono HO_67.out (fun _ hk => ⟨trivial, hk⟩)) hg hat); have n1_ := Aside0.mk (hb); have n2_ := Aside0.mk (ho); clear HO_67; clear HB; clear HO_8; have HO_67 := n0_; have HB := n1_; have HO131 := n2_; clear n0_ n1_ n2_; clear ho hb hg hat))
                                    go_roundg k4
                                    case measure => have := HK1.out; have := HJ10.out; have := HJ13.out; have := HK4.out; omega
                                    case rel => exact ⟨(y129), (Go.bits .or .i64 (Go.bits .and .i64 (wrap64 (x9_4 * 64)) 65535) t128), (ji34), (wrap64 (x69_4 + 1)), (by first | rfl | (simp; done) | (simp [*]; done)), (by first | rfl | (simp; done) | (simp only [← hji34] <;> (first | rfl | simp)) | (simp [*]; done)), (by first | rfl | (simp; done) | (simp [*]; done)), H', ⟨by have := HK1.out; have := HJ10.out; have := HJ13.out; have := HK4.out; omega⟩, ⟨by (with_reducible repeat (first | apply Kd.R_alloc | apply Kd.R_drewN | apply Kd.R_drew)); exact HO131.out⟩, ⟨by (with_reducible repeat (first | apply Kd.R_alloc | apply Kd.R_drewN | apply Kd.R_drew)); exact Kd.R_mono HO_67.out (fun _ hk => hk.2)⟩, ⟨by repeat (first | (with_reducible first | exact HB.out | apply below_alloc | apply pw_below_drewN | apply below_drew1) | exact HB.out)⟩⟩
                                  · rw [if_neg c37] at H
                                    exact absurd H (by simp)
                                · rw [if_neg c35] at H
                                  exact absurd H (by simp)
                              · rw [if_neg c33] at H
                                have c33b0 : decide (8 ≤ (wrap64 (x10_4 + 6))) = false := decide_eq_false c33
                                clear c33
                                have H' := Aside0.mk H
                                clear H
                                have p127 : 0 ≤ (x69_4 : Int) := of_decide_eq_true (by first | (with_reducible assumption) | assumption)
                                have q127 : x69_4 < (x4_13.length : Int) := of_decide_eq_true (by first | (with_reducible assumption) | assumption)
                                obtain ⟨ad127, e127, hx127_0⟩ := Kd.at_int (Kd.R_reads' HO_67.out).2.2 x69_4 p127 q127
                                cases e127
                                replace p127 := eq_true p127
                                replace q127 := eq_true q127
                                go_wp2_with (first | ((with_reducible refine gate_callee (f := 26) rfl ?_); refine goesL_ (some 74) rfl rfl Try.func26 (by kernel_rfl) rfl #[.string (⟨#[65, 66, 67, 68, 69, 70, 71, 72, 73, 74, 75, 76, 77, 78, 79, 80, 81, 82, 83, 84, 85, 86, 87, 88, 89, 90, 97, 98, 99, 100, 101, 102, 103, 104, 105, 106, 107, 108, 109, 110, 111, 112, 113, 114, 115, 116, 117, 118, 119, 120, 121, 122, 48, 49, 50, 51, 52, 53, 54, 55, 56, 57, 43, 47]⟩ : ByteArray), .int .u8 (rd x4_13 x69_4)] rfl (by (try simp only [List.map_toArray, List.map_cons, List.map_nil]); first | done | rfl | (simp only [List.length_drop, List.length_take]; rfl)) ?_; (with_reducible refine (strings_IndexByte.calls (⟨#[65, 66, 67, 68, 69, 70, 71, 72, 73, 74, 75, 76, 77, 78, 79, 80, 81, 82, 83, 84, 85, 86, 87, 88, 89, 90, 97, 98, 99, 100, 101, 102, 103, 104, 105, 106, 107, 108, 109, 110, 111, 112, 113, 114, 115, 116, 117, 118, 119, 120, 121, 122, 48, 49, 50, 51, 52, 53, 54, 55, 56, 57, 43, 47]⟩ : ByteArray) (rd x4_13 x69_4) t128 _ A31.out).mono ?_); rintro e w' ⟨rfl, ⟨nd, rfl⟩⟩; refine ⟨_, rfl, ?_⟩))
                                go_roundg k4
                                case measure => have := HK1.out; have := HJ10.out; have := HJ13.out; have := HK4.out; omega
                                case rel => exact ⟨(x8_4), (Go.bits .or .i64 (Go.bits .and .i64 (wrap64 (x9_4 * 64)) 65535) t128), (wrap64 (x10_4 + 6)), (wrap64 (x69_4 + 1)), (by first | rfl | (simp; done) | (simp [*]; done)), (by first | rfl | (simp; done) | (simp [*]; done)), (by first | rfl | (simp; done) | (simp [*]; done)), H', ⟨by have := HK1.out; have := HJ10.out; have := HJ13.out; have := HK4.out; omega⟩, ⟨by (with_reducible repeat (first | apply Kd.R_alloc | apply Kd.R_drewN | apply Kd.R_drew)); exact HO_8.out⟩, ⟨by (with_reducible repeat (first | apply Kd.R_alloc | apply Kd.R_drewN | apply Kd.R_drew)); exact HO_67.out⟩, ⟨by repeat (first | (with_reducible first | exact HB.out | apply below_alloc | apply pw_below_drewN | apply below_drew1) | exact HB.out)⟩⟩
                          · rw [if_neg c30] at H
                            exact absurd H (by simp)
                        · rw [if_neg c29] at H
                          exact absurd H (by simp)
                      · rw [if_neg c28] at H
                        have c28b0 : decide (x69_4 < (x4_13.length : Int)) = false := decide_eq_false c28
                        clear c28
                        simp only [Option.some.injEq, Prod.mk.injEq] at H
                        obtain ⟨rfl, rfl⟩ := H
                        go_wp2
                        go_ret2
                        exact ⟨_, by first | rfl | (simp [errW_none, errW_some] <;> rfl) | (simp [*, errW_none, errW_some] <;> rfl), by (with_reducible repeat (first | apply Kd.R_alloc | apply Kd.R_drewN | apply Kd.R_drew)); exact Kd.R_mono HO_8.out (fun _ hk => trivial), by repeat (first | (with_reducible first | exact HB.out | apply below_alloc | apply pw_below_drewN | apply below_drew1) | exact HB.out)⟩

end Go.Proofs.Ytcnjbbgecopjmaa.PX
