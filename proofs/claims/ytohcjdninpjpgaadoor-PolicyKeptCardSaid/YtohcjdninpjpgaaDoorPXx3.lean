/- Functions of the program and their walks, printed by a program. -/
import Derived.Test.YtohcjdninpjpgaaDoorCpolicyPolicyrule
import Derived.Test.YtohcjdninpjpgaaDoorCpolicyRule
import Derived.Test.YtohcjdninpjpgaaDoorCstringsJoin
import Derived.Test.YtohcjdninpjpgaaDoorCslicesClonestringstring
import Derived.Test.YtohcjdninpjpgaaDoorCpolicywords
import Derived.Test.YtohcjdninpjpgaaDoorCstringsSplit
import Derived.Test.YtohcjdninpjpgaaDoorCostiaryref1Lower
import Derived.Test.YtohcjdninpjpgaaDoorCinfraLower
import Derived.Test.YtohcjdninpjpgaaDoorPXx0
import Derived.Test.YtohcjdninpjpgaaDoorPXx1
import Derived.Test.YtohcjdninpjpgaaDoorPXx2
namespace Go.Proofs.YtohcjdninpjpgaaDoor.PX
open Go.Proofs.YtohcjdninpjpgaaDoor.Own
open Go.RowKit Go.Proofs.YtohcjdninpjpgaaDoorW.PrintWords Go.Proofs.YtohcjdninpjpgaaDoorW.PrintLast Go.Proofs.YtohcjdninpjpgaaDoorW.PrintMore
attribute [local go_sem] max2_int min2_int max_two min_two max_three min_three max_four min_four   -- for this text's walks alone
set_option linter.unusedVariables false
set_option linter.unusedSimpArgs false

/-! ### policy_From: function 13 -/
mutual
def policy_From.l0 : Nat → List (S29) → List (S33) → List ByteArray → Int → Int → Option ((List (S33)))
  | 0, _, _, _, _, _ => none
  | k + 1, x0, x3, x11, x12, x13 => if x13 < x12 then (if 0 ≤ x13 then (if x13 < (x11.length : Int) then (policy_From.l1 k x0 x3 (rdOf ByteArray.empty x11 x13) x11 x12 x13 x0 (x0.length : Int) 0) else (none)) else (none)) else (some x3)
def policy_From.l1 : Nat → List (S29) → List (S33) → ByteArray → List ByteArray → Int → Int → List (S29) → Int → Int → Option ((List (S33)))
  | 0, _, _, _, _, _, _, _, _, _ => none
  | k + 1, x0, x3, x5, x11, x12, x13, x17, x18, x19 => if x19 < x18 then (if 0 ≤ x19 then (if x19 < (x17.length : Int) then ((infra_Lower.f ((rd_T29 x17 x19).f0)).bind fun t198 => (if t198.toList = x5.toList then ((strings_Split.f ((rd_T29 x17 x19).f1) (⟨#[44]⟩ : ByteArray)).bind fun t199 => (policy_From.l2 k x0 x3 x5 x11 x12 x13 x17 x18 x19 t199 (t199.length : Int) 0)) else (policy_From.l1 k x0 x3 x5 x11 x12 x13 x17 x18 (wrap64 (x19 + 1))))) else (none)) else (none)) else (policy_From.l0 k x0 x3 x11 x12 (wrap64 (x13 + 1)))
def policy_From.l2 : Nat → List (S29) → List (S33) → ByteArray → List ByteArray → Int → Int → List (S29) → Int → Int → List ByteArray → Int → Int → Option ((List (S33)))
  | 0, _, _, _, _, _, _, _, _, _, _, _, _ => none
  | k + 1, x0, x3, x5, x11, x12, x13, x17, x18, x19, x30, x31, x32 => if x32 < x31 then (if 0 ≤ x32 then (if x32 < (x30.length : Int) then ((strings_HasSuffix.f x5 (⟨#[45, 111, 110, 108, 121]⟩ : ByteArray)).bind fun t203 => ((policy_Parse.f k (rdOf ByteArray.empty x30 x32) t203).bind fun bt204 => (if (bt204.1.length : Int) > 0 then (if x3.length < 4398046511104 then (policy_From.l2 k x0 (x3 ++ [(⟨bt204.1, bt204.2⟩ : S33)]) x5 x11 x12 x13 x17 x18 x19 x30 x31 (wrap64 (x32 + 1))) else (none)) else (policy_From.l2 k x0 x3 x5 x11 x12 x13 x17 x18 x19 x30 x31 (wrap64 (x32 + 1)))))) else (none)) else (none)) else (policy_From.l1 k x0 x3 x5 x11 x12 x13 x17 x18 (wrap64 (x19 + 1)))
end
def policy_From.f (k : Nat) (l0 : List (S29)) : Option ((List (S33))) := (some (([(⟨#[99, 111, 110, 116, 101, 110, 116, 45, 115, 101, 99, 117, 114, 105, 116, 121, 45, 112, 111, 108, 105, 99, 121]⟩ : ByteArray), (⟨#[99, 111, 110, 116, 101, 110, 116, 45, 115, 101, 99, 117, 114, 105, 116, 121, 45, 112, 111, 108, 105, 99, 121, 45, 114, 101, 112, 111, 114, 116, 45, 111, 110, 108, 121]⟩ : ByteArray)] : List ByteArray) : List ByteArray)).bind fun y192 => (policy_From.l0 k l0 ([] : List (S33)) y192 (y192.length : Int) 0)
theorem policy_From.mono_l : ∀ k, (∀ y0 y1 y2 y3 y4, LeO (policy_From.l0 k y0 y1 y2 y3 y4) (policy_From.l0 (k + 1) y0 y1 y2 y3 y4)) ∧ (∀ y0 y1 y2 y3 y4 y5 y6 y7 y8, LeO (policy_From.l1 k y0 y1 y2 y3 y4 y5 y6 y7 y8) (policy_From.l1 (k + 1) y0 y1 y2 y3 y4 y5 y6 y7 y8)) ∧ (∀ y0 y1 y2 y3 y4 y5 y6 y7 y8 y9 y10 y11, LeO (policy_From.l2 k y0 y1 y2 y3 y4 y5 y6 y7 y8 y9 y10 y11) (policy_From.l2 (k + 1) y0 y1 y2 y3 y4 y5 y6 y7 y8 y9 y10 y11))
  | 0 => ⟨fun _ _ _ _ _ r h => by simp [policy_From.l0] at h, fun _ _ _ _ _ _ _ _ _ r h => by simp [policy_From.l1] at h, fun _ _ _ _ _ _ _ _ _ _ _ _ r h => by simp [policy_From.l2] at h⟩
  | k + 1 => by
    obtain ⟨ih0, ih1, ih2⟩ := policy_From.mono_l k
    refine ⟨?_, ?_, ?_⟩
    · intro y0 y1 y2 y3 y4
      unfold policy_From.l0
      repeat' first
      | (with_reducible exact ih0 _ _ _ _ _)
      | (with_reducible exact ih1 _ _ _ _ _ _ _ _ _)
      | (with_reducible exact ih2 _ _ _ _ _ _ _ _ _ _ _ _)
      | (with_reducible exact policy_Parse.mono _ _ _)
      | (with_reducible exact LeO.refl _)
      | (with_reducible exact LeO.none _)
      | (with_reducible refine LeO.ite ?_ ?_)
      | (with_reducible refine LeO.bind ?_ (fun _ => ?_))
      | exact ih0 _ _ _ _ _
      | exact ih1 _ _ _ _ _ _ _ _ _
      | exact ih2 _ _ _ _ _ _ _ _ _ _ _ _
      | exact policy_Parse.mono _ _ _
      | exact LeO.none _
      | refine LeO.ite ?_ ?_
      | refine LeO.bind ?_ (fun _ => ?_)
    · intro y0 y1 y2 y3 y4 y5 y6 y7 y8
      unfold policy_From.l1
      repeat' first
      | (with_reducible exact ih0 _ _ _ _ _)
      | (with_reducible exact ih1 _ _ _ _ _ _ _ _ _)
      | (with_reducible exact ih2 _ _ _ _ _ _ _ _ _ _ _ _)
      | (with_reducible exact policy_Parse.mono _ _ _)
      | (with_reducible exact LeO.refl _)
      | (with_reducible exact LeO.none _)
      | (with_reducible refine LeO.ite ?_ ?_)
      | (with_reducible refine LeO.bind ?_ (fun _ => ?_))
      | exact ih0 _ _ _ _ _
      | exact ih1 _ _ _ _ _ _ _ _ _
      | exact ih2 _ _ _ _ _ _ _ _ _ _ _ _
      | exact policy_Parse.mono _ _ _
      | exact LeO.none _
      | refine LeO.ite ?_ ?_
      | refine LeO.bind ?_ (fun _ => ?_)
    · intro y0 y1 y2 y3 y4 y5 y6 y7 y8 y9 y10 y11
      unfold policy_From.l2
      repeat' first
      | (with_reducible exact ih0 _ _ _ _ _)
      | (with_reducible exact ih1 _ _ _ _ _ _ _ _ _)
      | (with_reducible exact ih2 _ _ _ _ _ _ _ _ _ _ _ _)
      | (with_reducible exact policy_Parse.mono _ _ _)
      | (with_reducible exact LeO.refl _)
      | (with_reducible exact LeO.none _)
      | (with_reducible refine LeO.ite ?_ ?_)
      | (with_reducible refine LeO.bind ?_ (fun _ => ?_))
      | exact ih0 _ _ _ _ _
      | exact ih1 _ _ _ _ _ _ _ _ _
      | exact ih2 _ _ _ _ _ _ _ _ _ _ _ _
      | exact policy_Parse.mono _ _ _
      | exact LeO.none _
      | refine LeO.ite ?_ ?_
      | refine LeO.bind ?_ (fun _ => ?_)
theorem policy_From.mono : ∀ a0 k, LeO (policy_From.f k a0) (policy_From.f (k + 1) a0) := by
  intro a0 k
  obtain ⟨ih0, ih1, ih2⟩ := policy_From.mono_l k
  unfold policy_From.f
  repeat' first
      | (with_reducible exact ih0 _ _ _ _ _)
      | (with_reducible exact ih1 _ _ _ _ _ _ _ _ _)
      | (with_reducible exact ih2 _ _ _ _ _ _ _ _ _ _ _ _)
      | (with_reducible exact policy_Parse.mono _ _ _)
      | (with_reducible exact LeO.refl _)
      | (with_reducible exact LeO.none _)
      | (with_reducible refine LeO.ite ?_ ?_)
      | (with_reducible refine LeO.bind ?_ (fun _ => ?_))
      | exact ih0 _ _ _ _ _
      | exact ih1 _ _ _ _ _ _ _ _ _
      | exact ih2 _ _ _ _ _ _ _ _ _ _ _ _
      | exact policy_Parse.mono _ _ _
      | exact LeO.none _
      | refine LeO.ite ?_ ?_
      | refine LeO.bind ?_ (fun _ => ?_)
set_option maxHeartbeats 8000000 in
set_option maxRecDepth 100000 in
theorem policy_From.calls (k : Nat) (A0 : Option Addr) (c0 : Nat) (l0 : List (S29)) (r : List (S33)) (w : World) (hr0 : Kd.C k29 w A0 l0.length l0) (hc0 : l0.length ≤ c0) (h : policy_From.f k l0 = some r) :
    Calls Tryd.prog 13 #[.slice A0 l0.length c0] w fun e w' => ∃ v0_ : Value, e = .returned (v0_) ∧ Kd.R k33 33 w' w.heap.size (fun _ => True) v0_ r ∧ Below w.heap.size w w' := by
  have hu29 := Tryd.underlying29
  have hu33 := Tryd.underlying33
  have HR0 := Aside0.mk hr0
  have HC0 := Aside0.mk hc0
  clear hr0 hc0
  have HB := Am (Below.refl w.heap.size w)
  have H : ((some (([(⟨#[99, 111, 110, 116, 101, 110, 116, 45, 115, 101, 99, 117, 114, 105, 116, 121, 45, 112, 111, 108, 105, 99, 121]⟩ : ByteArray), (⟨#[99, 111, 110, 116, 101, 110, 116, 45, 115, 101, 99, 117, 114, 105, 116, 121, 45, 112, 111, 108, 105, 99, 121, 45, 114, 101, 112, 111, 114, 116, 45, 111, 110, 108, 121]⟩ : ByteArray)] : List ByteArray) : List ByteArray)).bind fun y192 => (policy_From.l0 k l0 ([] : List (S33)) y192 (y192.length : Int) 0)) = some r := h
  clear h
  obtain ⟨y192, hy192⟩ : ∃ y_ : List ByteArray, y_ = (([(⟨#[99, 111, 110, 116, 101, 110, 116, 45, 115, 101, 99, 117, 114, 105, 116, 121, 45, 112, 111, 108, 105, 99, 121]⟩ : ByteArray), (⟨#[99, 111, 110, 116, 101, 110, 116, 45, 115, 101, 99, 117, 114, 105, 116, 121, 45, 112, 111, 108, 105, 99, 121, 45, 114, 101, 112, 111, 114, 116, 45, 111, 110, 108, 121]⟩ : ByteArray)] : List ByteArray)) := ⟨_, rfl⟩
  replace H : (policy_From.l0 k l0 ([] : List (S33)) y192 (y192.length : Int) 0) = some r := by first | (rw [hy192]; with_reducible exact H) | (have H2_ := (Option.bind_some _ _).symm.trans H; rw [hy192]; with_reducible exact H2_) | (have H2_ := (Option.bind_some _ _).symm.trans H; with_reducible exact H2_) | with_reducible exact H | (rw [hy192]; exact H) | exact H
  have Ny192 := Aside0.mk hy192
  clear hy192
  have H' := Aside0.mk H
  clear H
  go_enter Tryd.func13, Tryd.ntmps13
  go_wp2_with (first | ((with_reducible refine gate_dst (N := 11) rfl ?_); refine Kd.R_lit Kd.string _ 9 ?hg (N := 11) ?hd (xs := ([(⟨#[99, 111, 110, 116, 101, 110, 116, 45, 115, 101, 99, 117, 114, 105, 116, 121, 45, 112, 111, 108, 105, 99, 121]⟩ : ByteArray), (⟨#[99, 111, 110, 116, 101, 110, 116, 45, 115, 101, 99, 117, 114, 105, 116, 121, 45, 112, 111, 108, 105, 99, 121, 45, 114, 101, 112, 111, 114, 116, 45, 111, 110, 108, 121]⟩ : ByteArray)] : List ByteArray)) (inner := [.string (⟨#[99, 111, 110, 116, 101, 110, 116, 45, 115, 101, 99, 117, 114, 105, 116, 121, 45, 112, 111, 108, 105, 99, 121]⟩ : ByteArray), .string (⟨#[99, 111, 110, 116, 101, 110, 116, 45, 115, 101, 99, 117, 114, 105, 116, 121, 45, 112, 111, 108, 105, 99, 121, 45, 114, 101, 112, 111, 114, 116, 45, 111, 110, 108, 121]⟩ : ByteArray)]) (ok := fun _ => True) (okp := fun _ => True) ?hr ?hp (fun _ hk => hk) trivial (Below.refl _ _) (Nat.le_refl _) (by simp) ?_; xdg_; (case hp => exact (Reps.one (show Kd.M Kd.string _ _ _ (⟨#[99, 111, 110, 116, 101, 110, 116, 45, 115, 101, 99, 117, 114, 105, 116, 121, 45, 112, 111, 108, 105, 99, 121]⟩ : ByteArray) [.string (⟨#[99, 111, 110, 116, 101, 110, 116, 45, 115, 101, 99, 117, 114, 105, 116, 121, 45, 112, 111, 108, 105, 99, 121]⟩ : ByteArray)] from rfl) (Reps.one (show Kd.M Kd.string _ _ _ (⟨#[99, 111, 110, 116, 101, 110, 116, 45, 115, 101, 99, 117, 114, 105, 116, 121, 45, 112, 111, 108, 105, 99, 121, 45, 114, 101, 112, 111, 114, 116, 45, 111, 110, 108, 121]⟩ : ByteArray) [.string (⟨#[99, 111, 110, 116, 101, 110, 116, 45, 115, 101, 99, 117, 114, 105, 116, 121, 45, 112, 111, 108, 105, 99, 121, 45, 114, 101, 112, 111, 114, 116, 45, 111, 110, 108, 121]⟩ : ByteArray)] from rfl) (Reps.none _ _)))); intro v193 w2 ho3 hb hg_ hnew_; clear hg_ hnew_; (first | rw [← Ny192.out] at ho3 | (simp only [Int.reduceToNat] at ho3; rw [← Ny192.out] at ho3)); have n0_ := Am (Kd.R_lower ho3 (below_size (by xhb_))); have n1_ := Am (below_step (by xhb_) hb); clear HB; have HO194 := n0_; have HB := n1_; clear n0_ n1_; clear hb ho3; obtain ⟨Ao4, co4, eo4⟩ := Kd.R_slice HO194.out; subst eo4))
  go_loopg [3, 13] k (fun kq v3 v13 w' => ∃ (x3_1 : List (S33)) (x13_1 : Int), v13 = .int .i64 x13_1 ∧ Aside0 (policy_From.l0 kq l0 x3_1 y192 (y192.length : Int) x13_1 = some r) ∧ Aside0 (kq ≤ k) ∧ Aside0 (Kd.R k33 33 w' w.heap.size (fun k_ => some k_ ≠ ((.slice Ao4 y192.length co4) : Value).ownBlock) v3 x3_1) ∧ Aside0 (Kd.R Kd.string 9 w' w.heap.size (fun _ => True) (.slice Ao4 y192.length co4) y192) ∧ Aside0 (Below w.heap.size w w'))
  case atStart => exact ⟨(([] : List (S33))), (0), (by first | rfl | (simp; done) | (simp [*]; done)), H', ⟨Nat.le_refl _⟩, ⟨by first | exact Kd.R_nil _ _ _ _ _ | exact Kd.N_nil _ _ _ _ _ | exact Kd.V_nil _ _ _ _ _ | exact Kd.Q_nil _ _ _ _ _ | exact Kd.S_nil _ _ _ _ _⟩, ⟨by xRd_; exact HO194.out⟩, ⟨by xhb_⟩⟩
  case round =>
    clear H'
    try clear c1
    try clear p2
    obtain ⟨x3_1, x13_1, rfl, HA, HK1, HO_3, HO_11, HB⟩ := hrel
    cases gk with
    | zero => exact absurd HA.out (by simp [policy_From.l0])
    | succ k1 =>
      have H := HA.out
      clear HA
      simp only [policy_From.l0] at H
      by_cases c5 : x13_1 < (y192.length : Int)
      · rw [if_pos c5] at H
        have c5b0 : decide (x13_1 < (y192.length : Int)) = true := decide_eq_true c5
        clear c5
        by_cases c6 : 0 ≤ x13_1
        · rw [if_pos c6] at H
          have c6b0 : decide (0 ≤ x13_1) = true := decide_eq_true c6
          clear c6
          by_cases c7 : x13_1 < (y192.length : Int)
          · rw [if_pos c7] at H
            have c7b0 : decide (x13_1 < (y192.length : Int)) = true := decide_eq_true c7
            clear c7
            have H' := Aside0.mk H
            clear H
            have p195 : 0 ≤ (x13_1 : Int) := of_decide_eq_true (by first | (with_reducible assumption) | assumption)
            have q195 : x13_1 < (y192.length : Int) := of_decide_eq_true (by first | (with_reducible assumption) | assumption)
            obtain ⟨ad195, e195, hx195_0⟩ := Kd.at_string (Kd.R_reads' HO_11.out).2.2 x13_1 p195 q195
            cases e195
            replace p195 := eq_true p195
            replace q195 := eq_true q195
            go_wp2
            go_loopg [3, 19] k1 (fun kq v3 v19 w' => ∃ (x3_2 : List (S33)) (x19_2 : Int), v19 = .int .i64 x19_2 ∧ Aside0 (policy_From.l1 kq l0 x3_2 (rdOf ByteArray.empty y192 x13_1) y192 (y192.length : Int) x13_1 l0 (l0.length : Int) x19_2 = some r) ∧ Aside0 (kq ≤ k1) ∧ Aside0 (Kd.R k33 33 w' w.heap.size (fun k_ => some k_ ≠ ((.slice (some ad195) y192.length co4) : Value).ownBlock) v3 x3_2) ∧ Aside0 (Kd.R Kd.string 9 w' w.heap.size (fun _ => True) (.slice (some ad195) y192.length co4) y192) ∧ Aside0 (Below w.heap.size w w'))
            case atStart => exact ⟨(x3_1), (0), (by first | rfl | (simp; done) | (simp [*]; done)), H', ⟨Nat.le_refl _⟩, ⟨by xRd_; exact HO_3.out⟩, ⟨by xRd_; exact HO_11.out⟩, ⟨by xhb_⟩⟩
            case round =>
              clear H'
              try clear c1
              try clear p1
              try clear q1
              try clear hx1
              try clear p2
              try clear c5
              try clear c5b0
              try clear c6
              try clear c6b0
              try clear c7
              try clear c7b0
              try clear hx195_0
              try clear p195
              try clear p2
              try clear q195
              obtain ⟨x3_2, x19_2, rfl, HA, HK2, HO_3, HO_11, HB⟩ := hrel
              cases gk with
              | zero => exact absurd HA.out (by simp [policy_From.l1])
              | succ k2 =>
                have H := HA.out
                clear HA
                simp only [policy_From.l1] at H
                by_cases c8 : x19_2 < (l0.length : Int)
                · rw [if_pos c8] at H
                  have c8b0 : decide (x19_2 < (l0.length : Int)) = true := decide_eq_true c8
                  clear c8
                  by_cases c9 : 0 ≤ x19_2
                  · rw [if_pos c9] at H
                    have c9b0 : decide (0 ≤ x19_2) = true := decide_eq_true c9
                    clear c9
                    by_cases c10 : x19_2 < (l0.length : Int)
                    · rw [if_pos c10] at H
                      have c10b0 : decide (x19_2 < (l0.length : Int)) = true := decide_eq_true c10
                      clear c10
                      replace H := Option.bind_eq_some_iff.mp H
                      obtain ⟨t198, A110, H⟩ := H
                      replace H : (if t198.toList = (rdOf ByteArray.empty y192 x13_1).toList then ((strings_Split.f ((rd_T29 l0 x19_2).f1) (⟨#[44]⟩ : ByteArray)).bind fun t199 => (policy_From.l2 k2 l0 x3_2 (rdOf ByteArray.empty y192 x13_1) y192 (y192.length : Int) x13_1 l0 (l0.length : Int) x19_2 t199 (t199.length : Int) 0)) else (policy_From.l1 k2 l0 x3_2 (rdOf ByteArray.empty y192 x13_1) y192 (y192.length : Int) x13_1 l0 (l0.length : Int) (wrap64 (x19_2 + 1)))) = some r := H
                      have A11 := Aside0.mk A110
                      clear A110
                      by_cases c12 : t198.toList = (rdOf ByteArray.empty y192 x13_1).toList
                      · rw [if_pos c12] at H
                        have c12b0 : (t198.toList == (rdOf ByteArray.empty y192 x13_1).toList) = true := beq_iff_eq.mpr c12
                        have c12b1 : (t198.toList != (rdOf ByteArray.empty y192 x13_1).toList) = false := bne_eq_false_iff_eq.mpr c12
                        clear c12
                        replace H := Option.bind_eq_some_iff.mp H
                        obtain ⟨t199, A130, H⟩ := H
                        replace H : (policy_From.l2 k2 l0 x3_2 (rdOf ByteArray.empty y192 x13_1) y192 (y192.length : Int) x13_1 l0 (l0.length : Int) x19_2 t199 (t199.length : Int) 0) = some r := H
                        have A13 := Aside0.mk A130
                        clear A130
                        have H' := Aside0.mk H
                        clear H
                        have p196 : 0 ≤ (x19_2 : Int) := of_decide_eq_true (by first | (with_reducible assumption) | assumption)
                        have q196 : x19_2 < (l0.length : Int) := of_decide_eq_true (by first | (with_reducible assumption) | assumption)
                        obtain ⟨ad196, e196, hx196_0, hx196_1⟩ := at_T29 HR0.out x19_2 p196 q196
                        cases e196
                        replace hx196_0 := (HB.out.cell (World.block_lt_of_cell? w _ hx196_0)).trans hx196_0
                        replace hx196_1 := (HB.out.cell (World.block_lt_of_cell? w _ hx196_1)).trans hx196_1
                        replace p196 := eq_true p196
                        replace q196 := eq_true q196
                        go_wp2_with (first | ((with_reducible refine gate_dst (N := 7) rfl ?_); refine box_event ?hg (N := 7) ?hd (cs := #[.string (⟨#[]⟩ : ByteArray), .string (⟨#[]⟩ : ByteArray)]) (t := 29) ?hr ?_; xdg_; intro gb197 hg w14 hbox hb; have n0_ := Am (Kd.R_below (by xRd_; exact HO_3.out) hb); have n1_ := Am (Kd.R_below (by xRd_; exact HO_11.out) hb); have n2_ := Am (below_step (by xhb_) hb); have n3_ := Am (hbox); have n4_ := Am ((by rw [hg]; exact (below_size (by xhb_)) : w.heap.size ≤ gb197)); have n5_ := Am ((by rw [hg]; exact (below_size (by xhb_)) : w.heap.size ≤ gb197)); clear HO_3; clear HO_11; clear HB; have HO_3 := n0_; have HO_11 := n1_; have HB := n2_; have BK197 := n3_; have GW197 := n4_; have GE197 := n5_; clear n0_ n1_ n2_ n3_ n4_ n5_; clear hb hbox hg; have hcz15_0 : w14.cell? ⟨gb197, 0, none⟩ = some (.string (⟨#[]⟩ : ByteArray)) := (blk_cell BK197.out 0).trans rfl; have hcz15_1 : w14.cell? ⟨gb197, 1, none⟩ = some (.string (⟨#[]⟩ : ByteArray)) := (blk_cell BK197.out 1).trans rfl; have hfz15_0 := blk_frozen BK197.out 0; have hfz15_1 := blk_frozen BK197.out 1) | ((with_reducible refine gate_callee (f := 29) rfl ?_); refine goesL_ (some 25) rfl rfl Tryd.func29 (by kernel_rfl) rfl #[.string ((rd_T29 l0 x19_2).f0)] rfl (by xmp_) ?_; (with_reducible refine (infra_Lower.calls ((rd_T29 l0 x19_2).f0) t198 _ A11.out).mono ?_); rintro e w16 ⟨rfl, hb⟩; refine ⟨_, rfl, ?_⟩; have n0_ := Am (Kd.R_below (by xRd_; exact (Kd.R_mono (Kd.R_far (p := ⟨gb197, 1, none⟩) (Kd.R_far (p := ⟨gb197, 0, none⟩) (Kd.R_types HO_3.out BK197.out (by decide)) (fun _ hk => hk.2) (.string ((rd_T29 l0 x19_2).f0))) (fun _ hk => hk.2) (.string ((rd_T29 l0 x19_2).f1))) (fun _ h_ => h_.1))) hb); have n1_ := Am (Kd.R_below (by xRd_; exact (Kd.R_mono (Kd.R_far (p := ⟨gb197, 1, none⟩) (Kd.R_far (p := ⟨gb197, 0, none⟩) (Kd.R_types HO_11.out BK197.out (by decide)) (fun _ hk => hk.2) (.string ((rd_T29 l0 x19_2).f0))) (fun _ hk => hk.2) (.string ((rd_T29 l0 x19_2).f1))) (fun _ h_ => h_.1))) hb); have n2_ := Am (blk_below (g := gb197) (o := .cells #[.string ((rd_T29 l0 x19_2).f0), .string ((rd_T29 l0 x19_2).f1)] 29 (0, 0)) (by xbk_; refine blk_put (cs := #[.string ((rd_T29 l0 x19_2).f0), .string (⟨#[]⟩ : ByteArray)]) ?_ 1 _ rfl; xbk_; refine blk_put (cs := #[.string (⟨#[]⟩ : ByteArray), .string (⟨#[]⟩ : ByteArray)]) ?_ 0 _ rfl; xbk_; exact BK197.out) hb); have n3_ := Am (below_step (by xhc_ GE197) hb); clear HO_3; clear HO_11; clear BK197; clear HB; have HO_3 := n0_; have HO_11 := n1_; have BK197 := n2_; have HB := n3_; clear n0_ n1_ n2_ n3_; (try clear hb); (try clear hb2); (try clear hk); (try clear hi); have hcz17_0 : w16.cell? ⟨gb197, 0, none⟩ = some (.string ((rd_T29 l0 x19_2).f0)) := (blk_cell BK197.out 0).trans rfl; have hcz17_1 : w16.cell? ⟨gb197, 1, none⟩ = some (.string ((rd_T29 l0 x19_2).f1)) := (blk_cell BK197.out 1).trans rfl; have hfz17_0 := blk_frozen BK197.out 0; have hfz17_1 := blk_frozen BK197.out 1) | ((with_reducible refine gate_callee (f := 30) rfl ?_); refine goesL_ (some 30) rfl rfl Tryd.func30 (by kernel_rfl) rfl #[.string ((rd_T29 l0 x19_2).f1), .string (⟨#[44]⟩ : ByteArray)] rfl (by xmp_) ?_; (with_reducible refine (strings_Split.calls ((rd_T29 l0 x19_2).f1) (⟨#[44]⟩ : ByteArray) t199 _ A13.out).mono ?_); rintro e w18 ⟨v200, rfl, ho0, hb⟩; refine ⟨_, rfl, ?_⟩; have n0_ := Am (Kd.R_elder' (by xRd_; exact HO_3.out) (Kd.R_base ho0) hb); have n1_ := Am (Kd.R_elder' (by xRd_; exact HO_11.out) (Kd.R_base ho0) hb); have n2_ := Am (Kd.R_lower (Kd.R_new' ho0 (Kd.R_lt (by xRd_; exact HO_11.out))) (below_size (by xhc_ GE197))); have n3_ := Am (blk_below (g := gb197) (o := .cells #[.string ((rd_T29 l0 x19_2).f0), .string ((rd_T29 l0 x19_2).f1)] 29 (0, 0)) (by xbk_; exact BK197.out) hb); have n4_ := Am (below_step (by xhc_ GE197) hb); clear HO_3; clear HO_11; clear BK197; clear HB; have HO_3 := n0_; have HO_11 := n1_; have HO201 := n2_; have BK197 := n3_; have HB := n4_; clear n0_ n1_ n2_ n3_ n4_; xcl_; obtain ⟨Ao19, co19, eo19⟩ := Kd.R_slice HO201.out; subst eo19))
                        go_loopg [3, 32] k2 (fun kq v3 v32 w' => ∃ (x3_3 : List (S33)) (x32_3 : Int), v32 = .int .i64 x32_3 ∧ Aside0 (policy_From.l2 kq l0 x3_3 (rdOf ByteArray.empty y192 x13_1) y192 (y192.length : Int) x13_1 l0 (l0.length : Int) x19_2 t199 (t199.length : Int) x32_3 = some r) ∧ Aside0 (kq ≤ k2) ∧ Aside0 (Kd.R k33 33 w' w.heap.size (fun k_ => some k_ ≠ ((.slice (some ad195) y192.length co4) : Value).ownBlock ∧ some k_ ≠ ((.slice Ao19 t199.length co19) : Value).ownBlock) v3 x3_3) ∧ Aside0 (Kd.R Kd.string 9 w' w.heap.size (fun k_ => some k_ ≠ ((.slice Ao19 t199.length co19) : Value).ownBlock) (.slice (some ad195) y192.length co4) y192) ∧ Aside0 (Kd.R Kd.string 9 w' w.heap.size (fun k_ => some k_ ≠ ((.slice (some ad195) y192.length co4) : Value).ownBlock) (.slice Ao19 t199.length co19) t199) ∧ Aside0 (w'.heap[gb197]? = some (.cells #[.string ((rd_T29 l0 x19_2).f0), .string ((rd_T29 l0 x19_2).f1)] 29 (0, 0))) ∧ Aside0 (Below w.heap.size w w'))
                        case atStart => exact ⟨(x3_2), (0), (by first | rfl | (simp; done) | (simp [*]; done)), H', ⟨Nat.le_refl _⟩, ⟨by xRd_; exact HO_3.out⟩, ⟨by xRd_; exact Kd.R_mono HO_11.out (fun _ hk => hk.2)⟩, ⟨by xRd_; exact Kd.R_mono HO201.out (fun _ hk => hk.2)⟩, ⟨by xbk_; exact BK197.out⟩, ⟨by xhc_ GE197⟩⟩
                        case round =>
                          clear H'
                          try clear c1
                          try clear p1
                          try clear q1
                          try clear hx1
                          try clear c2
                          try clear p2
                          try clear c3
                          try clear c5
                          try clear c5b0
                          try clear c6
                          try clear c6b0
                          try clear p6
                          try clear c7
                          try clear c7b0
                          try clear c8
                          try clear c8b0
                          try clear c9
                          try clear c9b0
                          try clear c10
                          try clear c10b0
                          try clear c12
                          try clear c12b0
                          try clear c12b1
                          try clear c13
                          try clear p19
                          try clear q19
                          try clear hx19
                          try clear hcz15_0
                          try clear hcz15_1
                          try clear hcz17_0
                          try clear hcz17_1
                          try clear hfz15_0
                          try clear hfz15_1
                          try clear hfz17_0
                          try clear hfz17_1
                          try clear hx195_0
                          try clear hx196_0
                          try clear hx196_1
                          try clear p1
                          try clear p195
                          try clear p196
                          try clear p2
                          try clear q1
                          try clear q195
                          try clear q196
                          obtain ⟨x3_3, x32_3, rfl, HA, HK3, HO_3, HO_11, HO_30, BK197, HB⟩ := hrel
                          cases gk with
                          | zero => exact absurd HA.out (by simp [policy_From.l2])
                          | succ k3 =>
                            have H := HA.out
                            clear HA
                            simp only [policy_From.l2] at H
                            by_cases c20 : x32_3 < (t199.length : Int)
                            · rw [if_pos c20] at H
                              have c20b0 : decide (x32_3 < (t199.length : Int)) = true := decide_eq_true c20
                              clear c20
                              by_cases c21 : 0 ≤ x32_3
                              · rw [if_pos c21] at H
                                have c21b0 : decide (0 ≤ x32_3) = true := decide_eq_true c21
                                clear c21
                                by_cases c22 : x32_3 < (t199.length : Int)
                                · rw [if_pos c22] at H
                                  have c22b0 : decide (x32_3 < (t199.length : Int)) = true := decide_eq_true c22
                                  clear c22
                                  replace H := Option.bind_eq_some_iff.mp H
                                  obtain ⟨t203, A230, H⟩ := H
                                  replace H : ((policy_Parse.f k3 (rdOf ByteArray.empty t199 x32_3) t203).bind fun bt204 => (if (bt204.1.length : Int) > 0 then (if x3_3.length < 4398046511104 then (policy_From.l2 k3 l0 (x3_3 ++ [(⟨bt204.1, bt204.2⟩ : S33)]) (rdOf ByteArray.empty y192 x13_1) y192 (y192.length : Int) x13_1 l0 (l0.length : Int) x19_2 t199 (t199.length : Int) (wrap64 (x32_3 + 1))) else (none)) else (policy_From.l2 k3 l0 x3_3 (rdOf ByteArray.empty y192 x13_1) y192 (y192.length : Int) x13_1 l0 (l0.length : Int) x19_2 t199 (t199.length : Int) (wrap64 (x32_3 + 1))))) = some r := H
                                  have A23 := Aside0.mk A230
                                  clear A230
                                  replace H := Option.bind_eq_some_iff.mp H
                                  obtain ⟨⟨t204, t207⟩, A240, H⟩ := H
                                  replace H : (if (t204.length : Int) > 0 then (if x3_3.length < 4398046511104 then (policy_From.l2 k3 l0 (x3_3 ++ [(⟨t204, t207⟩ : S33)]) (rdOf ByteArray.empty y192 x13_1) y192 (y192.length : Int) x13_1 l0 (l0.length : Int) x19_2 t199 (t199.length : Int) (wrap64 (x32_3 + 1))) else (none)) else (policy_From.l2 k3 l0 x3_3 (rdOf ByteArray.empty y192 x13_1) y192 (y192.length : Int) x13_1 l0 (l0.length : Int) x19_2 t199 (t199.length : Int) (wrap64 (x32_3 + 1)))) = some r := H
                                  have A24 := Aside0.mk A240
                                  clear A240
                                  by_cases c25 : (t204.length : Int) > 0
                                  · rw [if_pos c25] at H
                                    have c25b0 : decide (0 < (t204.length : Int)) = true := decide_eq_true c25
                                    have c25b1 : decide (0 < t204.length) = true := decide_eq_true (by omega)
                                    clear c25
                                    by_cases c26 : x3_3.length < 4398046511104
                                    · rw [if_pos c26] at H
                                      have LMc26 := Aside0.mk c26
                                      clear c26
                                      obtain ⟨y209, hy209⟩ : ∃ y_ : List (S33), y_ = (x3_3 ++ [(⟨t204, t207⟩ : S33)]) := ⟨_, rfl⟩
                                      replace H : (policy_From.l2 k3 l0 y209 (rdOf ByteArray.empty y192 x13_1) y192 (y192.length : Int) x13_1 l0 (l0.length : Int) x19_2 t199 (t199.length : Int) (wrap64 (x32_3 + 1))) = some r := by first | (rw [hy209]; with_reducible exact H) | (have H2_ := (Option.bind_some _ _).symm.trans H; rw [hy209]; with_reducible exact H2_) | (have H2_ := (Option.bind_some _ _).symm.trans H; with_reducible exact H2_) | with_reducible exact H | (rw [hy209]; exact H) | exact H
                                      have Ny209 := Aside0.mk hy209
                                      clear hy209
                                      have H' := Aside0.mk H
                                      clear H
                                      have p202 : 0 ≤ (x32_3 : Int) := of_decide_eq_true (by first | (with_reducible assumption) | assumption)
                                      have q202 : x32_3 < (t199.length : Int) := of_decide_eq_true (by first | (with_reducible assumption) | assumption)
                                      obtain ⟨ad202, e202, hx202_0⟩ := Kd.at_string (Kd.R_reads' HO_30.out).2.2 x32_3 p202 q202
                                      cases e202
                                      replace p202 := eq_true p202
                                      replace q202 := eq_true q202
                                      go_wp2_with (first | ((with_reducible refine gate_callee (f := 31) rfl ?_); refine goesL_ (some 38) rfl rfl Tryd.func31 (by kernel_rfl) rfl #[.string (rdOf ByteArray.empty y192 x13_1), .string (⟨#[45, 111, 110, 108, 121]⟩ : ByteArray)] rfl (by xmp_) ?_; (with_reducible refine (strings_HasSuffix.calls (rdOf ByteArray.empty y192 x13_1) (⟨#[45, 111, 110, 108, 121]⟩ : ByteArray) t203 _ A23.out).mono ?_); rintro e w' ⟨rfl, ⟨nd, rfl⟩⟩; refine ⟨_, rfl, ?_⟩; (try (rw [drewN_self wr]; generalize hq_ : World.drewN wr _ = wr; have n0_ : Aside0 (Kd.R Kd.string 9 wr w.heap.size (fun k_ => some k_ ≠ (.slice (some ad202) t199.length co19 : Value).ownBlock) (.slice (some ad195) y192.length co4) y192) := ⟨by rw [← hq_]; exact (by xRd_; exact HO_11.out)⟩; have n1_ : Aside0 (Kd.R k33 33 wr w.heap.size (fun k_ => some k_ ≠ (.slice (some ad195) y192.length co4 : Value).ownBlock ∧ some k_ ≠ (.slice (some ad202) t199.length co19 : Value).ownBlock) u3 x3_3) := ⟨by rw [← hq_]; exact (by xRd_; exact HO_3.out)⟩; have n2_ : Aside0 (Kd.R Kd.string 9 wr w.heap.size (fun k_ => some k_ ≠ (.slice (some ad195) y192.length co4 : Value).ownBlock) (.slice (some ad202) t199.length co19) t199) := ⟨by rw [← hq_]; exact (by xRd_; exact HO_30.out)⟩; have n3_ : Aside0 (wr.heap[gb197]? = some (.cells #[.string ((rd_T29 l0 x19_2).f0), .string ((rd_T29 l0 x19_2).f1)] 29 (0, 0))) := ⟨by rw [← hq_]; exact (by xbk_; exact BK197.out)⟩; have n4_ : Aside0 (Below w.heap.size w wr) := ⟨by rw [← hq_]; exact (by xhc_ GE197)⟩; clear HO_11 HO_3 HO_30 BK197 HB hq_; have HO_11 := n0_; have HO_3 := n1_; have HO_30 := n2_; have BK197 := n3_; have HB := n4_; clear n0_ n1_ n2_ n3_ n4_))) | ((with_reducible refine gate_callee (f := 14) rfl ?_); refine goesL_ (some 39) rfl rfl Tryd.func14 (by kernel_rfl) rfl #[.string (rdOf ByteArray.empty t199 x32_3), .bool t203] rfl (by xmp_) ?_; (with_reducible refine (policy_Parse.calls k3 (rdOf ByteArray.empty t199 x32_3) t203 t204 t207 _ A24.out).mono ?_); rintro e w27 ⟨v205, rfl, ho0, hb⟩; refine ⟨_, rfl, ?_⟩; have n0_ := Am (Kd.R_elder' (by xRd_; exact HO_3.out) (Kd.S_base ho0) hb); have n1_ := Am (Kd.R_below (by xRd_; exact HO_11.out) hb); have n2_ := Am (Kd.R_below (by xRd_; exact HO_30.out) hb); have n3_ := Am (Kd.S_lower (Kd.S_new' (Kd.S_new' ho0 (Kd.R_lt (by xRd_; exact HO_11.out))) (Kd.R_lt (by xRd_; exact HO_30.out))) (below_size (by xhc_ GE197))); have n4_ := Am (blk_below (g := gb197) (o := .cells #[.string ((rd_T29 l0 x19_2).f0), .string ((rd_T29 l0 x19_2).f1)] 29 (0, 0)) (by xbk_; exact BK197.out) hb); have n5_ := Am (below_step (by xhc_ GE197) hb); clear HO_3; clear HO_11; clear HO_30; clear BK197; clear HB; have HO_3 := n0_; have HO_11 := n1_; have HO_30 := n2_; have HO206 := n3_; have BK197 := n4_; have HB := n5_; clear n0_ n1_ n2_ n3_ n4_ n5_; xcl_) | ((with_reducible refine gate_dst (N := 10) rfl ?_); refine box_event ?hg (N := 10) ?hd (cs := #[.slice none 0 0, .bool false]) (t := 33) ?hr ?_; xdg_; intro gb208 hg w28 hbox hb; have n0_ := Am (Kd.R_below (Kd.R_elderB (by xRd_; exact HO_3.out) gb208 (Nat.le_of_eq hg.symm)) hb); have n1_ := Am (Kd.R_below (by xRd_; exact HO_11.out) hb); have n2_ := Am (Kd.R_below (by xRd_; exact HO_30.out) hb); have n3_ := Am (Kd.S_below (by xSd_; exact HO206.out) hb); have n4_ := Am (blk_below (g := gb197) (o := .cells #[.string ((rd_T29 l0 x19_2).f0), .string ((rd_T29 l0 x19_2).f1)] 29 (0, 0)) (by xbk_; exact BK197.out) hb); have n5_ := Am (below_step (by xhc_ GE197) hb); have n6_ := Am (hbox); have n7_ := Am ((by rw [hg]; exact (below_size (by xhc_ GE197)) : w.heap.size ≤ gb208)); have n8_ := Am ((by rw [hg]; exact (below_size (by xhc_ GE197)) : w.heap.size ≤ gb208)); have n9_ := Am ((by rw [hg]; exact Nat.ne_of_lt (blk_lt (g := gb197) (o := .cells #[.string ((rd_T29 l0 x19_2).f0), .string ((rd_T29 l0 x19_2).f1)] 29 (0, 0)) (by xbk_; exact BK197.out)) : gb197 ≠ gb208)); have n10_ := Am ((by rw [hg]; exact Nat.ne_of_gt (blk_lt (g := gb197) (o := .cells #[.string ((rd_T29 l0 x19_2).f0), .string ((rd_T29 l0 x19_2).f1)] 29 (0, 0)) (by xbk_; exact BK197.out)) : gb208 ≠ gb197)); clear HO_3; clear HO_11; clear HO_30; clear HO206; clear BK197; clear HB; have HO_3 := n0_; have HO_11 := n1_; have HO_30 := n2_; have HO206 := n3_; have BK197 := n4_; have HB := n5_; have BK208 := n6_; have GW208 := n7_; have GE208 := n8_; have NB197_208 := n9_; have NB208_197 := n10_; clear n0_ n1_ n2_ n3_ n4_ n5_ n6_ n7_ n8_ n9_ n10_; clear hb hbox hg; obtain ⟨Ao29, co29, eo29⟩ := Kd.S_slice HO206.out; subst eo29; have hnb30 := NB208_197.out; have hnc30 := NB197_208.out; have hcz31_0 : w28.cell? ⟨gb208, 0, none⟩ = some (.slice none 0 0) := (blk_cell BK208.out 0).trans rfl; have hcz31_1 : w28.cell? ⟨gb208, 1, none⟩ = some (.bool false) := (blk_cell BK208.out 1).trans rfl; have hfz31_0 := blk_frozen BK208.out 0; have hfz31_1 := blk_frozen BK208.out 1) | ((with_reducible refine gate_store (t := 33) (p := 10) rfl ?_); refine store_event (t := 33) (p := 10) (v := ?vo_w32) (w1 := ((w28.setCell ⟨gb208, 0, none⟩ (.slice Ao29 t204.length co29)).setCell ⟨gb208, 1, none⟩ (.bool t207))) ?hg ?ho ?hn ?hr ?_; (case ho => rfl); (case hg => rfl); (case hn => rfl); xhr_; intro w32 hw; have n0_ : Aside0 (Kd.R k33 33 w32 w.heap.size (fun k_ => some k_ ≠ (.slice (some ad195) y192.length co4 : Value).ownBlock ∧ some k_ ≠ (.slice (some ad202) t199.length co19 : Value).ownBlock ∧ some k_ ≠ (.slice Ao29 t204.length co29 : Value).ownBlock ∧ k_ ≠ gb208) u3 x3_3) := ⟨(by rw [hw]; exact (by xRd_; exact Kd.R_mono (Kd.R_far (p := ⟨gb208, 1, none⟩) (Kd.R_far (p := ⟨gb208, 0, none⟩) (Kd.R_mono HO_3.out (fun k_ hk => (⟨hk, hk.2⟩ : _ ∧ k_ ≠ gb208))) (fun _ hk => hk.2) (.slice Ao29 t204.length co29)) (fun _ hk => hk.2) (.bool t207)) (fun _ hk => ⟨hk.1.1.1.1, ⟨hk.1.1.1.2, ⟨hk.1.1.2, hk.1.2⟩⟩⟩)))⟩; have n1_ : Aside0 (Kd.R Kd.string 9 w32 w.heap.size (fun k_ => some k_ ≠ (.slice (some ad202) t199.length co19 : Value).ownBlock) (.slice (some ad195) y192.length co4) y192) := ⟨(by rw [hw]; exact (by xRd_; exact Kd.R_mono (Kd.R_far (p := ⟨gb208, 1, none⟩) (Kd.R_far (p := ⟨gb208, 0, none⟩) (Kd.R_types HO_11.out BK208.out (by decide)) (fun _ hk => hk.2) (.slice Ao29 t204.length co29)) (fun _ hk => hk.2) (.bool t207)) (fun _ hk => hk.1)))⟩; have n2_ : Aside0 (Kd.R Kd.string 9 w32 w.heap.size (fun k_ => some k_ ≠ (.slice (some ad195) y192.length co4 : Value).ownBlock) (.slice (some ad202) t199.length co19) t199) := ⟨(by rw [hw]; exact (by xRd_; exact Kd.R_mono (Kd.R_far (p := ⟨gb208, 1, none⟩) (Kd.R_far (p := ⟨gb208, 0, none⟩) (Kd.R_types HO_30.out BK208.out (by decide)) (fun _ hk => hk.2) (.slice Ao29 t204.length co29)) (fun _ hk => hk.2) (.bool t207)) (fun _ hk => hk.1)))⟩; have n3_ : Aside0 (Kd.S k52 52 w32 w.heap.size (fun k_ => some k_ ≠ (.slice (some ad195) y192.length co4 : Value).ownBlock ∧ some k_ ≠ (.slice (some ad202) t199.length co19 : Value).ownBlock) (.slice Ao29 t204.length co29) t204) := ⟨(by rw [hw]; exact (by xSd_; exact Kd.S_mono (Kd.S_far (p := ⟨gb208, 1, none⟩) (Kd.S_far (p := ⟨gb208, 0, none⟩) (Kd.S_types HO206.out BK208.out (by decide)) (fun _ hk => hk.2) (.slice Ao29 t204.length co29)) (fun _ hk => hk.2) (.bool t207)) (fun _ hk => ⟨hk.1.1.2, hk.1.2⟩)))⟩; have n4_ : Aside0 (w32.heap[gb197]? = some (.cells #[.string ((rd_T29 l0 x19_2).f0), .string ((rd_T29 l0 x19_2).f1)] 29 (0, 0))) := ⟨(by rw [hw]; exact (by xbk_; refine blk_far ?_ NB197_208.out _; xbk_; refine blk_far ?_ NB197_208.out _; xbk_; exact BK197.out))⟩; have n5_ : Aside0 (w32.heap[gb208]? = some (.cells #[.slice Ao29 t204.length co29, .bool t207] 33 (0, 0))) := ⟨(by rw [hw]; exact (by xbk_; refine blk_put (cs := #[.slice Ao29 t204.length co29, .bool false]) ?_ 1 _ rfl; xbk_; refine blk_put (cs := #[.slice none 0 0, .bool false]) ?_ 0 _ rfl; xbk_; exact BK208.out))⟩; have n6_ : Aside0 (Below w.heap.size w w32) := ⟨(by rw [hw]; exact (by xhd_ GE197 GE208))⟩; clear hw; clear HO_3; clear HO_11; clear HO_30; clear HO206; clear BK197; clear BK208; clear HB; have HO_3 := n0_; have HO_11 := n1_; have HO_30 := n2_; have HO206 := n3_; have BK197 := n4_; have BK208 := n5_; have HB := n6_; clear n0_ n1_ n2_ n3_ n4_ n5_ n6_; have hcz33_0 : w32.cell? ⟨gb208, 0, none⟩ = some (.slice Ao29 t204.length co29) := (blk_cell BK208.out 0).trans rfl; have hcz33_1 : w32.cell? ⟨gb208, 1, none⟩ = some (.bool t207) := (blk_cell BK208.out 1).trans rfl; have hfz33_0 := blk_frozen BK208.out 0; have hfz33_1 := blk_frozen BK208.out 1) | ((with_reducible refine gate_builtin (b := .append) (xs := #[.tmp 44, .tmp 46]) rfl ?_); at_builtin; refine Kd.R_append k33 (w0 := w) w.heap.size rfl (.tmp 44) (.tmp 46) 26 33 (.agg #[(.slice none 0 0), (.bool false)]) 32 rfl Tryd.underlying26 info33 rfl (by decide) (by omega) u3 x3_3 (⟨t204, t207⟩ : S33) [.slice Ao29 t204.length co29, .bool t207] (fun k_ => some k_ ≠ (.slice (some ad195) y192.length co4 : Value).ownBlock ∧ some k_ ≠ (.slice (some ad202) t199.length co19 : Value).ownBlock ∧ k_ ≠ gb208) (fun k_ => ((fun k_ => some k_ ≠ (.slice (some ad195) y192.length co4 : Value).ownBlock ∧ some k_ ≠ (.slice (some ad202) t199.length co19 : Value).ownBlock ∧ k_ ≠ gb208)) k_ ∧ some k_ ≠ (u3 : Value).ownBlock) rfl rfl ?aP (fun _ hk => hk) ?aF ?aO ?aB ?aS ?aL ?_; (case aP => exact k33_mkM _ _ _ (⟨t204, t207⟩ : S33) (Kd.R_mono (Kd.R_types (Kd.R_apart' ((Kd.S_R HO206.out)) (Kd.R_typed HO_3.out) (by decide)) BK208.out (by decide)) (fun k_ hk => ⟨⟨hk.1.1.1, ⟨hk.1.1.2, hk.2⟩⟩, hk.1.2⟩))); (case aB => exact (by xhd_ GE197 GE208)); (case aF => exact (fun k_ hk => ⟨Kd.fresh' (Kd.R_lt (by xRd_; exact HO_11.out)) k_ hk, Kd.fresh' (Kd.R_lt (by xRd_; exact HO_30.out)) k_ hk, Kd.freshB (g := gb208) (o := .cells #[.slice Ao29 t204.length co29, .bool t207] 33 (0, 0)) (by xbk_; exact BK208.out) k_ hk⟩)); (case aO => exact (by xRd_; exact Kd.R_mono HO_3.out (fun _ hk => ⟨hk.1, ⟨hk.2.1, hk.2.2.2⟩⟩))); (case aS => exact (below_size (by xhd_ GE197 GE208))); (case aL => have := LMc26.out; omega); intro v210 w34 ho hb hg hat; rw [← Ny209.out] at ho; have n0_ := Am (Kd.R_over' (by xRd_; exact HO_11.out) (Kd.R_typed (by xRd_; exact HO_3.out)) (by decide) hg); have n1_ := Am (Kd.R_over' (by xRd_; exact HO_30.out) (Kd.R_typed (by xRd_; exact HO_3.out)) (by decide) hg); have n2_ := Am (blk_grown (g := gb197) (o := .cells #[.string ((rd_T29 l0 x19_2).f0), .string ((rd_T29 l0 x19_2).f1)] 29 (0, 0)) (by xbk_; exact BK197.out) hg (Kd.R_ne HO_3.out BK197.out (by decide))); have n3_ := Am (blk_grown (g := gb208) (o := .cells #[.slice Ao29 t204.length co29, .bool t207] 33 (0, 0)) (by xbk_; exact BK208.out) hg (Kd.R_away HO_3.out (fun _ hk => hk.2.2.2))); have n4_ := Am (hb); have n5_ := Am (ho); clear HO_11; clear HO_30; clear BK197; clear BK208; clear HB; clear HO_3; clear HO206; have HO_11 := n0_; have HO_30 := n1_; have BK197 := n2_; have BK208 := n3_; have HB := n4_; have HO211 := n5_; clear n0_ n1_ n2_ n3_ n4_ n5_; clear ho hb hg hat))
                                      go_roundg k3
                                      case measure => have := HK1.out; have := HK2.out; have := HK3.out; omega
                                      case rel => exact ⟨(y209), (wrap64 (x32_3 + 1)), (by first | rfl | (simp; done) | (simp [*]; done)), H', ⟨by have := HK1.out; have := HK2.out; have := HK3.out; omega⟩, ⟨by xRd_; exact Kd.R_mono HO211.out (fun _ hk => ⟨hk.1, hk.2.1⟩)⟩, ⟨by xRd_; exact HO_11.out⟩, ⟨by xRd_; exact HO_30.out⟩, ⟨by xbk_; exact BK197.out⟩, ⟨by xhd_ GE197 GE208⟩⟩
                                    · rw [if_neg c26] at H
                                      exact absurd H (by simp)
                                  · rw [if_neg c25] at H
                                    have c25b0 : decide (0 < (t204.length : Int)) = false := decide_eq_false c25
                                    have c25b1 : decide (0 < t204.length) = false := decide_eq_false (by omega)
                                    clear c25
                                    have H' := Aside0.mk H
                                    clear H
                                    have p202 : 0 ≤ (x32_3 : Int) := of_decide_eq_true (by first | (with_reducible assumption) | assumption)
                                    have q202 : x32_3 < (t199.length : Int) := of_decide_eq_true (by first | (with_reducible assumption) | assumption)
                                    obtain ⟨ad202, e202, hx202_0⟩ := Kd.at_string (Kd.R_reads' HO_30.out).2.2 x32_3 p202 q202
                                    cases e202
                                    replace p202 := eq_true p202
                                    replace q202 := eq_true q202
                                    go_wp2_with (first | ((with_reducible refine gate_callee (f := 31) rfl ?_); refine goesL_ (some 38) rfl rfl Tryd.func31 (by kernel_rfl) rfl #[.string (rdOf ByteArray.empty y192 x13_1), .string (⟨#[45, 111, 110, 108, 121]⟩ : ByteArray)] rfl (by xmp_) ?_; (with_reducible refine (strings_HasSuffix.calls (rdOf ByteArray.empty y192 x13_1) (⟨#[45, 111, 110, 108, 121]⟩ : ByteArray) t203 _ A23.out).mono ?_); rintro e w' ⟨rfl, ⟨nd, rfl⟩⟩; refine ⟨_, rfl, ?_⟩; (try (rw [drewN_self wr]; generalize hq_ : World.drewN wr _ = wr; have n0_ : Aside0 (Kd.R Kd.string 9 wr w.heap.size (fun k_ => some k_ ≠ (.slice (some ad202) t199.length co19 : Value).ownBlock) (.slice (some ad195) y192.length co4) y192) := ⟨by rw [← hq_]; exact (by xRd_; exact HO_11.out)⟩; have n1_ : Aside0 (Kd.R k33 33 wr w.heap.size (fun k_ => some k_ ≠ (.slice (some ad195) y192.length co4 : Value).ownBlock ∧ some k_ ≠ (.slice (some ad202) t199.length co19 : Value).ownBlock) u3 x3_3) := ⟨by rw [← hq_]; exact (by xRd_; exact HO_3.out)⟩; have n2_ : Aside0 (Kd.R Kd.string 9 wr w.heap.size (fun k_ => some k_ ≠ (.slice (some ad195) y192.length co4 : Value).ownBlock) (.slice (some ad202) t199.length co19) t199) := ⟨by rw [← hq_]; exact (by xRd_; exact HO_30.out)⟩; have n3_ : Aside0 (wr.heap[gb197]? = some (.cells #[.string ((rd_T29 l0 x19_2).f0), .string ((rd_T29 l0 x19_2).f1)] 29 (0, 0))) := ⟨by rw [← hq_]; exact (by xbk_; exact BK197.out)⟩; have n4_ : Aside0 (Below w.heap.size w wr) := ⟨by rw [← hq_]; exact (by xhc_ GE197)⟩; clear HO_11 HO_3 HO_30 BK197 HB hq_; have HO_11 := n0_; have HO_3 := n1_; have HO_30 := n2_; have BK197 := n3_; have HB := n4_; clear n0_ n1_ n2_ n3_ n4_))) | ((with_reducible refine gate_callee (f := 14) rfl ?_); refine goesL_ (some 39) rfl rfl Tryd.func14 (by kernel_rfl) rfl #[.string (rdOf ByteArray.empty t199 x32_3), .bool t203] rfl (by xmp_) ?_; (with_reducible refine (policy_Parse.calls k3 (rdOf ByteArray.empty t199 x32_3) t203 t204 t207 _ A24.out).mono ?_); rintro e w35 ⟨v205, rfl, ho0, hb⟩; refine ⟨_, rfl, ?_⟩; have n0_ := Am (Kd.R_elder' (by xRd_; exact HO_3.out) (Kd.S_base ho0) hb); have n1_ := Am (Kd.R_below (by xRd_; exact HO_11.out) hb); have n2_ := Am (Kd.R_below (by xRd_; exact HO_30.out) hb); have n3_ := Am (Kd.S_lower (Kd.S_new' (Kd.S_new' ho0 (Kd.R_lt (by xRd_; exact HO_11.out))) (Kd.R_lt (by xRd_; exact HO_30.out))) (below_size (by xhc_ GE197))); have n4_ := Am (blk_below (g := gb197) (o := .cells #[.string ((rd_T29 l0 x19_2).f0), .string ((rd_T29 l0 x19_2).f1)] 29 (0, 0)) (by xbk_; exact BK197.out) hb); have n5_ := Am (below_step (by xhc_ GE197) hb); clear HO_3; clear HO_11; clear HO_30; clear BK197; clear HB; have HO_3 := n0_; have HO_11 := n1_; have HO_30 := n2_; have HO206 := n3_; have BK197 := n4_; have HB := n5_; clear n0_ n1_ n2_ n3_ n4_ n5_; xcl_) | ((with_reducible refine gate_dst (N := 10) rfl ?_); refine box_event ?hg (N := 10) ?hd (cs := #[.slice none 0 0, .bool false]) (t := 33) ?hr ?_; xdg_; intro gb208 hg w36 hbox hb; have n0_ := Am (Kd.R_below (Kd.R_elderB (by xRd_; exact HO_3.out) gb208 (Nat.le_of_eq hg.symm)) hb); have n1_ := Am (Kd.R_below (by xRd_; exact HO_11.out) hb); have n2_ := Am (Kd.R_below (by xRd_; exact HO_30.out) hb); have n3_ := Am (Kd.S_below (by xSd_; exact HO206.out) hb); have n4_ := Am (blk_below (g := gb197) (o := .cells #[.string ((rd_T29 l0 x19_2).f0), .string ((rd_T29 l0 x19_2).f1)] 29 (0, 0)) (by xbk_; exact BK197.out) hb); have n5_ := Am (below_step (by xhc_ GE197) hb); have n6_ := Am (hbox); have n7_ := Am ((by rw [hg]; exact (below_size (by xhc_ GE197)) : w.heap.size ≤ gb208)); have n8_ := Am ((by rw [hg]; exact (below_size (by xhc_ GE197)) : w.heap.size ≤ gb208)); have n9_ := Am ((by rw [hg]; exact Nat.ne_of_lt (blk_lt (g := gb197) (o := .cells #[.string ((rd_T29 l0 x19_2).f0), .string ((rd_T29 l0 x19_2).f1)] 29 (0, 0)) (by xbk_; exact BK197.out)) : gb197 ≠ gb208)); have n10_ := Am ((by rw [hg]; exact Nat.ne_of_gt (blk_lt (g := gb197) (o := .cells #[.string ((rd_T29 l0 x19_2).f0), .string ((rd_T29 l0 x19_2).f1)] 29 (0, 0)) (by xbk_; exact BK197.out)) : gb208 ≠ gb197)); clear HO_3; clear HO_11; clear HO_30; clear HO206; clear BK197; clear HB; have HO_3 := n0_; have HO_11 := n1_; have HO_30 := n2_; have HO206 := n3_; have BK197 := n4_; have HB := n5_; have BK208 := n6_; have GW208 := n7_; have GE208 := n8_; have NB197_208 := n9_; have NB208_197 := n10_; clear n0_ n1_ n2_ n3_ n4_ n5_ n6_ n7_ n8_ n9_ n10_; clear hb hbox hg; obtain ⟨Ao37, co37, eo37⟩ := Kd.S_slice HO206.out; subst eo37; have hnb38 := NB208_197.out; have hnc38 := NB197_208.out; have hcz39_0 : w36.cell? ⟨gb208, 0, none⟩ = some (.slice none 0 0) := (blk_cell BK208.out 0).trans rfl; have hcz39_1 : w36.cell? ⟨gb208, 1, none⟩ = some (.bool false) := (blk_cell BK208.out 1).trans rfl; have hfz39_0 := blk_frozen BK208.out 0; have hfz39_1 := blk_frozen BK208.out 1))
                                    go_roundg k3
                                    case measure => have := HK1.out; have := HK2.out; have := HK3.out; omega
                                    case rel => exact ⟨(x3_3), (wrap64 (x32_3 + 1)), (by first | rfl | (simp; done) | (simp [*]; done)), H', ⟨by have := HK1.out; have := HK2.out; have := HK3.out; omega⟩, ⟨by xRd_; exact Kd.R_mono (Kd.R_far (p := ⟨gb208, 1, none⟩) (Kd.R_far (p := ⟨gb208, 0, none⟩) (Kd.R_mono HO_3.out (fun k_ hk => (⟨hk, hk.2⟩ : _ ∧ k_ ≠ gb208))) (fun _ hk => hk.2) (.slice Ao37 t204.length co37)) (fun _ hk => hk.2) (.bool t207)) (fun _ hk => ⟨hk.1.1.1.1, hk.1.1.1.2⟩)⟩, ⟨by xRd_; exact Kd.R_mono (Kd.R_far (p := ⟨gb208, 1, none⟩) (Kd.R_far (p := ⟨gb208, 0, none⟩) (Kd.R_types HO_11.out BK208.out (by decide)) (fun _ hk => hk.2) (.slice Ao37 t204.length co37)) (fun _ hk => hk.2) (.bool t207)) (fun _ hk => hk.1)⟩, ⟨by xRd_; exact Kd.R_mono (Kd.R_far (p := ⟨gb208, 1, none⟩) (Kd.R_far (p := ⟨gb208, 0, none⟩) (Kd.R_types HO_30.out BK208.out (by decide)) (fun _ hk => hk.2) (.slice Ao37 t204.length co37)) (fun _ hk => hk.2) (.bool t207)) (fun _ hk => hk.1)⟩, ⟨by xbk_; refine blk_far ?_ NB197_208.out _; xbk_; refine blk_far ?_ NB197_208.out _; xbk_; exact BK197.out⟩, ⟨by xhd_ GE197 GE208⟩⟩
                                · rw [if_neg c22] at H
                                  exact absurd H (by simp)
                              · rw [if_neg c21] at H
                                exact absurd H (by simp)
                            · rw [if_neg c20] at H
                              have c20b0 : decide (x32_3 < (t199.length : Int)) = false := decide_eq_false c20
                              clear c20
                              have H' := Aside0.mk H
                              clear H
                              go_wp2
                              go_roundg k3
                              case measure => have := HK1.out; have := HK2.out; have := HK3.out; omega
                              case rel => exact ⟨(x3_3), (wrap64 (x19_2 + 1)), (by first | rfl | (simp; done) | (simp [*]; done)), H', ⟨by have := HK1.out; have := HK2.out; have := HK3.out; omega⟩, ⟨by xRd_; exact Kd.R_mono HO_3.out (fun _ hk => hk.1)⟩, ⟨by xRd_; exact Kd.R_mono HO_11.out (fun _ hk => trivial)⟩, ⟨by xhc_ GE197⟩⟩
                      · rw [if_neg c12] at H
                        have c12b0 : (t198.toList == (rdOf ByteArray.empty y192 x13_1).toList) = false := beq_eq_false_iff_ne.mpr c12
                        have c12b1 : (t198.toList != (rdOf ByteArray.empty y192 x13_1).toList) = true := bne_iff_ne.mpr c12
                        have H' := Aside0.mk H
                        clear H
                        have p196 : 0 ≤ (x19_2 : Int) := of_decide_eq_true (by first | (with_reducible assumption) | assumption)
                        have q196 : x19_2 < (l0.length : Int) := of_decide_eq_true (by first | (with_reducible assumption) | assumption)
                        obtain ⟨ad196, e196, hx196_0, hx196_1⟩ := at_T29 HR0.out x19_2 p196 q196
                        cases e196
                        replace hx196_0 := (HB.out.cell (World.block_lt_of_cell? w _ hx196_0)).trans hx196_0
                        replace hx196_1 := (HB.out.cell (World.block_lt_of_cell? w _ hx196_1)).trans hx196_1
                        replace p196 := eq_true p196
                        replace q196 := eq_true q196
                        go_wp2_with (first | ((with_reducible refine gate_dst (N := 7) rfl ?_); refine box_event ?hg (N := 7) ?hd (cs := #[.string (⟨#[]⟩ : ByteArray), .string (⟨#[]⟩ : ByteArray)]) (t := 29) ?hr ?_; xdg_; intro gb197 hg w40 hbox hb; have n0_ := Am (Kd.R_below (by xRd_; exact HO_3.out) hb); have n1_ := Am (Kd.R_below (by xRd_; exact HO_11.out) hb); have n2_ := Am (below_step (by xhb_) hb); have n3_ := Am (hbox); have n4_ := Am ((by rw [hg]; exact (below_size (by xhb_)) : w.heap.size ≤ gb197)); have n5_ := Am ((by rw [hg]; exact (below_size (by xhb_)) : w.heap.size ≤ gb197)); clear HO_3; clear HO_11; clear HB; have HO_3 := n0_; have HO_11 := n1_; have HB := n2_; have BK197 := n3_; have GW197 := n4_; have GE197 := n5_; clear n0_ n1_ n2_ n3_ n4_ n5_; clear hb hbox hg; have hcz41_0 : w40.cell? ⟨gb197, 0, none⟩ = some (.string (⟨#[]⟩ : ByteArray)) := (blk_cell BK197.out 0).trans rfl; have hcz41_1 : w40.cell? ⟨gb197, 1, none⟩ = some (.string (⟨#[]⟩ : ByteArray)) := (blk_cell BK197.out 1).trans rfl; have hfz41_0 := blk_frozen BK197.out 0; have hfz41_1 := blk_frozen BK197.out 1) | ((with_reducible refine gate_callee (f := 29) rfl ?_); refine goesL_ (some 25) rfl rfl Tryd.func29 (by kernel_rfl) rfl #[.string ((rd_T29 l0 x19_2).f0)] rfl (by xmp_) ?_; (with_reducible refine (infra_Lower.calls ((rd_T29 l0 x19_2).f0) t198 _ A11.out).mono ?_); rintro e w42 ⟨rfl, hb⟩; refine ⟨_, rfl, ?_⟩; have n0_ := Am (Kd.R_below (by xRd_; exact (Kd.R_mono (Kd.R_far (p := ⟨gb197, 1, none⟩) (Kd.R_far (p := ⟨gb197, 0, none⟩) (Kd.R_types HO_3.out BK197.out (by decide)) (fun _ hk => hk.2) (.string ((rd_T29 l0 x19_2).f0))) (fun _ hk => hk.2) (.string ((rd_T29 l0 x19_2).f1))) (fun _ h_ => h_.1))) hb); have n1_ := Am (Kd.R_below (by xRd_; exact (Kd.R_mono (Kd.R_far (p := ⟨gb197, 1, none⟩) (Kd.R_far (p := ⟨gb197, 0, none⟩) (Kd.R_types HO_11.out BK197.out (by decide)) (fun _ hk => hk.2) (.string ((rd_T29 l0 x19_2).f0))) (fun _ hk => hk.2) (.string ((rd_T29 l0 x19_2).f1))) (fun _ h_ => h_.1))) hb); have n2_ := Am (blk_below (g := gb197) (o := .cells #[.string ((rd_T29 l0 x19_2).f0), .string ((rd_T29 l0 x19_2).f1)] 29 (0, 0)) (by xbk_; refine blk_put (cs := #[.string ((rd_T29 l0 x19_2).f0), .string (⟨#[]⟩ : ByteArray)]) ?_ 1 _ rfl; xbk_; refine blk_put (cs := #[.string (⟨#[]⟩ : ByteArray), .string (⟨#[]⟩ : ByteArray)]) ?_ 0 _ rfl; xbk_; exact BK197.out) hb); have n3_ := Am (below_step (by xhc_ GE197) hb); clear HO_3; clear HO_11; clear BK197; clear HB; have HO_3 := n0_; have HO_11 := n1_; have BK197 := n2_; have HB := n3_; clear n0_ n1_ n2_ n3_; (try clear hb); (try clear hb2); (try clear hk); (try clear hi)))
                        go_roundg k2
                        case measure => have := HK1.out; have := HK2.out; omega
                        case rel => exact ⟨(x3_2), (wrap64 (x19_2 + 1)), (by first | rfl | (simp; done) | (simp [*]; done)), H', ⟨by have := HK1.out; have := HK2.out; omega⟩, ⟨by xRd_; exact HO_3.out⟩, ⟨by xRd_; exact HO_11.out⟩, ⟨by xhc_ GE197⟩⟩
                    · rw [if_neg c10] at H
                      exact absurd H (by simp)
                  · rw [if_neg c9] at H
                    exact absurd H (by simp)
                · rw [if_neg c8] at H
                  have c8b0 : decide (x19_2 < (l0.length : Int)) = false := decide_eq_false c8
                  clear c8
                  have H' := Aside0.mk H
                  clear H
                  go_wp2
                  go_roundg k2
                  case measure => have := HK1.out; have := HK2.out; omega
                  case rel => exact ⟨(x3_2), (wrap64 (x13_1 + 1)), (by first | rfl | (simp; done) | (simp [*]; done)), H', ⟨by have := HK1.out; have := HK2.out; omega⟩, ⟨by xRd_; exact HO_3.out⟩, ⟨by xRd_; exact HO_11.out⟩, ⟨by xhb_⟩⟩
          · rw [if_neg c7] at H
            exact absurd H (by simp)
        · rw [if_neg c6] at H
          exact absurd H (by simp)
      · rw [if_neg c5] at H
        have c5b0 : decide (x13_1 < (y192.length : Int)) = false := decide_eq_false c5
        clear c5
        obtain rfl := Option.some.inj H
        go_wp2
        go_ret
        exact ⟨_, by xfr_, by xRd_; exact Kd.R_mono HO_3.out (fun _ hk => trivial), by xhb_⟩

-- NOT PRINTED: function 68 (abi_NoEscape)

-- NOT PRINTED: function 58 (strings_Builder_copyCheck)

-- NOT PRINTED: function 69 (bytealg_MakeNoZero)

-- NOT PRINTED: function 59 (strings_Builder_grow)

-- NOT PRINTED: function 50 (strings_Builder_Grow)

-- NOT PRINTED: function 51 (strings_Builder_WriteString)

-- NOT PRINTED: function 52 (strings_Builder_String)

/-! ### policy_Text: function 15 -/
def policy_Text.l0 : Nat → List ByteArray → List (S52) → Int → Int → Option (ByteArray)
  | 0, _, _, _, _ => none
  | k + 1, x3, x7, x8, x9 => if x9 < x8 then (if 0 ≤ x9 then (if x9 < (x7.length : Int) then ((some (([(rd_T52 x7 x9).f0] : List ByteArray) : List ByteArray)).bind fun y218 => (if y218.length + ((rd_T52 x7 x9).f1).length < 8796093022208 then ((strings_Join.f (y218 ++ ((rd_T52 x7 x9).f1)) (⟨#[32]⟩ : ByteArray)).bind fun t224 => (if x3.length < 8796093022208 then (policy_Text.l0 k (x3 ++ [t224]) x7 x8 (wrap64 (x9 + 1))) else (none))) else (none))) else (none)) else (none)) else ((strings_Join.f x3 (⟨#[59, 32]⟩ : ByteArray)).bind fun t228 => (some t228))
def policy_Text.f (k : Nat) (l0_0 : List (S52)) (a0_1 : Bool) : Option (ByteArray) := policy_Text.l0 k ([] : List ByteArray) l0_0 (l0_0.length : Int) 0
theorem policy_Text.mono_l : ∀ k, (∀ y0 y1 y2 y3, LeO (policy_Text.l0 k y0 y1 y2 y3) (policy_Text.l0 (k + 1) y0 y1 y2 y3))
  | 0 => fun _ _ _ _ r h => by simp [policy_Text.l0] at h
  | k + 1 => by
    have ih0 := policy_Text.mono_l k
    · intro y0 y1 y2 y3
      unfold policy_Text.l0
      repeat' first
      | (with_reducible exact ih0 _ _ _ _)
      | (with_reducible exact LeO.refl _)
      | (with_reducible exact LeO.none _)
      | (with_reducible refine LeO.ite ?_ ?_)
      | (with_reducible refine LeO.bind ?_ (fun _ => ?_))
      | exact ih0 _ _ _ _
      | exact LeO.none _
      | refine LeO.ite ?_ ?_
      | refine LeO.bind ?_ (fun _ => ?_)
theorem policy_Text.mono : ∀ a0 a1 k, LeO (policy_Text.f k a0 a1) (policy_Text.f (k + 1) a0 a1) := by
  intro a0 a1 k
  have ih0 := policy_Text.mono_l k
  unfold policy_Text.f
  repeat' first
      | (with_reducible exact ih0 _ _ _ _)
      | (with_reducible exact LeO.refl _)
      | (with_reducible exact LeO.none _)
      | (with_reducible refine LeO.ite ?_ ?_)
      | (with_reducible refine LeO.bind ?_ (fun _ => ?_))
      | exact ih0 _ _ _ _
      | exact LeO.none _
      | refine LeO.ite ?_ ?_
      | refine LeO.bind ?_ (fun _ => ?_)
set_option maxHeartbeats 8000000 in
set_option maxRecDepth 100000 in
theorem policy_Text.calls (k : Nat) (A0_0 : Option Addr) (c0_0 : Nat) (l0_0 : List (S52)) (a0_1 : Bool) (r : ByteArray) (w : World) (hr0_0 : Kd.C k52 w A0_0 l0_0.length l0_0) (hc0_0 : l0_0.length ≤ c0_0) (h : policy_Text.f k l0_0 a0_1 = some r) :
    Calls Tryd.prog 15 #[.agg #[.slice A0_0 l0_0.length c0_0, .bool a0_1]] w fun e w' => e = .returned (.string r) ∧ Below w.heap.size w w' := by
  have hu33 := Tryd.underlying33
  have hu52 := Tryd.underlying52
  have HR0_0 := Aside0.mk hr0_0
  have HC0_0 := Aside0.mk hc0_0
  clear hr0_0 hc0_0
  have HB := Am (Below.refl w.heap.size w)
  have H : (policy_Text.l0 k ([] : List ByteArray) l0_0 (l0_0.length : Int) 0) = some r := h
  clear h
  have H' := Aside0.mk H
  clear H
  go_enter Tryd.func15, Tryd.ntmps15
  go_wp2_with (first | ((with_reducible refine gate_dst (N := 1) rfl ?_); refine box_event ?hg (N := 1) ?hd (cs := #[.slice A0_0 l0_0.length c0_0, .bool a0_1]) (t := 33) ?hr ?_; xdg_; intro gb215 hg w2 hbox hb; have n0_ := Am (below_step (by xhb_) hb); have n1_ := Am (hbox); have n2_ := Am ((by rw [hg]; exact (below_size (by xhb_)) : w.heap.size ≤ gb215)); have n3_ := Am ((by rw [hg]; exact (below_size (by xhb_)) : w.heap.size ≤ gb215)); clear HB; have HB := n0_; have BK215 := n1_; have GW215 := n2_; have GE215 := n3_; clear n0_ n1_ n2_ n3_; clear hb hbox hg; have hcz3_0 : w2.cell? ⟨gb215, 0, none⟩ = some (.slice A0_0 l0_0.length c0_0) := (blk_cell BK215.out 0).trans rfl; have hcz3_1 : w2.cell? ⟨gb215, 1, none⟩ = some (.bool a0_1) := (blk_cell BK215.out 1).trans rfl; have hfz3_0 := blk_frozen BK215.out 0; have hfz3_1 := blk_frozen BK215.out 1))
  go_loopg [3, 9] k (fun kq v3 v9 w' => ∃ (x3_1 : List ByteArray) (x9_1 : Int), v9 = .int .i64 x9_1 ∧ Aside0 (policy_Text.l0 kq x3_1 l0_0 (l0_0.length : Int) x9_1 = some r) ∧ Aside0 (kq ≤ k) ∧ Aside0 (Kd.R Kd.string 9 w' w.heap.size (fun _ => True) v3 x3_1) ∧ Aside0 (w'.heap[gb215]? = some (.cells #[(.slice A0_0 l0_0.length c0_0), .bool a0_1] 33 (0, 0))) ∧ Aside0 (Below w.heap.size w w'))
  case atStart => exact ⟨(([] : List ByteArray)), (0), (by first | rfl | (simp; done) | (simp [*]; done)), H', ⟨Nat.le_refl _⟩, ⟨by first | exact Kd.R_nil _ _ _ _ _ | exact Kd.N_nil _ _ _ _ _ | exact Kd.V_nil _ _ _ _ _ | exact Kd.Q_nil _ _ _ _ _ | exact Kd.S_nil _ _ _ _ _⟩, ⟨by xbk_; exact BK215.out⟩, ⟨by xhc_ GE215⟩⟩
  case round =>
    clear H'
    try clear c1
    try clear p2
    try clear hcz3_0
    try clear hcz3_1
    try clear hfz3_0
    try clear hfz3_1
    obtain ⟨x3_1, x9_1, rfl, HA, HK1, HO_3, BK215, HB⟩ := hrel
    cases gk with
    | zero => exact absurd HA.out (by simp [policy_Text.l0])
    | succ k1 =>
      have H := HA.out
      clear HA
      simp only [policy_Text.l0] at H
      by_cases c4 : x9_1 < (l0_0.length : Int)
      · rw [if_pos c4] at H
        have c4b0 : decide (x9_1 < (l0_0.length : Int)) = true := decide_eq_true c4
        clear c4
        by_cases c5 : 0 ≤ x9_1
        · rw [if_pos c5] at H
          have c5b0 : decide (0 ≤ x9_1) = true := decide_eq_true c5
          clear c5
          by_cases c6 : x9_1 < (l0_0.length : Int)
          · rw [if_pos c6] at H
            have c6b0 : decide (x9_1 < (l0_0.length : Int)) = true := decide_eq_true c6
            clear c6
            obtain ⟨y218, hy218⟩ : ∃ y_ : List ByteArray, y_ = (([(rd_T52 l0_0 x9_1).f0] : List ByteArray)) := ⟨_, rfl⟩
            replace H : (if y218.length + ((rd_T52 l0_0 x9_1).f1).length < 8796093022208 then ((strings_Join.f (y218 ++ ((rd_T52 l0_0 x9_1).f1)) (⟨#[32]⟩ : ByteArray)).bind fun t224 => (if x3_1.length < 8796093022208 then (policy_Text.l0 k1 (x3_1 ++ [t224]) l0_0 (l0_0.length : Int) (wrap64 (x9_1 + 1))) else (none))) else (none)) = some r := by first | (rw [hy218]; with_reducible exact H) | (have H2_ := (Option.bind_some _ _).symm.trans H; rw [hy218]; with_reducible exact H2_) | (have H2_ := (Option.bind_some _ _).symm.trans H; with_reducible exact H2_) | with_reducible exact H | (rw [hy218]; exact H) | exact H
            have Ny218 := Aside0.mk hy218
            clear hy218
            by_cases c7 : y218.length + ((rd_T52 l0_0 x9_1).f1).length < 8796093022208
            · rw [if_pos c7] at H
              have LMc7 := Aside0.mk c7
              clear c7
              obtain ⟨y221, hy221⟩ : ∃ y_ : List ByteArray, y_ = (y218 ++ ((rd_T52 l0_0 x9_1).f1)) := ⟨_, rfl⟩
              replace H : ((strings_Join.f y221 (⟨#[32]⟩ : ByteArray)).bind fun t224 => (if x3_1.length < 8796093022208 then (policy_Text.l0 k1 (x3_1 ++ [t224]) l0_0 (l0_0.length : Int) (wrap64 (x9_1 + 1))) else (none))) = some r := by first | (rw [hy221]; with_reducible exact H) | (have H2_ := (Option.bind_some _ _).symm.trans H; rw [hy221]; with_reducible exact H2_) | (have H2_ := (Option.bind_some _ _).symm.trans H; with_reducible exact H2_) | with_reducible exact H | (rw [hy221]; exact H) | exact H
              have Ny221 := Aside0.mk hy221
              clear hy221
              replace H := Option.bind_eq_some_iff.mp H
              obtain ⟨t224, A80, H⟩ := H
              replace H : (if x3_1.length < 8796093022208 then (policy_Text.l0 k1 (x3_1 ++ [t224]) l0_0 (l0_0.length : Int) (wrap64 (x9_1 + 1))) else (none)) = some r := H
              have A8 := Aside0.mk A80
              clear A80
              by_cases c9 : x3_1.length < 8796093022208
              · rw [if_pos c9] at H
                have LMc9 := Aside0.mk c9
                clear c9
                obtain ⟨y225, hy225⟩ : ∃ y_ : List ByteArray, y_ = (x3_1 ++ [t224]) := ⟨_, rfl⟩
                replace H : (policy_Text.l0 k1 y225 l0_0 (l0_0.length : Int) (wrap64 (x9_1 + 1))) = some r := by first | (rw [hy225]; with_reducible exact H) | (have H2_ := (Option.bind_some _ _).symm.trans H; rw [hy225]; with_reducible exact H2_) | (have H2_ := (Option.bind_some _ _).symm.trans H; with_reducible exact H2_) | with_reducible exact H | (rw [hy225]; exact H) | exact H
                have Ny225 := Aside0.mk hy225
                clear hy225
                have H' := Aside0.mk H
                clear H
                have p216 : 0 ≤ (x9_1 : Int) := of_decide_eq_true (by first | (with_reducible assumption) | assumption)
                have q216 : x9_1 < (l0_0.length : Int) := of_decide_eq_true (by first | (with_reducible assumption) | assumption)
                obtain ⟨ad216, A216_1, c216_1, e216, hx216_0, hx216_1, hl216_1, hi216_1⟩ := at_T52 HR0_0.out x9_1 p216 q216
                cases e216
                replace hx216_0 := (HB.out.cell (World.block_lt_of_cell? w _ hx216_0)).trans hx216_0
                replace hx216_1 := (HB.out.cell (World.block_lt_of_cell? w _ hx216_1)).trans hx216_1
                have HR216_1 := Aside0.mk hi216_1
                have HC216_1 := Aside0.mk hl216_1
                clear hi216_1 hl216_1
                replace p216 := eq_true p216
                replace q216 := eq_true q216
                go_wp2_with (first | ((with_reducible refine gate_dst (N := 5) rfl ?_); refine box_event ?hg (N := 5) ?hd (cs := #[.string (⟨#[]⟩ : ByteArray), .slice none 0 0]) (t := 52) ?hr ?_; xdg_; intro gb217 hg w10 hbox hb; have n0_ := Am (Kd.R_below (by xRd_; exact HO_3.out) hb); have n1_ := Am (blk_below (g := gb215) (o := .cells #[.slice (some ad216) l0_0.length c0_0, .bool a0_1] 33 (0, 0)) (by xbk_; exact BK215.out) hb); have n2_ := Am (below_step (by xhc_ GE215) hb); have n3_ := Am (hbox); have n4_ := Am ((by rw [hg]; exact (below_size (by xhc_ GE215)) : w.heap.size ≤ gb217)); have n5_ := Am ((by rw [hg]; exact (below_size (by xhc_ GE215)) : w.heap.size ≤ gb217)); have n6_ := Am ((by rw [hg]; exact Nat.ne_of_lt (blk_lt (g := gb215) (o := .cells #[.slice (some ad216) l0_0.length c0_0, .bool a0_1] 33 (0, 0)) (by xbk_; exact BK215.out)) : gb215 ≠ gb217)); have n7_ := Am ((by rw [hg]; exact Nat.ne_of_gt (blk_lt (g := gb215) (o := .cells #[.slice (some ad216) l0_0.length c0_0, .bool a0_1] 33 (0, 0)) (by xbk_; exact BK215.out)) : gb217 ≠ gb215)); clear HO_3; clear BK215; clear HB; have HO_3 := n0_; have BK215 := n1_; have HB := n2_; have BK217 := n3_; have GW217 := n4_; have GE217 := n5_; have NB215_217 := n6_; have NB217_215 := n7_; clear n0_ n1_ n2_ n3_ n4_ n5_ n6_ n7_; clear hb hbox hg; have hnb11 := NB217_215.out; have hnc11 := NB215_217.out; have hcz12_0 : w10.cell? ⟨gb217, 0, none⟩ = some (.string (⟨#[]⟩ : ByteArray)) := (blk_cell BK217.out 0).trans rfl; have hcz12_1 : w10.cell? ⟨gb217, 1, none⟩ = some (.slice none 0 0) := (blk_cell BK217.out 1).trans rfl; have hfz12_0 := blk_frozen BK217.out 0; have hfz12_1 := blk_frozen BK217.out 1) | ((with_reducible refine gate_dst (N := 16) rfl ?_); refine Kd.R_lit Kd.string _ 9 ?hg (N := 16) ?hd (xs := ([(rd_T52 l0_0 x9_1).f0] : List ByteArray)) (inner := [.string ((rd_T52 l0_0 x9_1).f0)]) (ok := fun _ => True) (okp := fun _ => True) ?hr ?hp (fun _ hk => hk) trivial (Below.refl _ _) (Nat.le_refl _) (by simp) ?_; xdg_; (case hp => exact (Reps.one (show Kd.M Kd.string _ _ _ ((rd_T52 l0_0 x9_1).f0) [.string ((rd_T52 l0_0 x9_1).f0)] from rfl) (Reps.none _ _))); intro v219 w13 ho14 hb hg_ hnew_; clear hg_ hnew_; (first | rw [← Ny218.out] at ho14 | (simp only [Int.reduceToNat] at ho14; rw [← Ny218.out] at ho14)); have n0_ := Am (Kd.R_elder' (by xRd_; exact (Kd.R_mono (Kd.R_far (p := ⟨gb217, 1, none⟩) (Kd.R_far (p := ⟨gb217, 0, none⟩) (Kd.R_types HO_3.out BK217.out (by decide)) (fun _ hk => hk.2) (.string ((rd_T52 l0_0 x9_1).f0))) (fun _ hk => hk.2) (.slice A216_1 ((rd_T52 l0_0 x9_1).f1).length c216_1)) (fun _ h_ => h_.1))) (Kd.R_base ho14) hb); have n1_ := Am (Kd.R_lower (Kd.R_new' ho14 (Kd.R_lt (by xRd_; exact (Kd.R_mono (Kd.R_far (p := ⟨gb217, 1, none⟩) (Kd.R_far (p := ⟨gb217, 0, none⟩) (Kd.R_types HO_3.out BK217.out (by decide)) (fun _ hk => hk.2) (.string ((rd_T52 l0_0 x9_1).f0))) (fun _ hk => hk.2) (.slice A216_1 ((rd_T52 l0_0 x9_1).f1).length c216_1)) (fun _ h_ => h_.1))))) (below_size (by xhd_ GE215 GE217))); have n2_ := Am (blk_below (g := gb215) (o := .cells #[.slice (some ad216) l0_0.length c0_0, .bool a0_1] 33 (0, 0)) (by xbk_; refine blk_far ?_ NB215_217.out _; xbk_; refine blk_far ?_ NB215_217.out _; xbk_; exact BK215.out) hb); have n3_ := Am (blk_below (g := gb217) (o := .cells #[.string ((rd_T52 l0_0 x9_1).f0), .slice A216_1 ((rd_T52 l0_0 x9_1).f1).length c216_1] 52 (0, 0)) (by xbk_; refine blk_put (cs := #[.string ((rd_T52 l0_0 x9_1).f0), .slice none 0 0]) ?_ 1 _ rfl; xbk_; refine blk_put (cs := #[.string (⟨#[]⟩ : ByteArray), .slice none 0 0]) ?_ 0 _ rfl; xbk_; exact BK217.out) hb); have n4_ := Am (below_step (by xhd_ GE215 GE217) hb); clear HO_3; clear BK215; clear BK217; clear HB; have HO_3 := n0_; have HO220 := n1_; have BK215 := n2_; have BK217 := n3_; have HB := n4_; clear n0_ n1_ n2_ n3_ n4_; clear hb ho14; have hcz15_0 : w13.cell? ⟨gb217, 0, none⟩ = some (.string ((rd_T52 l0_0 x9_1).f0)) := (blk_cell BK217.out 0).trans rfl; have hcz15_1 : w13.cell? ⟨gb217, 1, none⟩ = some (.slice A216_1 ((rd_T52 l0_0 x9_1).f1).length c216_1) := (blk_cell BK217.out 1).trans rfl; have hfz15_0 := blk_frozen BK217.out 0; have hfz15_1 := blk_frozen BK217.out 1) | ((with_reducible refine gate_builtin (b := .append) (xs := #[.tmp 16, .tmp 18]) rfl ?_); at_builtin; refine Kd.R_append_rows Kd.string (w0 := w) w.heap.size rfl (.tmp 16) (.tmp 18) 22 9 (.string ⟨#[]⟩) 16 rfl Tryd.underlying22 info9 rfl (by decide) (by omega) v219 y218 ((rd_T52 l0_0 x9_1).f1) _ _ _ (fun k_ => some k_ ≠ (u3 : Value).ownBlock) (fun _ => False) rfl rfl ?aO ?aR (fun _ _ h => h) (fun _ h => h.elim) ?aF ?aB ?aS ?aL ?_; (case aR => repeat (first | exact (Kd.C_below HR216_1.out HB.out) | xcd_)); (case aB => exact (by xhd_ GE215 GE217)); (case aF => exact (fun k_ hk => Kd.fresh' (Kd.R_lt (by xRd_; exact HO_3.out)) k_ hk)); (case aO => exact (by xRd_; exact Kd.R_mono HO220.out (fun _ hk => hk.2))); (case aS => exact (below_size (by xhd_ GE215 GE217))); (case aL => have := LMc7.out; omega); intro v222 w16 ho hb hg hat; rw [← Ny221.out] at ho; have n0_ := Am (Kd.R_after (ok := (fun _ => True)) (by xRd_; exact HO_3.out) hg hat); have n1_ := Am (blk_grown (g := gb215) (o := .cells #[.slice (some ad216) l0_0.length c0_0, .bool a0_1] 33 (0, 0)) (by xbk_; exact BK215.out) hg (Kd.R_ne HO220.out BK215.out (by decide))); have n2_ := Am (blk_grown (g := gb217) (o := .cells #[.string ((rd_T52 l0_0 x9_1).f0), .slice A216_1 ((rd_T52 l0_0 x9_1).f1).length c216_1] 52 (0, 0)) (by xbk_; exact BK217.out) hg (Kd.R_ne HO220.out BK217.out (by decide))); have n3_ := Am (hb); have n4_ := Am (ho); clear HO_3; clear BK215; clear BK217; clear HB; clear HO220; have HO_3 := n0_; have BK215 := n1_; have BK217 := n2_; have HB := n3_; have HO223 := n4_; clear n0_ n1_ n2_ n3_ n4_; clear ho hb hg hat; obtain ⟨Ao17, co17, eo17⟩ := Kd.R_slice HO223.out; subst eo17) | ((with_reducible refine gate_callee (f := 35) rfl ?_); refine goesL_ (some 20) rfl rfl Tryd.func35 (by kernel_rfl) rfl #[.slice Ao17 y221.length co17, .string (⟨#[32]⟩ : ByteArray)] rfl (by xmp_) ?_; (with_reducible refine (strings_Join.calls _ _ y221 (⟨#[32]⟩ : ByteArray) t224 _ ?side1 ?side2 A8.out).mono ?_); (case side1 => repeat (first | exact (Kd.R_reads' HO223.out).2.2 | xcd_)); (case side2 => exact (Kd.R_reads' HO223.out).2.1); rintro e w18 ⟨rfl, hb⟩; refine ⟨_, rfl, ?_⟩; have n0_ := Am (Kd.R_below (by xRd_; exact HO_3.out) hb); have n1_ := Am (Kd.R_below (by xRd_; exact HO223.out) hb); have n2_ := Am (blk_below (g := gb215) (o := .cells #[.slice (some ad216) l0_0.length c0_0, .bool a0_1] 33 (0, 0)) (by xbk_; exact BK215.out) hb); have n3_ := Am (blk_below (g := gb217) (o := .cells #[.string ((rd_T52 l0_0 x9_1).f0), .slice A216_1 ((rd_T52 l0_0 x9_1).f1).length c216_1] 52 (0, 0)) (by xbk_; exact BK217.out) hb); have n4_ := Am (below_step (by xhd_ GE215 GE217) hb); clear HO_3; clear HO223; clear BK215; clear BK217; clear HB; have HO_3 := n0_; have HO223 := n1_; have BK215 := n2_; have BK217 := n3_; have HB := n4_; clear n0_ n1_ n2_ n3_ n4_; (try clear hb); (try clear hb2); (try clear hk); (try clear hi)) | ((with_reducible refine gate_builtin (b := .append) (xs := #[.tmp 13, .tmp 21]) rfl ?_); at_builtin; refine Kd.R_append Kd.string (w0 := w) w.heap.size rfl (.tmp 13) (.tmp 21) 22 9 (.string ⟨#[]⟩) 16 rfl Tryd.underlying22 info9 rfl (by decide) (by omega) u3 x3_1 t224 [.string t224] (fun k_ => some k_ ≠ (.slice Ao17 y221.length co17 : Value).ownBlock) (fun _ => False) rfl rfl ?aP (fun _ hk => hk.elim) ?aF ?aO ?aB ?aS ?aL ?_; (case aP => exact rfl); (case aB => exact (by xhd_ GE215 GE217)); (case aF => exact (fun k_ hk => Kd.fresh' (Kd.R_lt (by xRd_; exact HO223.out)) k_ hk)); (case aO => exact (by xRd_; exact Kd.R_mono HO_3.out (fun _ hk => hk.2))); (case aS => exact (below_size (by xhd_ GE215 GE217))); (case aL => have := LMc9.out; omega); intro v226 w19 ho hb hg hat; rw [← Ny225.out] at ho; have n0_ := Am (blk_grown (g := gb215) (o := .cells #[.slice (some ad216) l0_0.length c0_0, .bool a0_1] 33 (0, 0)) (by xbk_; exact BK215.out) hg (Kd.R_ne HO_3.out BK215.out (by decide))); have n1_ := Am (blk_grown (g := gb217) (o := .cells #[.string ((rd_T52 l0_0 x9_1).f0), .slice A216_1 ((rd_T52 l0_0 x9_1).f1).length c216_1] 52 (0, 0)) (by xbk_; exact BK217.out) hg (Kd.R_ne HO_3.out BK217.out (by decide))); have n2_ := Am (Kd.R_after (ok := (fun _ => True)) (by xRd_; exact Kd.R_mono HO223.out (fun _ hk => ⟨trivial, hk⟩)) hg hat); have n3_ := Am (hb); have n4_ := Am (ho); clear BK215; clear BK217; clear HO223; clear HB; clear HO_3; have BK215 := n0_; have BK217 := n1_; have HO223 := n2_; have HB := n3_; have HO227 := n4_; clear n0_ n1_ n2_ n3_ n4_; clear ho hb hg hat))
                go_roundg k1
                case measure => have := HK1.out; omega
                case rel => exact ⟨(y225), (wrap64 (x9_1 + 1)), (by first | rfl | (simp; done) | (simp [*]; done)), H', ⟨by have := HK1.out; omega⟩, ⟨by xRd_; exact Kd.R_mono HO227.out (fun _ hk => trivial)⟩, ⟨by xbk_; exact BK215.out⟩, ⟨by xhd_ GE215 GE217⟩⟩
              · rw [if_neg c9] at H
                exact absurd H (by simp)
            · rw [if_neg c7] at H
              exact absurd H (by simp)
          · rw [if_neg c6] at H
            exact absurd H (by simp)
        · rw [if_neg c5] at H
          exact absurd H (by simp)
      · rw [if_neg c4] at H
        have c4b0 : decide (x9_1 < (l0_0.length : Int)) = false := decide_eq_false c4
        clear c4
        replace H := Option.bind_eq_some_iff.mp H
        obtain ⟨t228, A200, H⟩ := H
        replace H : (some t228) = some r := H
        have A20 := Aside0.mk A200
        clear A200
        obtain rfl := Option.some.inj H
        obtain ⟨Ao21, co21, eo21⟩ := Kd.R_slice HO_3.out
        subst eo21
        go_wp2_with (first | ((with_reducible refine gate_callee (f := 35) rfl ?_); refine goesL_ (some 25) rfl rfl Tryd.func35 (by kernel_rfl) rfl #[.slice Ao21 x3_1.length co21, .string (⟨#[59, 32]⟩ : ByteArray)] rfl (by xmp_) ?_; (with_reducible refine (strings_Join.calls _ _ x3_1 (⟨#[59, 32]⟩ : ByteArray) t228 _ ?side1 ?side2 A20.out).mono ?_); (case side1 => repeat (first | exact (Kd.R_reads' HO_3.out).2.2 | xcd_)); (case side2 => exact (Kd.R_reads' HO_3.out).2.1); rintro e w22 ⟨rfl, hb⟩; refine ⟨_, rfl, ?_⟩; have n0_ := Am (Kd.R_below (by xRd_; exact HO_3.out) hb); have n1_ := Am (blk_below (g := gb215) (o := .cells #[.slice A0_0 l0_0.length c0_0, .bool a0_1] 33 (0, 0)) (by xbk_; exact BK215.out) hb); have n2_ := Am (below_step (by xhc_ GE215) hb); clear HO_3; clear BK215; clear HB; have HO_3 := n0_; have BK215 := n1_; have HB := n2_; clear n0_ n1_ n2_; (try clear hb); (try clear hb2); (try clear hk); (try clear hi)))
        go_ret
        exact ⟨by xfr_, by xhc_ GE215⟩

/-! ### policy_Values: function 22 -/
def policy_Values.l0 : Nat → List ByteArray → Int → Int → List (S52) → Bool → Option (List ByteArray × ByteArray × Bool)
  | 0, _, _, _, _, _ => none
  | k + 1, x12, x13, x14, x230000, x230001 => if x14 < x13 then (if 0 ≤ x14 then (if x14 < (x12.length : Int) then ((policy_Policy_rule.f x230000 x230001 (rdOf ByteArray.empty x12 x14)).bind fun bt234 => (if bt234.2.2 = true then ((slices_Clone_string_string.f bt234.2.1).bind fun t240 => (some (t240, rdOf ByteArray.empty x12 x14, true))) else (policy_Values.l0 k x12 x13 (wrap64 (x14 + 1)) x230000 x230001))) else (none)) else (none)) else (some (([] : List ByteArray), (⟨#[]⟩ : ByteArray), false))
def policy_Values.f (k : Nat) (l0_0 : List (S52)) (a0_1 : Bool) (a1 : ByteArray) : Option (List ByteArray × ByteArray × Bool) := (policy_Chain.f k a1).bind fun t230 => (policy_Values.l0 k t230 (t230.length : Int) 0 l0_0 a0_1)
theorem policy_Values.mono_l : ∀ k, (∀ y0 y1 y2 y3 y4, LeO (policy_Values.l0 k y0 y1 y2 y3 y4) (policy_Values.l0 (k + 1) y0 y1 y2 y3 y4))
  | 0 => fun _ _ _ _ _ r h => by simp [policy_Values.l0] at h
  | k + 1 => by
    have ih0 := policy_Values.mono_l k
    · intro y0 y1 y2 y3 y4
      unfold policy_Values.l0
      repeat' first
      | (with_reducible exact ih0 _ _ _ _ _)
      | (with_reducible exact policy_Chain.mono _ _)
      | (with_reducible exact LeO.refl _)
      | (with_reducible exact LeO.none _)
      | (with_reducible refine LeO.ite ?_ ?_)
      | (with_reducible refine LeO.bind ?_ (fun _ => ?_))
      | exact ih0 _ _ _ _ _
      | exact policy_Chain.mono _ _
      | exact LeO.none _
      | refine LeO.ite ?_ ?_
      | refine LeO.bind ?_ (fun _ => ?_)
theorem policy_Values.mono : ∀ a0 a1 a2 k, LeO (policy_Values.f k a0 a1 a2) (policy_Values.f (k + 1) a0 a1 a2) := by
  intro a0 a1 a2 k
  have ih0 := policy_Values.mono_l k
  unfold policy_Values.f
  repeat' first
      | (with_reducible exact ih0 _ _ _ _ _)
      | (with_reducible exact policy_Chain.mono _ _)
      | (with_reducible exact LeO.refl _)
      | (with_reducible exact LeO.none _)
      | (with_reducible refine LeO.ite ?_ ?_)
      | (with_reducible refine LeO.bind ?_ (fun _ => ?_))
      | exact ih0 _ _ _ _ _
      | exact policy_Chain.mono _ _
      | exact LeO.none _
      | refine LeO.ite ?_ ?_
      | refine LeO.bind ?_ (fun _ => ?_)
set_option maxHeartbeats 8000000 in
set_option maxRecDepth 100000 in
theorem policy_Values.calls (k : Nat) (A0_0 : Option Addr) (c0_0 : Nat) (l0_0 : List (S52)) (a0_1 : Bool) (a1 : ByteArray) (r1 : List ByteArray) (r2 : ByteArray) (r3 : Bool) (w : World) (hr0_0 : Kd.C k52 w A0_0 l0_0.length l0_0) (hc0_0 : l0_0.length ≤ c0_0) (h : policy_Values.f k l0_0 a0_1 a1 = some (r1, r2, r3)) :
    Calls Tryd.prog 22 #[.agg #[.slice A0_0 l0_0.length c0_0, .bool a0_1], .string a1] w fun e w' => ∃ v0_ : Value, e = .returned (.tuple #[v0_, .string r2, .bool r3]) ∧ Kd.R Kd.string 9 w' w.heap.size (fun _ => True) v0_ r1 ∧ Below w.heap.size w w' := by
  have hu33 := Tryd.underlying33
  have hu52 := Tryd.underlying52
  have HR0_0 := Aside0.mk hr0_0
  have HC0_0 := Aside0.mk hc0_0
  clear hr0_0 hc0_0
  have HB := Am (Below.refl w.heap.size w)
  have H : ((policy_Chain.f k a1).bind fun t230 => (policy_Values.l0 k t230 (t230.length : Int) 0 l0_0 a0_1)) = some (r1, r2, r3) := h
  clear h
  replace H := Option.bind_eq_some_iff.mp H
  obtain ⟨t230, A30, H⟩ := H
  replace H : (policy_Values.l0 k t230 (t230.length : Int) 0 l0_0 a0_1) = some (r1, r2, r3) := H
  have A3 := Aside0.mk A30
  clear A30
  have H' := Aside0.mk H
  clear H
  go_enter Tryd.func22, Tryd.ntmps22
  go_wp2_with (first | ((with_reducible refine gate_dst (N := 2) rfl ?_); refine box_event ?hg (N := 2) ?hd (cs := #[.slice A0_0 l0_0.length c0_0, .bool a0_1]) (t := 33) ?hr ?_; xdg_; intro gb229 hg w4 hbox hb; have n0_ := Am (below_step (by xhb_) hb); have n1_ := Am (hbox); have n2_ := Am ((by rw [hg]; exact (below_size (by xhb_)) : w.heap.size ≤ gb229)); have n3_ := Am ((by rw [hg]; exact (below_size (by xhb_)) : w.heap.size ≤ gb229)); clear HB; have HB := n0_; have BK229 := n1_; have GW229 := n2_; have GE229 := n3_; clear n0_ n1_ n2_ n3_; clear hb hbox hg) | ((with_reducible refine gate_callee (f := 9) rfl ?_); refine goesL_ (some 12) rfl rfl Tryd.func9 (by kernel_rfl) rfl #[.string a1] rfl (by xmp_) ?_; (with_reducible refine (policy_Chain.calls k a1 t230 _ A3.out).mono ?_); rintro e w5 ⟨v231, rfl, ho0, hb⟩; refine ⟨_, rfl, ?_⟩; have n0_ := Am (Kd.R_lower ho0 (below_size (by xhc_ GE229))); have n1_ := Am (blk_below (g := gb229) (o := .cells #[.slice A0_0 l0_0.length c0_0, .bool a0_1] 33 (0, 0)) (by xbk_; exact BK229.out) hb); have n2_ := Am (below_step (by xhc_ GE229) hb); clear BK229; clear HB; have HO232 := n0_; have BK229 := n1_; have HB := n2_; clear n0_ n1_ n2_; xcl_; obtain ⟨Ao6, co6, eo6⟩ := Kd.R_slice HO232.out; subst eo6))
  go_loopg [14] k (fun kq v14 w' => ∃ (x14_1 : Int), v14 = .int .i64 x14_1 ∧ Aside0 (policy_Values.l0 kq t230 (t230.length : Int) x14_1 l0_0 a0_1 = some (r1, r2, r3)) ∧ Aside0 (kq ≤ k) ∧ Aside0 (Kd.R Kd.string 9 w' w.heap.size (fun _ => True) (.slice Ao6 t230.length co6) t230) ∧ Aside0 (w'.heap[gb229]? = some (.cells #[(.slice A0_0 l0_0.length c0_0), .bool a0_1] 33 (0, 0))) ∧ Aside0 (Below w.heap.size w w'))
  case atStart => exact ⟨(0), (by first | rfl | (simp; done) | (simp [*]; done)), H', ⟨Nat.le_refl _⟩, ⟨by xRd_; exact HO232.out⟩, ⟨by xbk_; exact BK229.out⟩, ⟨by xhc_ GE229⟩⟩
  case round =>
    clear H'
    try clear c2
    try clear p2
    obtain ⟨x14_1, rfl, HA, HK1, HO_12, BK229, HB⟩ := hrel
    cases gk with
    | zero => exact absurd HA.out (by simp [policy_Values.l0])
    | succ k1 =>
      have H := HA.out
      clear HA
      simp only [policy_Values.l0] at H
      by_cases c7 : x14_1 < (t230.length : Int)
      · rw [if_pos c7] at H
        have c7b0 : decide (x14_1 < (t230.length : Int)) = true := decide_eq_true c7
        clear c7
        by_cases c8 : 0 ≤ x14_1
        · rw [if_pos c8] at H
          have c8b0 : decide (0 ≤ x14_1) = true := decide_eq_true c8
          clear c8
          by_cases c9 : x14_1 < (t230.length : Int)
          · rw [if_pos c9] at H
            have c9b0 : decide (x14_1 < (t230.length : Int)) = true := decide_eq_true c9
            clear c9
            replace H := Option.bind_eq_some_iff.mp H
            obtain ⟨⟨t234, t235, t238⟩, A100, H⟩ := H
            replace H : (if t238 = true then ((slices_Clone_string_string.f t235).bind fun t240 => (some (t240, rdOf ByteArray.empty t230 x14_1, true))) else (policy_Values.l0 k1 t230 (t230.length : Int) (wrap64 (x14_1 + 1)) l0_0 a0_1)) = some (r1, r2, r3) := H
            have A10 := Aside0.mk A100
            clear A100
            by_cases c11 : t238 = true
            · subst c11
              have H1 : ((slices_Clone_string_string.f t235).bind fun t240 => (some (t240, rdOf ByteArray.empty t230 x14_1, true))) = some (r1, r2, r3) := by rw [if_pos rfl] at H; exact H
              clear H
              have H := H1
              clear H1
              replace H := Option.bind_eq_some_iff.mp H
              obtain ⟨t240, A120, H⟩ := H
              replace H : (some (t240, rdOf ByteArray.empty t230 x14_1, true)) = some (r1, r2, r3) := H
              have A12 := Aside0.mk A120
              clear A120
              simp only [Option.some.injEq, Prod.mk.injEq] at H
              obtain ⟨rfl, rfl, rfl⟩ := H
              have p233 : 0 ≤ (x14_1 : Int) := of_decide_eq_true (by first | (with_reducible assumption) | assumption)
              have q233 : x14_1 < (t230.length : Int) := of_decide_eq_true (by first | (with_reducible assumption) | assumption)
              obtain ⟨ad233, e233, hx233_0⟩ := Kd.at_string (Kd.R_reads' HO_12.out).2.2 x14_1 p233 q233
              cases e233
              replace p233 := eq_true p233
              replace q233 := eq_true q233
              have hcz13_0 : wr.cell? ⟨gb229, 0, none⟩ = some (.slice A0_0 l0_0.length c0_0) := (blk_cell BK229.out 0).trans rfl
              have hcz13_1 : wr.cell? ⟨gb229, 1, none⟩ = some (.bool a0_1) := (blk_cell BK229.out 1).trans rfl
              have hfz13_0 := blk_frozen BK229.out 0
              have hfz13_1 := blk_frozen BK229.out 1
              go_wp2_with (first | ((with_reducible refine gate_callee (f := 33) rfl ?_); refine goesL_ (some 21) rfl rfl Tryd.func33 (by kernel_rfl) rfl #[.agg #[.slice A0_0 l0_0.length c0_0, .bool a0_1], .string (rdOf ByteArray.empty t230 x14_1)] rfl (by xmp_) ?_; (with_reducible refine (policy_Policy_rule.calls (fun k_ => k_ < w.heap.size) _ _ l0_0 a0_1 (rdOf ByteArray.empty t230 x14_1) t234 t235 true _ ?side1 A10.out).mono ?_); (case side1 => exact Kd.V_mk HC0_0.out (Kd.F_below (Kd.C_F k52_heap HR0_0.out) (by xhc_ GE229))); rintro e w14 ⟨v236, rfl, ho0, hb⟩; refine ⟨_, rfl, ?_⟩; have n0_ := Am (Kd.R_below (by xRd_; exact HO_12.out) hb); have n1_ := Am (Kd.V_lower (Kd.V_mono (ok' := fun k_ => some k_ ≠ (.slice (some ad233) t230.length co6 : Value).ownBlock ∧ k_ ≠ gb229) ho0 (fun k_ hk_ => ⟨Or.elim hk_ (fun hs_ => fun e_ => Nat.not_le.2 hs_ (Kd.R_base HO_12.out k_ e_.symm)) (fun hn_ => (Kd.fresh' (Kd.R_lt (by xRd_; exact HO_12.out)) k_ hn_)), Or.elim hk_ (fun hs_ => fun e_ => Nat.not_le.2 hs_ (by rw [e_]; exact GW229.out)) (fun hn_ => (Kd.freshB (g := gb229) (o := .cells #[.slice A0_0 l0_0.length c0_0, .bool a0_1] 33 (0, 0)) (by xbk_; exact BK229.out) k_ hn_))⟩)) (below_size (by xhc_ GE229))); have n2_ := Am (blk_below (g := gb229) (o := .cells #[.slice A0_0 l0_0.length c0_0, .bool a0_1] 33 (0, 0)) (by xbk_; exact BK229.out) hb); have n3_ := Am (below_step (by xhc_ GE229) hb); clear HO_12; clear BK229; clear HB; have HO_12 := n0_; have HO237 := n1_; have BK229 := n2_; have HB := n3_; clear n0_ n1_ n2_ n3_; xcl_) | ((with_reducible refine gate_dst (N := 9) rfl ?_); refine box_event ?hg (N := 9) ?hd (cs := #[.string (⟨#[]⟩ : ByteArray), .slice none 0 0]) (t := 52) ?hr ?_; xdg_; intro gb239 hg w15 hbox hb; have n0_ := Am (Kd.R_below (by xRd_; exact HO_12.out) hb); have n1_ := Am (Kd.V_below (Kd.V_elderB (by xVd_; exact HO237.out) gb239 (Nat.le_of_eq hg.symm)) hb); have n2_ := Am (blk_below (g := gb229) (o := .cells #[.slice A0_0 l0_0.length c0_0, .bool a0_1] 33 (0, 0)) (by xbk_; exact BK229.out) hb); have n3_ := Am (below_step (by xhc_ GE229) hb); have n4_ := Am (hbox); have n5_ := Am ((by rw [hg]; exact (below_size (by xhc_ GE229)) : w.heap.size ≤ gb239)); have n6_ := Am ((by rw [hg]; exact (below_size (by xhc_ GE229)) : w.heap.size ≤ gb239)); have n7_ := Am ((by rw [hg]; exact Nat.ne_of_lt (blk_lt (g := gb229) (o := .cells #[.slice A0_0 l0_0.length c0_0, .bool a0_1] 33 (0, 0)) (by xbk_; exact BK229.out)) : gb229 ≠ gb239)); have n8_ := Am ((by rw [hg]; exact Nat.ne_of_gt (blk_lt (g := gb229) (o := .cells #[.slice A0_0 l0_0.length c0_0, .bool a0_1] 33 (0, 0)) (by xbk_; exact BK229.out)) : gb239 ≠ gb229)); clear HO_12; clear HO237; clear BK229; clear HB; have HO_12 := n0_; have HO237 := n1_; have BK229 := n2_; have HB := n3_; have BK239 := n4_; have GW239 := n5_; have GE239 := n6_; have NB229_239 := n7_; have NB239_229 := n8_; clear n0_ n1_ n2_ n3_ n4_ n5_ n6_ n7_ n8_; clear hb hbox hg; have hnb16 := NB239_229.out; have hnc16 := NB229_239.out; have hcz17_0 : w15.cell? ⟨gb239, 0, none⟩ = some (.string (⟨#[]⟩ : ByteArray)) := (blk_cell BK239.out 0).trans rfl; have hcz17_1 : w15.cell? ⟨gb239, 1, none⟩ = some (.slice none 0 0) := (blk_cell BK239.out 1).trans rfl; have hfz17_0 := blk_frozen BK239.out 0; have hfz17_1 := blk_frozen BK239.out 1; obtain ⟨Ao18, co18, eo18⟩ := Kd.V_slice HO237.out; subst eo18) | ((with_reducible refine gate_callee (f := 34) rfl ?_); refine goesL_ (some 27) rfl rfl Tryd.func34 (by kernel_rfl) rfl #[.slice Ao18 t235.length co18] rfl (by xmp_) ?_; (with_reducible refine (slices_Clone_string_string.calls _ _ t235 t240 _ ?side1 ?side2 A12.out).mono ?_); (case side1 => refine (Kd.V_reads' (e := 9) (base := w.heap.size) (ok := fun k_ => ((some k_ ≠ (.slice (some ad233) t230.length co6 : Value).ownBlock ∧ k_ ≠ gb229) ∧ k_ ≠ gb239)) (n := t235.length) (c := co18) ?_).2.2; exact (by xVd_; exact (Kd.V_mono (Kd.V_far (p := ⟨gb239, 1, none⟩) (Kd.V_far (p := ⟨gb239, 0, none⟩) (Kd.V_mono HO237.out (fun k_ hk => (⟨hk, hk.2⟩ : _ ∧ k_ ≠ gb239))) (fun _ hk => hk.2) (.string t234)) (fun _ hk => hk.2) (.slice Ao18 t235.length co18)) (fun _ h_ => h_.1)))); (case side2 => exact (Kd.V_reads' HO237.out).2.1); rintro e w19 ⟨v241, rfl, ho0, hb⟩; refine ⟨_, rfl, ?_⟩; have n0_ := Am (Kd.R_elder' (by xRd_; exact (Kd.R_mono (Kd.R_far (p := ⟨gb239, 1, none⟩) (Kd.R_far (p := ⟨gb239, 0, none⟩) (Kd.R_types HO_12.out BK239.out (by decide)) (fun _ hk => hk.2) (.string t234)) (fun _ hk => hk.2) (.slice Ao18 t235.length co18)) (fun _ h_ => h_.1))) (Kd.R_base ho0) hb); have n1_ := Am (Kd.V_elder' (by xVd_; exact (Kd.V_mono (Kd.V_far (p := ⟨gb239, 1, none⟩) (Kd.V_far (p := ⟨gb239, 0, none⟩) (Kd.V_mono HO237.out (fun k_ hk => (⟨hk, hk.2⟩ : _ ∧ k_ ≠ gb239))) (fun _ hk => hk.2) (.string t234)) (fun _ hk => hk.2) (.slice Ao18 t235.length co18)) (fun _ h_ => h_.1))) (Kd.R_base ho0) hb); have n2_ := Am (Kd.R_lower (Kd.R_new' ho0 (Kd.R_lt (by xRd_; exact (Kd.R_mono (Kd.R_far (p := ⟨gb239, 1, none⟩) (Kd.R_far (p := ⟨gb239, 0, none⟩) (Kd.R_types HO_12.out BK239.out (by decide)) (fun _ hk => hk.2) (.string t234)) (fun _ hk => hk.2) (.slice Ao18 t235.length co18)) (fun _ h_ => h_.1))))) (below_size (by xhd_ GE229 GE239))); have n3_ := Am (blk_below (g := gb229) (o := .cells #[.slice A0_0 l0_0.length c0_0, .bool a0_1] 33 (0, 0)) (by xbk_; refine blk_far ?_ NB229_239.out _; xbk_; refine blk_far ?_ NB229_239.out _; xbk_; exact BK229.out) hb); have n4_ := Am (blk_below (g := gb239) (o := .cells #[.string t234, .slice Ao18 t235.length co18] 52 (0, 0)) (by xbk_; refine blk_put (cs := #[.string t234, .slice none 0 0]) ?_ 1 _ rfl; xbk_; refine blk_put (cs := #[.string (⟨#[]⟩ : ByteArray), .slice none 0 0]) ?_ 0 _ rfl; xbk_; exact BK239.out) hb); have n5_ := Am (below_step (by xhd_ GE229 GE239) hb); clear HO_12; clear HO237; clear BK229; clear BK239; clear HB; have HO_12 := n0_; have HO237 := n1_; have HO242 := n2_; have BK229 := n3_; have BK239 := n4_; have HB := n5_; clear n0_ n1_ n2_ n3_ n4_ n5_; xcl_))
              go_ret3
              exact ⟨_, by xfr_, by xRd_; exact Kd.R_mono HO242.out (fun _ hk => trivial), by xhd_ GE229 GE239⟩
            · replace c11 := Bool.eq_false_iff.mpr c11
              subst c11
              have H1 : (policy_Values.l0 k1 t230 (t230.length : Int) (wrap64 (x14_1 + 1)) l0_0 a0_1) = some (r1, r2, r3) := by rw [if_neg (show ¬ (false = true) by decide)] at H; exact H
              clear H
              have H := H1
              clear H1
              have H' := Aside0.mk H
              clear H
              have p233 : 0 ≤ (x14_1 : Int) := of_decide_eq_true (by first | (with_reducible assumption) | assumption)
              have q233 : x14_1 < (t230.length : Int) := of_decide_eq_true (by first | (with_reducible assumption) | assumption)
              obtain ⟨ad233, e233, hx233_0⟩ := Kd.at_string (Kd.R_reads' HO_12.out).2.2 x14_1 p233 q233
              cases e233
              replace p233 := eq_true p233
              replace q233 := eq_true q233
              have hcz20_0 : wr.cell? ⟨gb229, 0, none⟩ = some (.slice A0_0 l0_0.length c0_0) := (blk_cell BK229.out 0).trans rfl
              have hcz20_1 : wr.cell? ⟨gb229, 1, none⟩ = some (.bool a0_1) := (blk_cell BK229.out 1).trans rfl
              have hfz20_0 := blk_frozen BK229.out 0
              have hfz20_1 := blk_frozen BK229.out 1
              go_wp2_with (first | ((with_reducible refine gate_callee (f := 33) rfl ?_); refine goesL_ (some 21) rfl rfl Tryd.func33 (by kernel_rfl) rfl #[.agg #[.slice A0_0 l0_0.length c0_0, .bool a0_1], .string (rdOf ByteArray.empty t230 x14_1)] rfl (by xmp_) ?_; (with_reducible refine (policy_Policy_rule.calls (fun k_ => k_ < w.heap.size) _ _ l0_0 a0_1 (rdOf ByteArray.empty t230 x14_1) t234 t235 false _ ?side1 A10.out).mono ?_); (case side1 => exact Kd.V_mk HC0_0.out (Kd.F_below (Kd.C_F k52_heap HR0_0.out) (by xhc_ GE229))); rintro e w21 ⟨v236, rfl, ho0, hb⟩; refine ⟨_, rfl, ?_⟩; have n0_ := Am (Kd.R_below (by xRd_; exact HO_12.out) hb); have n1_ := Am (Kd.V_lower (Kd.V_mono (ok' := fun k_ => some k_ ≠ (.slice (some ad233) t230.length co6 : Value).ownBlock ∧ k_ ≠ gb229) ho0 (fun k_ hk_ => ⟨Or.elim hk_ (fun hs_ => fun e_ => Nat.not_le.2 hs_ (Kd.R_base HO_12.out k_ e_.symm)) (fun hn_ => (Kd.fresh' (Kd.R_lt (by xRd_; exact HO_12.out)) k_ hn_)), Or.elim hk_ (fun hs_ => fun e_ => Nat.not_le.2 hs_ (by rw [e_]; exact GW229.out)) (fun hn_ => (Kd.freshB (g := gb229) (o := .cells #[.slice A0_0 l0_0.length c0_0, .bool a0_1] 33 (0, 0)) (by xbk_; exact BK229.out) k_ hn_))⟩)) (below_size (by xhc_ GE229))); have n2_ := Am (blk_below (g := gb229) (o := .cells #[.slice A0_0 l0_0.length c0_0, .bool a0_1] 33 (0, 0)) (by xbk_; exact BK229.out) hb); have n3_ := Am (below_step (by xhc_ GE229) hb); clear HO_12; clear BK229; clear HB; have HO_12 := n0_; have HO237 := n1_; have BK229 := n2_; have HB := n3_; clear n0_ n1_ n2_ n3_; xcl_) | ((with_reducible refine gate_dst (N := 9) rfl ?_); refine box_event ?hg (N := 9) ?hd (cs := #[.string (⟨#[]⟩ : ByteArray), .slice none 0 0]) (t := 52) ?hr ?_; xdg_; intro gb239 hg w22 hbox hb; have n0_ := Am (Kd.R_below (by xRd_; exact HO_12.out) hb); have n1_ := Am (Kd.V_below (Kd.V_elderB (by xVd_; exact HO237.out) gb239 (Nat.le_of_eq hg.symm)) hb); have n2_ := Am (blk_below (g := gb229) (o := .cells #[.slice A0_0 l0_0.length c0_0, .bool a0_1] 33 (0, 0)) (by xbk_; exact BK229.out) hb); have n3_ := Am (below_step (by xhc_ GE229) hb); have n4_ := Am (hbox); have n5_ := Am ((by rw [hg]; exact (below_size (by xhc_ GE229)) : w.heap.size ≤ gb239)); have n6_ := Am ((by rw [hg]; exact (below_size (by xhc_ GE229)) : w.heap.size ≤ gb239)); have n7_ := Am ((by rw [hg]; exact Nat.ne_of_lt (blk_lt (g := gb229) (o := .cells #[.slice A0_0 l0_0.length c0_0, .bool a0_1] 33 (0, 0)) (by xbk_; exact BK229.out)) : gb229 ≠ gb239)); have n8_ := Am ((by rw [hg]; exact Nat.ne_of_gt (blk_lt (g := gb229) (o := .cells #[.slice A0_0 l0_0.length c0_0, .bool a0_1] 33 (0, 0)) (by xbk_; exact BK229.out)) : gb239 ≠ gb229)); clear HO_12; clear HO237; clear BK229; clear HB; have HO_12 := n0_; have HO237 := n1_; have BK229 := n2_; have HB := n3_; have BK239 := n4_; have GW239 := n5_; have GE239 := n6_; have NB229_239 := n7_; have NB239_229 := n8_; clear n0_ n1_ n2_ n3_ n4_ n5_ n6_ n7_ n8_; clear hb hbox hg; have hnb23 := NB239_229.out; have hnc23 := NB229_239.out; have hcz24_0 : w22.cell? ⟨gb239, 0, none⟩ = some (.string (⟨#[]⟩ : ByteArray)) := (blk_cell BK239.out 0).trans rfl; have hcz24_1 : w22.cell? ⟨gb239, 1, none⟩ = some (.slice none 0 0) := (blk_cell BK239.out 1).trans rfl; have hfz24_0 := blk_frozen BK239.out 0; have hfz24_1 := blk_frozen BK239.out 1; obtain ⟨Ao25, co25, eo25⟩ := Kd.V_slice HO237.out; subst eo25))
              go_roundg k1
              case measure => have := HK1.out; omega
              case rel => exact ⟨(wrap64 (x14_1 + 1)), (by first | rfl | (simp; done) | (simp [*]; done)), H', ⟨by have := HK1.out; omega⟩, ⟨by xRd_; exact Kd.R_mono (Kd.R_far (p := ⟨gb239, 1, none⟩) (Kd.R_far (p := ⟨gb239, 0, none⟩) (Kd.R_types HO_12.out BK239.out (by decide)) (fun _ hk => hk.2) (.string t234)) (fun _ hk => hk.2) (.slice Ao25 t235.length co25)) (fun _ hk => trivial)⟩, ⟨by xbk_; refine blk_far ?_ NB229_239.out _; xbk_; refine blk_far ?_ NB229_239.out _; xbk_; exact BK229.out⟩, ⟨by xhd_ GE229 GE239⟩⟩
          · rw [if_neg c9] at H
            exact absurd H (by simp)
        · rw [if_neg c8] at H
          exact absurd H (by simp)
      · rw [if_neg c7] at H
        have c7b0 : decide (x14_1 < (t230.length : Int)) = false := decide_eq_false c7
        clear c7
        simp only [Option.some.injEq, Prod.mk.injEq] at H
        obtain ⟨rfl, rfl, rfl⟩ := H
        go_wp2
        go_ret3
        exact ⟨_, by xfr_, by first | exact Kd.R_nil _ _ _ _ _ | exact Kd.N_nil _ _ _ _ _ | exact Kd.V_nil _ _ _ _ _ | exact Kd.Q_nil _ _ _ _ _ | exact Kd.S_nil _ _ _ _ _, by xhc_ GE229⟩

/-! ### ostiarylaw10_known: function 16 -/
def ostiarylaw10_known.f (k : Nat)  : Option (Bool) := (policy_Parse.f k (⟨#[73, 109, 103, 45, 83, 114, 99, 32, 97, 32, 32, 98, 59, 32, 59, 105, 109, 103, 45, 115, 114, 99, 32, 99, 59, 120]⟩ : ByteArray) false).bind fun bt243 => ((policy_Parse.f k (⟨#[100, 101, 102, 97, 117, 108, 116, 45, 115, 114, 99, 32, 97]⟩ : ByteArray) false).bind fun bt248 => ((policy_Values.f k bt248.1 bt248.2 (⟨#[115, 99, 114, 105, 112, 116, 45, 115, 114, 99, 45, 101, 108, 101, 109]⟩ : ByteArray)).bind fun bt252 => ((policy_Text.f k bt243.1 bt243.2).bind fun t257 => (if t257.toList = ([105, 109, 103, 45, 115, 114, 99, 32, 97, 32, 98, 59, 32, 120] : List UInt8) then (if bt252.2.2 = true then (if bt252.2.1.toList = ([100, 101, 102, 97, 117, 108, 116, 45, 115, 114, 99] : List UInt8) then ((ostiarybook_Same_string.f k bt252.1 (([(⟨#[97]⟩ : ByteArray)] : List ByteArray))).bind fun t261 => (some t261)) else (some false)) else (some false)) else (some false)))))
theorem ostiarylaw10_known.mono : ∀ k, LeO (ostiarylaw10_known.f k ) (ostiarylaw10_known.f (k + 1) ) := by
  intro  k
  unfold ostiarylaw10_known.f
  repeat' first
      | (with_reducible exact ostiarybook_Same_string.mono _ _ _)
      | (with_reducible exact policy_Parse.mono _ _ _)
      | (with_reducible exact policy_Text.mono _ _ _)
      | (with_reducible exact policy_Values.mono _ _ _ _)
      | (with_reducible exact LeO.refl _)
      | (with_reducible exact LeO.none _)
      | (with_reducible refine LeO.ite ?_ ?_)
      | (with_reducible refine LeO.bind ?_ (fun _ => ?_))
      | exact ostiarybook_Same_string.mono _ _ _
      | exact policy_Parse.mono _ _ _
      | exact policy_Text.mono _ _ _
      | exact policy_Values.mono _ _ _ _
      | exact LeO.none _
      | refine LeO.ite ?_ ?_
      | refine LeO.bind ?_ (fun _ => ?_)
set_option maxHeartbeats 8000000 in
set_option maxRecDepth 100000 in
theorem ostiarylaw10_known.calls (k : Nat)  (r : Bool) (w : World) (h : ostiarylaw10_known.f k  = some r) :
    Calls Tryd.prog 16 #[] w fun e w' => e = .returned (.bool r) ∧ Below w.heap.size w w' := by
  have hu33 := Tryd.underlying33
  have HB := Am (Below.refl w.heap.size w)
  have H : ((policy_Parse.f k (⟨#[73, 109, 103, 45, 83, 114, 99, 32, 97, 32, 32, 98, 59, 32, 59, 105, 109, 103, 45, 115, 114, 99, 32, 99, 59, 120]⟩ : ByteArray) false).bind fun bt243 => ((policy_Parse.f k (⟨#[100, 101, 102, 97, 117, 108, 116, 45, 115, 114, 99, 32, 97]⟩ : ByteArray) false).bind fun bt248 => ((policy_Values.f k bt248.1 bt248.2 (⟨#[115, 99, 114, 105, 112, 116, 45, 115, 114, 99, 45, 101, 108, 101, 109]⟩ : ByteArray)).bind fun bt252 => ((policy_Text.f k bt243.1 bt243.2).bind fun t257 => (if t257.toList = ([105, 109, 103, 45, 115, 114, 99, 32, 97, 32, 98, 59, 32, 120] : List UInt8) then (if bt252.2.2 = true then (if bt252.2.1.toList = ([100, 101, 102, 97, 117, 108, 116, 45, 115, 114, 99] : List UInt8) then ((ostiarybook_Same_string.f k bt252.1 (([(⟨#[97]⟩ : ByteArray)] : List ByteArray))).bind fun t261 => (some t261)) else (some false)) else (some false)) else (some false)))))) = some r := h
  clear h
  replace H := Option.bind_eq_some_iff.mp H
  obtain ⟨⟨t243, t246⟩, A10, H⟩ := H
  replace H : ((policy_Parse.f k (⟨#[100, 101, 102, 97, 117, 108, 116, 45, 115, 114, 99, 32, 97]⟩ : ByteArray) false).bind fun bt248 => ((policy_Values.f k bt248.1 bt248.2 (⟨#[115, 99, 114, 105, 112, 116, 45, 115, 114, 99, 45, 101, 108, 101, 109]⟩ : ByteArray)).bind fun bt252 => ((policy_Text.f k t243 t246).bind fun t257 => (if t257.toList = ([105, 109, 103, 45, 115, 114, 99, 32, 97, 32, 98, 59, 32, 120] : List UInt8) then (if bt252.2.2 = true then (if bt252.2.1.toList = ([100, 101, 102, 97, 117, 108, 116, 45, 115, 114, 99] : List UInt8) then ((ostiarybook_Same_string.f k bt252.1 (([(⟨#[97]⟩ : ByteArray)] : List ByteArray))).bind fun t261 => (some t261)) else (some false)) else (some false)) else (some false))))) = some r := H
  have A1 := Aside0.mk A10
  clear A10
  replace H := Option.bind_eq_some_iff.mp H
  obtain ⟨⟨t248, t251⟩, A20, H⟩ := H
  replace H : ((policy_Values.f k t248 t251 (⟨#[115, 99, 114, 105, 112, 116, 45, 115, 114, 99, 45, 101, 108, 101, 109]⟩ : ByteArray)).bind fun bt252 => ((policy_Text.f k t243 t246).bind fun t257 => (if t257.toList = ([105, 109, 103, 45, 115, 114, 99, 32, 97, 32, 98, 59, 32, 120] : List UInt8) then (if bt252.2.2 = true then (if bt252.2.1.toList = ([100, 101, 102, 97, 117, 108, 116, 45, 115, 114, 99] : List UInt8) then ((ostiarybook_Same_string.f k bt252.1 (([(⟨#[97]⟩ : ByteArray)] : List ByteArray))).bind fun t261 => (some t261)) else (some false)) else (some false)) else (some false)))) = some r := H
  have A2 := Aside0.mk A20
  clear A20
  replace H := Option.bind_eq_some_iff.mp H
  obtain ⟨⟨t252, t255, t256⟩, A30, H⟩ := H
  replace H : ((policy_Text.f k t243 t246).bind fun t257 => (if t257.toList = ([105, 109, 103, 45, 115, 114, 99, 32, 97, 32, 98, 59, 32, 120] : List UInt8) then (if t256 = true then (if t255.toList = ([100, 101, 102, 97, 117, 108, 116, 45, 115, 114, 99] : List UInt8) then ((ostiarybook_Same_string.f k t252 (([(⟨#[97]⟩ : ByteArray)] : List ByteArray))).bind fun t261 => (some t261)) else (some false)) else (some false)) else (some false))) = some r := H
  have A3 := Aside0.mk A30
  clear A30
  replace H := Option.bind_eq_some_iff.mp H
  obtain ⟨t257, A40, H⟩ := H
  replace H : (if t257.toList = ([105, 109, 103, 45, 115, 114, 99, 32, 97, 32, 98, 59, 32, 120] : List UInt8) then (if t256 = true then (if t255.toList = ([100, 101, 102, 97, 117, 108, 116, 45, 115, 114, 99] : List UInt8) then ((ostiarybook_Same_string.f k t252 (([(⟨#[97]⟩ : ByteArray)] : List ByteArray))).bind fun t261 => (some t261)) else (some false)) else (some false)) else (some false)) = some r := H
  have A4 := Aside0.mk A40
  clear A40
  by_cases c5 : t257.toList = ([105, 109, 103, 45, 115, 114, 99, 32, 97, 32, 98, 59, 32, 120] : List UInt8)
  · rw [if_pos c5] at H
    have c5b0 : (t257.toList == ([105, 109, 103, 45, 115, 114, 99, 32, 97, 32, 98, 59, 32, 120] : List UInt8)) = true := beq_iff_eq.mpr c5
    have c5b1 : (t257.toList != ([105, 109, 103, 45, 115, 114, 99, 32, 97, 32, 98, 59, 32, 120] : List UInt8)) = false := bne_eq_false_iff_eq.mpr c5
    clear c5
    by_cases c6 : t256 = true
    · subst c6
      have H1 : (if t255.toList = ([100, 101, 102, 97, 117, 108, 116, 45, 115, 114, 99] : List UInt8) then ((ostiarybook_Same_string.f k t252 (([(⟨#[97]⟩ : ByteArray)] : List ByteArray))).bind fun t261 => (some t261)) else (some false)) = some r := by rw [if_pos rfl] at H; exact H
      clear H
      have H := H1
      clear H1
      by_cases c7 : t255.toList = ([100, 101, 102, 97, 117, 108, 116, 45, 115, 114, 99] : List UInt8)
      · rw [if_pos c7] at H
        have c7b0 : (t255.toList == ([100, 101, 102, 97, 117, 108, 116, 45, 115, 114, 99] : List UInt8)) = true := beq_iff_eq.mpr c7
        have c7b1 : (t255.toList != ([100, 101, 102, 97, 117, 108, 116, 45, 115, 114, 99] : List UInt8)) = false := bne_eq_false_iff_eq.mpr c7
        clear c7
        obtain ⟨y258, hy258⟩ : ∃ y_ : List ByteArray, y_ = (([(⟨#[97]⟩ : ByteArray)] : List ByteArray)) := ⟨_, rfl⟩
        replace H : ((ostiarybook_Same_string.f k t252 y258).bind fun t261 => (some t261)) = some r := by first | (rw [hy258]; with_reducible exact H) | (have H2_ := (Option.bind_some _ _).symm.trans H; rw [hy258]; with_reducible exact H2_) | (have H2_ := (Option.bind_some _ _).symm.trans H; with_reducible exact H2_) | with_reducible exact H | (rw [hy258]; exact H) | exact H
        have Ny258 := Aside0.mk hy258
        clear hy258
        replace H := Option.bind_eq_some_iff.mp H
        obtain ⟨t261, A80, H⟩ := H
        replace H : (some t261) = some r := H
        have A8 := Aside0.mk A80
        clear A80
        obtain rfl := Option.some.inj H
        go_enter Tryd.func16, Tryd.ntmps16
        go_wp2_with (first | ((with_reducible refine gate_callee (f := 14) rfl ?_); refine goesL_ (some 5) rfl rfl Tryd.func14 (by kernel_rfl) rfl #[.string (⟨#[73, 109, 103, 45, 83, 114, 99, 32, 97, 32, 32, 98, 59, 32, 59, 105, 109, 103, 45, 115, 114, 99, 32, 99, 59, 120]⟩ : ByteArray), .bool false] rfl (by xmp_) ?_; (with_reducible refine (policy_Parse.calls k (⟨#[73, 109, 103, 45, 83, 114, 99, 32, 97, 32, 32, 98, 59, 32, 59, 105, 109, 103, 45, 115, 114, 99, 32, 99, 59, 120]⟩ : ByteArray) false t243 t246 _ A1.out).mono ?_); rintro e w9 ⟨v244, rfl, ho0, hb⟩; refine ⟨_, rfl, ?_⟩; have n0_ := Am (Kd.S_lower ho0 (below_size (by xhb_))); have n1_ := Am (below_step (by xhb_) hb); clear HB; have HO245 := n0_; have HB := n1_; clear n0_ n1_; xcl_) | ((with_reducible refine gate_dst (N := 1) rfl ?_); (try (refine gate_guard (by rfl) ?_; dsimp only)); refine box_event ?hg (N := 1) ?hd (cs := #[.slice none 0 0, .bool false]) (t := 33) ?hr ?_; xdg_; intro gb247 hg w10 hbox hb; have n0_ := Am (Kd.S_below (by xSd_; exact HO245.out) hb); have n1_ := Am (below_step (by xhb_) hb); have n2_ := Am (hbox); have n3_ := Am ((by rw [hg]; exact (below_size (by xhb_)) : w.heap.size ≤ gb247)); have n4_ := Am ((by rw [hg]; exact (below_size (by xhb_)) : w.heap.size ≤ gb247)); clear HO245; clear HB; have HO245 := n0_; have HB := n1_; have BK247 := n2_; have GW247 := n3_; have GE247 := n4_; clear n0_ n1_ n2_ n3_ n4_; clear hb hbox hg; obtain ⟨Ao11, co11, eo11⟩ := Kd.S_slice HO245.out; subst eo11; have hcz12_0 : w10.cell? ⟨gb247, 0, none⟩ = some (.slice none 0 0) := (blk_cell BK247.out 0).trans rfl; have hcz12_1 : w10.cell? ⟨gb247, 1, none⟩ = some (.bool false) := (blk_cell BK247.out 1).trans rfl; have hfz12_0 := blk_frozen BK247.out 0; have hfz12_1 := blk_frozen BK247.out 1) | ((with_reducible refine gate_callee (f := 14) rfl ?_); refine goesL_ (some 7) rfl rfl Tryd.func14 (by kernel_rfl) rfl #[.string (⟨#[100, 101, 102, 97, 117, 108, 116, 45, 115, 114, 99, 32, 97]⟩ : ByteArray), .bool false] rfl (by xmp_) ?_; (with_reducible refine (policy_Parse.calls k (⟨#[100, 101, 102, 97, 117, 108, 116, 45, 115, 114, 99, 32, 97]⟩ : ByteArray) false t248 t251 _ A2.out).mono ?_); rintro e w13 ⟨v249, rfl, ho0, hb⟩; refine ⟨_, rfl, ?_⟩; have n0_ := Am (Kd.S_elder' (by xSd_; exact (Kd.S_mono (Kd.S_far (p := ⟨gb247, 1, none⟩) (Kd.S_far (p := ⟨gb247, 0, none⟩) (Kd.S_types HO245.out BK247.out (by decide)) (fun _ hk => hk.2) (.slice Ao11 t243.length co11)) (fun _ hk => hk.2) (.bool t246)) (fun _ h_ => h_.1))) (Kd.S_base ho0) hb); have n1_ := Am (Kd.S_lower (Kd.S_new' ho0 (Kd.S_lt (by xSd_; exact (Kd.S_mono (Kd.S_far (p := ⟨gb247, 1, none⟩) (Kd.S_far (p := ⟨gb247, 0, none⟩) (Kd.S_types HO245.out BK247.out (by decide)) (fun _ hk => hk.2) (.slice Ao11 t243.length co11)) (fun _ hk => hk.2) (.bool t246)) (fun _ h_ => h_.1))))) (below_size (by xhc_ GE247))); have n2_ := Am (blk_below (g := gb247) (o := .cells #[.slice Ao11 t243.length co11, .bool t246] 33 (0, 0)) (by xbk_; refine blk_put (cs := #[.slice Ao11 t243.length co11, .bool false]) ?_ 1 _ rfl; xbk_; refine blk_put (cs := #[.slice none 0 0, .bool false]) ?_ 0 _ rfl; xbk_; exact BK247.out) hb); have n3_ := Am (below_step (by xhc_ GE247) hb); clear HO245; clear BK247; clear HB; have HO245 := n0_; have HO250 := n1_; have BK247 := n2_; have HB := n3_; clear n0_ n1_ n2_ n3_; xcl_; obtain ⟨Ao14, co14, eo14⟩ := Kd.S_slice HO250.out; subst eo14) | ((with_reducible refine gate_callee (f := 22) rfl ?_); refine goesL_ (some 8) rfl rfl Tryd.func22 (by kernel_rfl) rfl #[.agg #[.slice Ao14 t248.length co14, .bool t251], .string (⟨#[115, 99, 114, 105, 112, 116, 45, 115, 114, 99, 45, 101, 108, 101, 109]⟩ : ByteArray)] rfl (by xmp_) ?_; (with_reducible refine (policy_Values.calls k _ _ t248 t251 (⟨#[115, 99, 114, 105, 112, 116, 45, 115, 114, 99, 45, 101, 108, 101, 109]⟩ : ByteArray) t252 t255 true _ ?side1 ?side2 A3.out).mono ?_); (case side1 => repeat (first | exact (Kd.S_reads' HO250.out).2.2 | xcd_)); (case side2 => exact (Kd.S_reads' HO250.out).2.1); rintro e w15 ⟨v253, rfl, ho0, hb⟩; refine ⟨_, rfl, ?_⟩; have n0_ := Am (Kd.S_elder' (by xSd_; exact HO245.out) (Kd.R_base ho0) hb); have n1_ := Am (Kd.S_elder' (by xSd_; exact HO250.out) (Kd.R_base ho0) hb); have n2_ := Am (Kd.R_lower ho0 (below_size (by xhc_ GE247))); have n3_ := Am (blk_below (g := gb247) (o := .cells #[.slice Ao11 t243.length co11, .bool t246] 33 (0, 0)) (by xbk_; exact BK247.out) hb); have n4_ := Am (below_step (by xhc_ GE247) hb); clear HO245; clear HO250; clear BK247; clear HB; have HO245 := n0_; have HO250 := n1_; have HO254 := n2_; have BK247 := n3_; have HB := n4_; clear n0_ n1_ n2_ n3_ n4_; xcl_; have hcz16_0 : w15.cell? ⟨gb247, 0, none⟩ = some (.slice Ao11 t243.length co11) := (blk_cell BK247.out 0).trans rfl; have hcz16_1 : w15.cell? ⟨gb247, 1, none⟩ = some (.bool t246) := (blk_cell BK247.out 1).trans rfl; have hfz16_0 := blk_frozen BK247.out 0; have hfz16_1 := blk_frozen BK247.out 1) | ((with_reducible refine gate_callee (f := 15) rfl ?_); refine goesL_ (some 13) rfl rfl Tryd.func15 (by kernel_rfl) rfl #[.agg #[.slice Ao11 t243.length co11, .bool t246]] rfl (by xmp_) ?_; (with_reducible refine (policy_Text.calls k _ _ t243 t246 t257 _ ?side1 ?side2 A4.out).mono ?_); (case side1 => repeat (first | exact (Kd.S_reads' HO245.out).2.2 | xcd_)); (case side2 => exact (Kd.S_reads' HO245.out).2.1); rintro e w17 ⟨rfl, hb⟩; refine ⟨_, rfl, ?_⟩; have n0_ := Am (Kd.S_below (by xSd_; exact HO245.out) hb); have n1_ := Am (Kd.S_below (by xSd_; exact HO250.out) hb); have n2_ := Am (Kd.R_below (by xRd_; exact HO254.out) hb); have n3_ := Am (blk_below (g := gb247) (o := .cells #[.slice Ao11 t243.length co11, .bool t246] 33 (0, 0)) (by xbk_; exact BK247.out) hb); have n4_ := Am (below_step (by xhc_ GE247) hb); clear HO245; clear HO250; clear HO254; clear BK247; clear HB; have HO245 := n0_; have HO250 := n1_; have HO254 := n2_; have BK247 := n3_; have HB := n4_; clear n0_ n1_ n2_ n3_ n4_; (try clear hb); (try clear hb2); (try clear hk); (try clear hi)) | ((with_reducible refine gate_dst (N := 24) rfl ?_); (try (refine gate_guard (by rfl) ?_; dsimp only)); refine Kd.R_lit Kd.string _ 9 ?hg (N := 24) ?hd (xs := ([(⟨#[97]⟩ : ByteArray)] : List ByteArray)) (inner := [.string (⟨#[97]⟩ : ByteArray)]) (ok := fun _ => True) (okp := fun _ => True) ?hr ?hp (fun _ hk => hk) trivial (Below.refl _ _) (Nat.le_refl _) (by simp) ?_; xdg_; (case hp => exact (Reps.one (show Kd.M Kd.string _ _ _ (⟨#[97]⟩ : ByteArray) [.string (⟨#[97]⟩ : ByteArray)] from rfl) (Reps.none _ _))); intro v259 w18 ho19 hb hg_ hnew_; clear hg_ hnew_; (first | rw [← Ny258.out] at ho19 | (simp only [Int.reduceToNat] at ho19; rw [← Ny258.out] at ho19)); have n0_ := Am (Kd.S_elder' (by xSd_; exact HO245.out) (Kd.R_base ho19) hb); have n1_ := Am (Kd.S_elder' (by xSd_; exact HO250.out) (Kd.R_base ho19) hb); have n2_ := Am (Kd.R_elder' (by xRd_; exact HO254.out) (Kd.R_base ho19) hb); have n3_ := Am (Kd.R_lower (Kd.R_new' ho19 (Kd.R_lt (by xRd_; exact HO254.out))) (below_size (by xhc_ GE247))); have n4_ := Am (blk_below (g := gb247) (o := .cells #[.slice Ao11 t243.length co11, .bool t246] 33 (0, 0)) (by xbk_; exact BK247.out) hb); have n5_ := Am (below_step (by xhc_ GE247) hb); clear HO245; clear HO250; clear HO254; clear BK247; clear HB; have HO245 := n0_; have HO250 := n1_; have HO254 := n2_; have HO260 := n3_; have BK247 := n4_; have HB := n5_; clear n0_ n1_ n2_ n3_ n4_ n5_; clear hb ho19; obtain ⟨Ao20, co20, eo20⟩ := Kd.R_slice HO254.out; subst eo20; obtain ⟨Ao21, co21, eo21⟩ := Kd.R_slice HO260.out; subst eo21) | (go_at_call 8; (with_reducible refine (ostiarybook_Same_string.calls k _ _ t252 _ _ y258 t261 _ ?side1 ?side2 ?side3 ?side4 A8.out).mono ?_); (case side1 => repeat (first | exact (Kd.R_reads' HO254.out).2.2 | xcd_)); (case side2 => exact (Kd.R_reads' HO254.out).2.1); (case side3 => repeat (first | exact (Kd.R_reads' HO260.out).2.2 | xcd_)); (case side4 => exact (Kd.R_reads' HO260.out).2.1); rintro e w' ⟨rfl, ⟨nd, rfl⟩⟩))
        go_ret
        exact ⟨by xfr_, by xhc_ GE247⟩
      · rw [if_neg c7] at H
        have c7b0 : (t255.toList == ([100, 101, 102, 97, 117, 108, 116, 45, 115, 114, 99] : List UInt8)) = false := beq_eq_false_iff_ne.mpr c7
        have c7b1 : (t255.toList != ([100, 101, 102, 97, 117, 108, 116, 45, 115, 114, 99] : List UInt8)) = true := bne_iff_ne.mpr c7
        obtain rfl := Option.some.inj H
        go_enter Tryd.func16, Tryd.ntmps16
        go_wp2_with (first | ((with_reducible refine gate_callee (f := 14) rfl ?_); refine goesL_ (some 5) rfl rfl Tryd.func14 (by kernel_rfl) rfl #[.string (⟨#[73, 109, 103, 45, 83, 114, 99, 32, 97, 32, 32, 98, 59, 32, 59, 105, 109, 103, 45, 115, 114, 99, 32, 99, 59, 120]⟩ : ByteArray), .bool false] rfl (by xmp_) ?_; (with_reducible refine (policy_Parse.calls k (⟨#[73, 109, 103, 45, 83, 114, 99, 32, 97, 32, 32, 98, 59, 32, 59, 105, 109, 103, 45, 115, 114, 99, 32, 99, 59, 120]⟩ : ByteArray) false t243 t246 _ A1.out).mono ?_); rintro e w22 ⟨v244, rfl, ho0, hb⟩; refine ⟨_, rfl, ?_⟩; have n0_ := Am (Kd.S_lower ho0 (below_size (by xhb_))); have n1_ := Am (below_step (by xhb_) hb); clear HB; have HO245 := n0_; have HB := n1_; clear n0_ n1_; xcl_) | ((with_reducible refine gate_dst (N := 1) rfl ?_); (try (refine gate_guard (by rfl) ?_; dsimp only)); refine box_event ?hg (N := 1) ?hd (cs := #[.slice none 0 0, .bool false]) (t := 33) ?hr ?_; xdg_; intro gb247 hg w23 hbox hb; have n0_ := Am (Kd.S_below (by xSd_; exact HO245.out) hb); have n1_ := Am (below_step (by xhb_) hb); have n2_ := Am (hbox); have n3_ := Am ((by rw [hg]; exact (below_size (by xhb_)) : w.heap.size ≤ gb247)); have n4_ := Am ((by rw [hg]; exact (below_size (by xhb_)) : w.heap.size ≤ gb247)); clear HO245; clear HB; have HO245 := n0_; have HB := n1_; have BK247 := n2_; have GW247 := n3_; have GE247 := n4_; clear n0_ n1_ n2_ n3_ n4_; clear hb hbox hg; obtain ⟨Ao24, co24, eo24⟩ := Kd.S_slice HO245.out; subst eo24; have hcz25_0 : w23.cell? ⟨gb247, 0, none⟩ = some (.slice none 0 0) := (blk_cell BK247.out 0).trans rfl; have hcz25_1 : w23.cell? ⟨gb247, 1, none⟩ = some (.bool false) := (blk_cell BK247.out 1).trans rfl; have hfz25_0 := blk_frozen BK247.out 0; have hfz25_1 := blk_frozen BK247.out 1) | ((with_reducible refine gate_callee (f := 14) rfl ?_); refine goesL_ (some 7) rfl rfl Tryd.func14 (by kernel_rfl) rfl #[.string (⟨#[100, 101, 102, 97, 117, 108, 116, 45, 115, 114, 99, 32, 97]⟩ : ByteArray), .bool false] rfl (by xmp_) ?_; (with_reducible refine (policy_Parse.calls k (⟨#[100, 101, 102, 97, 117, 108, 116, 45, 115, 114, 99, 32, 97]⟩ : ByteArray) false t248 t251 _ A2.out).mono ?_); rintro e w26 ⟨v249, rfl, ho0, hb⟩; refine ⟨_, rfl, ?_⟩; have n0_ := Am (Kd.S_elder' (by xSd_; exact (Kd.S_mono (Kd.S_far (p := ⟨gb247, 1, none⟩) (Kd.S_far (p := ⟨gb247, 0, none⟩) (Kd.S_types HO245.out BK247.out (by decide)) (fun _ hk => hk.2) (.slice Ao24 t243.length co24)) (fun _ hk => hk.2) (.bool t246)) (fun _ h_ => h_.1))) (Kd.S_base ho0) hb); have n1_ := Am (Kd.S_lower (Kd.S_new' ho0 (Kd.S_lt (by xSd_; exact (Kd.S_mono (Kd.S_far (p := ⟨gb247, 1, none⟩) (Kd.S_far (p := ⟨gb247, 0, none⟩) (Kd.S_types HO245.out BK247.out (by decide)) (fun _ hk => hk.2) (.slice Ao24 t243.length co24)) (fun _ hk => hk.2) (.bool t246)) (fun _ h_ => h_.1))))) (below_size (by xhc_ GE247))); have n2_ := Am (blk_below (g := gb247) (o := .cells #[.slice Ao24 t243.length co24, .bool t246] 33 (0, 0)) (by xbk_; refine blk_put (cs := #[.slice Ao24 t243.length co24, .bool false]) ?_ 1 _ rfl; xbk_; refine blk_put (cs := #[.slice none 0 0, .bool false]) ?_ 0 _ rfl; xbk_; exact BK247.out) hb); have n3_ := Am (below_step (by xhc_ GE247) hb); clear HO245; clear BK247; clear HB; have HO245 := n0_; have HO250 := n1_; have BK247 := n2_; have HB := n3_; clear n0_ n1_ n2_ n3_; xcl_; obtain ⟨Ao27, co27, eo27⟩ := Kd.S_slice HO250.out; subst eo27) | ((with_reducible refine gate_callee (f := 22) rfl ?_); refine goesL_ (some 8) rfl rfl Tryd.func22 (by kernel_rfl) rfl #[.agg #[.slice Ao27 t248.length co27, .bool t251], .string (⟨#[115, 99, 114, 105, 112, 116, 45, 115, 114, 99, 45, 101, 108, 101, 109]⟩ : ByteArray)] rfl (by xmp_) ?_; (with_reducible refine (policy_Values.calls k _ _ t248 t251 (⟨#[115, 99, 114, 105, 112, 116, 45, 115, 114, 99, 45, 101, 108, 101, 109]⟩ : ByteArray) t252 t255 true _ ?side1 ?side2 A3.out).mono ?_); (case side1 => repeat (first | exact (Kd.S_reads' HO250.out).2.2 | xcd_)); (case side2 => exact (Kd.S_reads' HO250.out).2.1); rintro e w28 ⟨v253, rfl, ho0, hb⟩; refine ⟨_, rfl, ?_⟩; have n0_ := Am (Kd.S_elder' (by xSd_; exact HO245.out) (Kd.R_base ho0) hb); have n1_ := Am (Kd.S_elder' (by xSd_; exact HO250.out) (Kd.R_base ho0) hb); have n2_ := Am (Kd.R_lower ho0 (below_size (by xhc_ GE247))); have n3_ := Am (blk_below (g := gb247) (o := .cells #[.slice Ao24 t243.length co24, .bool t246] 33 (0, 0)) (by xbk_; exact BK247.out) hb); have n4_ := Am (below_step (by xhc_ GE247) hb); clear HO245; clear HO250; clear BK247; clear HB; have HO245 := n0_; have HO250 := n1_; have HO254 := n2_; have BK247 := n3_; have HB := n4_; clear n0_ n1_ n2_ n3_ n4_; xcl_; have hcz29_0 : w28.cell? ⟨gb247, 0, none⟩ = some (.slice Ao24 t243.length co24) := (blk_cell BK247.out 0).trans rfl; have hcz29_1 : w28.cell? ⟨gb247, 1, none⟩ = some (.bool t246) := (blk_cell BK247.out 1).trans rfl; have hfz29_0 := blk_frozen BK247.out 0; have hfz29_1 := blk_frozen BK247.out 1) | ((with_reducible refine gate_callee (f := 15) rfl ?_); refine goesL_ (some 13) rfl rfl Tryd.func15 (by kernel_rfl) rfl #[.agg #[.slice Ao24 t243.length co24, .bool t246]] rfl (by xmp_) ?_; (with_reducible refine (policy_Text.calls k _ _ t243 t246 t257 _ ?side1 ?side2 A4.out).mono ?_); (case side1 => repeat (first | exact (Kd.S_reads' HO245.out).2.2 | xcd_)); (case side2 => exact (Kd.S_reads' HO245.out).2.1); rintro e w30 ⟨rfl, hb⟩; refine ⟨_, rfl, ?_⟩; have n0_ := Am (Kd.S_below (by xSd_; exact HO245.out) hb); have n1_ := Am (Kd.S_below (by xSd_; exact HO250.out) hb); have n2_ := Am (Kd.R_below (by xRd_; exact HO254.out) hb); have n3_ := Am (blk_below (g := gb247) (o := .cells #[.slice Ao24 t243.length co24, .bool t246] 33 (0, 0)) (by xbk_; exact BK247.out) hb); have n4_ := Am (below_step (by xhc_ GE247) hb); clear HO245; clear HO250; clear HO254; clear BK247; clear HB; have HO245 := n0_; have HO250 := n1_; have HO254 := n2_; have BK247 := n3_; have HB := n4_; clear n0_ n1_ n2_ n3_ n4_; (try clear hb); (try clear hb2); (try clear hk); (try clear hi)))
        go_ret
        exact ⟨by xfr_, by xhc_ GE247⟩
    · replace c6 := Bool.eq_false_iff.mpr c6
      subst c6
      have H1 : (some false) = some r := by rw [if_neg (show ¬ (false = true) by decide)] at H; exact H
      clear H
      have H := H1
      clear H1
      obtain rfl := Option.some.inj H
      go_enter Tryd.func16, Tryd.ntmps16
      go_wp2_with (first | ((with_reducible refine gate_callee (f := 14) rfl ?_); refine goesL_ (some 5) rfl rfl Tryd.func14 (by kernel_rfl) rfl #[.string (⟨#[73, 109, 103, 45, 83, 114, 99, 32, 97, 32, 32, 98, 59, 32, 59, 105, 109, 103, 45, 115, 114, 99, 32, 99, 59, 120]⟩ : ByteArray), .bool false] rfl (by xmp_) ?_; (with_reducible refine (policy_Parse.calls k (⟨#[73, 109, 103, 45, 83, 114, 99, 32, 97, 32, 32, 98, 59, 32, 59, 105, 109, 103, 45, 115, 114, 99, 32, 99, 59, 120]⟩ : ByteArray) false t243 t246 _ A1.out).mono ?_); rintro e w31 ⟨v244, rfl, ho0, hb⟩; refine ⟨_, rfl, ?_⟩; have n0_ := Am (Kd.S_lower ho0 (below_size (by xhb_))); have n1_ := Am (below_step (by xhb_) hb); clear HB; have HO245 := n0_; have HB := n1_; clear n0_ n1_; xcl_) | ((with_reducible refine gate_dst (N := 1) rfl ?_); (try (refine gate_guard (by rfl) ?_; dsimp only)); refine box_event ?hg (N := 1) ?hd (cs := #[.slice none 0 0, .bool false]) (t := 33) ?hr ?_; xdg_; intro gb247 hg w32 hbox hb; have n0_ := Am (Kd.S_below (by xSd_; exact HO245.out) hb); have n1_ := Am (below_step (by xhb_) hb); have n2_ := Am (hbox); have n3_ := Am ((by rw [hg]; exact (below_size (by xhb_)) : w.heap.size ≤ gb247)); have n4_ := Am ((by rw [hg]; exact (below_size (by xhb_)) : w.heap.size ≤ gb247)); clear HO245; clear HB; have HO245 := n0_; have HB := n1_; have BK247 := n2_; have GW247 := n3_; have GE247 := n4_; clear n0_ n1_ n2_ n3_ n4_; clear hb hbox hg; obtain ⟨Ao33, co33, eo33⟩ := Kd.S_slice HO245.out; subst eo33; have hcz34_0 : w32.cell? ⟨gb247, 0, none⟩ = some (.slice none 0 0) := (blk_cell BK247.out 0).trans rfl; have hcz34_1 : w32.cell? ⟨gb247, 1, none⟩ = some (.bool false) := (blk_cell BK247.out 1).trans rfl; have hfz34_0 := blk_frozen BK247.out 0; have hfz34_1 := blk_frozen BK247.out 1) | ((with_reducible refine gate_callee (f := 14) rfl ?_); refine goesL_ (some 7) rfl rfl Tryd.func14 (by kernel_rfl) rfl #[.string (⟨#[100, 101, 102, 97, 117, 108, 116, 45, 115, 114, 99, 32, 97]⟩ : ByteArray), .bool false] rfl (by xmp_) ?_; (with_reducible refine (policy_Parse.calls k (⟨#[100, 101, 102, 97, 117, 108, 116, 45, 115, 114, 99, 32, 97]⟩ : ByteArray) false t248 t251 _ A2.out).mono ?_); rintro e w35 ⟨v249, rfl, ho0, hb⟩; refine ⟨_, rfl, ?_⟩; have n0_ := Am (Kd.S_elder' (by xSd_; exact (Kd.S_mono (Kd.S_far (p := ⟨gb247, 1, none⟩) (Kd.S_far (p := ⟨gb247, 0, none⟩) (Kd.S_types HO245.out BK247.out (by decide)) (fun _ hk => hk.2) (.slice Ao33 t243.length co33)) (fun _ hk => hk.2) (.bool t246)) (fun _ h_ => h_.1))) (Kd.S_base ho0) hb); have n1_ := Am (Kd.S_lower (Kd.S_new' ho0 (Kd.S_lt (by xSd_; exact (Kd.S_mono (Kd.S_far (p := ⟨gb247, 1, none⟩) (Kd.S_far (p := ⟨gb247, 0, none⟩) (Kd.S_types HO245.out BK247.out (by decide)) (fun _ hk => hk.2) (.slice Ao33 t243.length co33)) (fun _ hk => hk.2) (.bool t246)) (fun _ h_ => h_.1))))) (below_size (by xhc_ GE247))); have n2_ := Am (blk_below (g := gb247) (o := .cells #[.slice Ao33 t243.length co33, .bool t246] 33 (0, 0)) (by xbk_; refine blk_put (cs := #[.slice Ao33 t243.length co33, .bool false]) ?_ 1 _ rfl; xbk_; refine blk_put (cs := #[.slice none 0 0, .bool false]) ?_ 0 _ rfl; xbk_; exact BK247.out) hb); have n3_ := Am (below_step (by xhc_ GE247) hb); clear HO245; clear BK247; clear HB; have HO245 := n0_; have HO250 := n1_; have BK247 := n2_; have HB := n3_; clear n0_ n1_ n2_ n3_; xcl_; obtain ⟨Ao36, co36, eo36⟩ := Kd.S_slice HO250.out; subst eo36) | ((with_reducible refine gate_callee (f := 22) rfl ?_); refine goesL_ (some 8) rfl rfl Tryd.func22 (by kernel_rfl) rfl #[.agg #[.slice Ao36 t248.length co36, .bool t251], .string (⟨#[115, 99, 114, 105, 112, 116, 45, 115, 114, 99, 45, 101, 108, 101, 109]⟩ : ByteArray)] rfl (by xmp_) ?_; (with_reducible refine (policy_Values.calls k _ _ t248 t251 (⟨#[115, 99, 114, 105, 112, 116, 45, 115, 114, 99, 45, 101, 108, 101, 109]⟩ : ByteArray) t252 t255 false _ ?side1 ?side2 A3.out).mono ?_); (case side1 => repeat (first | exact (Kd.S_reads' HO250.out).2.2 | xcd_)); (case side2 => exact (Kd.S_reads' HO250.out).2.1); rintro e w37 ⟨v253, rfl, ho0, hb⟩; refine ⟨_, rfl, ?_⟩; have n0_ := Am (Kd.S_elder' (by xSd_; exact HO245.out) (Kd.R_base ho0) hb); have n1_ := Am (Kd.S_elder' (by xSd_; exact HO250.out) (Kd.R_base ho0) hb); have n2_ := Am (Kd.R_lower ho0 (below_size (by xhc_ GE247))); have n3_ := Am (blk_below (g := gb247) (o := .cells #[.slice Ao33 t243.length co33, .bool t246] 33 (0, 0)) (by xbk_; exact BK247.out) hb); have n4_ := Am (below_step (by xhc_ GE247) hb); clear HO245; clear HO250; clear BK247; clear HB; have HO245 := n0_; have HO250 := n1_; have HO254 := n2_; have BK247 := n3_; have HB := n4_; clear n0_ n1_ n2_ n3_ n4_; xcl_; have hcz38_0 : w37.cell? ⟨gb247, 0, none⟩ = some (.slice Ao33 t243.length co33) := (blk_cell BK247.out 0).trans rfl; have hcz38_1 : w37.cell? ⟨gb247, 1, none⟩ = some (.bool t246) := (blk_cell BK247.out 1).trans rfl; have hfz38_0 := blk_frozen BK247.out 0; have hfz38_1 := blk_frozen BK247.out 1) | ((with_reducible refine gate_callee (f := 15) rfl ?_); refine goesL_ (some 13) rfl rfl Tryd.func15 (by kernel_rfl) rfl #[.agg #[.slice Ao33 t243.length co33, .bool t246]] rfl (by xmp_) ?_; (with_reducible refine (policy_Text.calls k _ _ t243 t246 t257 _ ?side1 ?side2 A4.out).mono ?_); (case side1 => repeat (first | exact (Kd.S_reads' HO245.out).2.2 | xcd_)); (case side2 => exact (Kd.S_reads' HO245.out).2.1); rintro e w39 ⟨rfl, hb⟩; refine ⟨_, rfl, ?_⟩; have n0_ := Am (Kd.S_below (by xSd_; exact HO245.out) hb); have n1_ := Am (Kd.S_below (by xSd_; exact HO250.out) hb); have n2_ := Am (Kd.R_below (by xRd_; exact HO254.out) hb); have n3_ := Am (blk_below (g := gb247) (o := .cells #[.slice Ao33 t243.length co33, .bool t246] 33 (0, 0)) (by xbk_; exact BK247.out) hb); have n4_ := Am (below_step (by xhc_ GE247) hb); clear HO245; clear HO250; clear HO254; clear BK247; clear HB; have HO245 := n0_; have HO250 := n1_; have HO254 := n2_; have BK247 := n3_; have HB := n4_; clear n0_ n1_ n2_ n3_ n4_; (try clear hb); (try clear hb2); (try clear hk); (try clear hi)))
      go_ret
      exact ⟨by xfr_, by xhc_ GE247⟩
  · rw [if_neg c5] at H
    have c5b0 : (t257.toList == ([105, 109, 103, 45, 115, 114, 99, 32, 97, 32, 98, 59, 32, 120] : List UInt8)) = false := beq_eq_false_iff_ne.mpr c5
    have c5b1 : (t257.toList != ([105, 109, 103, 45, 115, 114, 99, 32, 97, 32, 98, 59, 32, 120] : List UInt8)) = true := bne_iff_ne.mpr c5
    obtain rfl := Option.some.inj H
    go_enter Tryd.func16, Tryd.ntmps16
    go_wp2_with (first | ((with_reducible refine gate_callee (f := 14) rfl ?_); refine goesL_ (some 5) rfl rfl Tryd.func14 (by kernel_rfl) rfl #[.string (⟨#[73, 109, 103, 45, 83, 114, 99, 32, 97, 32, 32, 98, 59, 32, 59, 105, 109, 103, 45, 115, 114, 99, 32, 99, 59, 120]⟩ : ByteArray), .bool false] rfl (by xmp_) ?_; (with_reducible refine (policy_Parse.calls k (⟨#[73, 109, 103, 45, 83, 114, 99, 32, 97, 32, 32, 98, 59, 32, 59, 105, 109, 103, 45, 115, 114, 99, 32, 99, 59, 120]⟩ : ByteArray) false t243 t246 _ A1.out).mono ?_); rintro e w40 ⟨v244, rfl, ho0, hb⟩; refine ⟨_, rfl, ?_⟩; have n0_ := Am (Kd.S_lower ho0 (below_size (by xhb_))); have n1_ := Am (below_step (by xhb_) hb); clear HB; have HO245 := n0_; have HB := n1_; clear n0_ n1_; xcl_) | ((with_reducible refine gate_dst (N := 1) rfl ?_); (try (refine gate_guard (by rfl) ?_; dsimp only)); refine box_event ?hg (N := 1) ?hd (cs := #[.slice none 0 0, .bool false]) (t := 33) ?hr ?_; xdg_; intro gb247 hg w41 hbox hb; have n0_ := Am (Kd.S_below (by xSd_; exact HO245.out) hb); have n1_ := Am (below_step (by xhb_) hb); have n2_ := Am (hbox); have n3_ := Am ((by rw [hg]; exact (below_size (by xhb_)) : w.heap.size ≤ gb247)); have n4_ := Am ((by rw [hg]; exact (below_size (by xhb_)) : w.heap.size ≤ gb247)); clear HO245; clear HB; have HO245 := n0_; have HB := n1_; have BK247 := n2_; have GW247 := n3_; have GE247 := n4_; clear n0_ n1_ n2_ n3_ n4_; clear hb hbox hg; obtain ⟨Ao42, co42, eo42⟩ := Kd.S_slice HO245.out; subst eo42; have hcz43_0 : w41.cell? ⟨gb247, 0, none⟩ = some (.slice none 0 0) := (blk_cell BK247.out 0).trans rfl; have hcz43_1 : w41.cell? ⟨gb247, 1, none⟩ = some (.bool false) := (blk_cell BK247.out 1).trans rfl; have hfz43_0 := blk_frozen BK247.out 0; have hfz43_1 := blk_frozen BK247.out 1) | ((with_reducible refine gate_callee (f := 14) rfl ?_); refine goesL_ (some 7) rfl rfl Tryd.func14 (by kernel_rfl) rfl #[.string (⟨#[100, 101, 102, 97, 117, 108, 116, 45, 115, 114, 99, 32, 97]⟩ : ByteArray), .bool false] rfl (by xmp_) ?_; (with_reducible refine (policy_Parse.calls k (⟨#[100, 101, 102, 97, 117, 108, 116, 45, 115, 114, 99, 32, 97]⟩ : ByteArray) false t248 t251 _ A2.out).mono ?_); rintro e w44 ⟨v249, rfl, ho0, hb⟩; refine ⟨_, rfl, ?_⟩; have n0_ := Am (Kd.S_elder' (by xSd_; exact (Kd.S_mono (Kd.S_far (p := ⟨gb247, 1, none⟩) (Kd.S_far (p := ⟨gb247, 0, none⟩) (Kd.S_types HO245.out BK247.out (by decide)) (fun _ hk => hk.2) (.slice Ao42 t243.length co42)) (fun _ hk => hk.2) (.bool t246)) (fun _ h_ => h_.1))) (Kd.S_base ho0) hb); have n1_ := Am (Kd.S_lower (Kd.S_new' ho0 (Kd.S_lt (by xSd_; exact (Kd.S_mono (Kd.S_far (p := ⟨gb247, 1, none⟩) (Kd.S_far (p := ⟨gb247, 0, none⟩) (Kd.S_types HO245.out BK247.out (by decide)) (fun _ hk => hk.2) (.slice Ao42 t243.length co42)) (fun _ hk => hk.2) (.bool t246)) (fun _ h_ => h_.1))))) (below_size (by xhc_ GE247))); have n2_ := Am (blk_below (g := gb247) (o := .cells #[.slice Ao42 t243.length co42, .bool t246] 33 (0, 0)) (by xbk_; refine blk_put (cs := #[.slice Ao42 t243.length co42, .bool false]) ?_ 1 _ rfl; xbk_; refine blk_put (cs := #[.slice none 0 0, .bool false]) ?_ 0 _ rfl; xbk_; exact BK247.out) hb); have n3_ := Am (below_step (by xhc_ GE247) hb); clear HO245; clear BK247; clear HB; have HO245 := n0_; have HO250 := n1_; have BK247 := n2_; have HB := n3_; clear n0_ n1_ n2_ n3_; xcl_; obtain ⟨Ao45, co45, eo45⟩ := Kd.S_slice HO250.out; subst eo45) | ((with_reducible refine gate_callee (f := 22) rfl ?_); refine goesL_ (some 8) rfl rfl Tryd.func22 (by kernel_rfl) rfl #[.agg #[.slice Ao45 t248.length co45, .bool t251], .string (⟨#[115, 99, 114, 105, 112, 116, 45, 115, 114, 99, 45, 101, 108, 101, 109]⟩ : ByteArray)] rfl (by xmp_) ?_; (with_reducible refine (policy_Values.calls k _ _ t248 t251 (⟨#[115, 99, 114, 105, 112, 116, 45, 115, 114, 99, 45, 101, 108, 101, 109]⟩ : ByteArray) t252 t255 t256 _ ?side1 ?side2 A3.out).mono ?_); (case side1 => repeat (first | exact (Kd.S_reads' HO250.out).2.2 | xcd_)); (case side2 => exact (Kd.S_reads' HO250.out).2.1); rintro e w46 ⟨v253, rfl, ho0, hb⟩; refine ⟨_, rfl, ?_⟩; have n0_ := Am (Kd.S_elder' (by xSd_; exact HO245.out) (Kd.R_base ho0) hb); have n1_ := Am (Kd.S_elder' (by xSd_; exact HO250.out) (Kd.R_base ho0) hb); have n2_ := Am (Kd.R_lower ho0 (below_size (by xhc_ GE247))); have n3_ := Am (blk_below (g := gb247) (o := .cells #[.slice Ao42 t243.length co42, .bool t246] 33 (0, 0)) (by xbk_; exact BK247.out) hb); have n4_ := Am (below_step (by xhc_ GE247) hb); clear HO245; clear HO250; clear BK247; clear HB; have HO245 := n0_; have HO250 := n1_; have HO254 := n2_; have BK247 := n3_; have HB := n4_; clear n0_ n1_ n2_ n3_ n4_; xcl_; have hcz47_0 : w46.cell? ⟨gb247, 0, none⟩ = some (.slice Ao42 t243.length co42) := (blk_cell BK247.out 0).trans rfl; have hcz47_1 : w46.cell? ⟨gb247, 1, none⟩ = some (.bool t246) := (blk_cell BK247.out 1).trans rfl; have hfz47_0 := blk_frozen BK247.out 0; have hfz47_1 := blk_frozen BK247.out 1) | ((with_reducible refine gate_callee (f := 15) rfl ?_); refine goesL_ (some 13) rfl rfl Tryd.func15 (by kernel_rfl) rfl #[.agg #[.slice Ao42 t243.length co42, .bool t246]] rfl (by xmp_) ?_; (with_reducible refine (policy_Text.calls k _ _ t243 t246 t257 _ ?side1 ?side2 A4.out).mono ?_); (case side1 => repeat (first | exact (Kd.S_reads' HO245.out).2.2 | xcd_)); (case side2 => exact (Kd.S_reads' HO245.out).2.1); rintro e w48 ⟨rfl, hb⟩; refine ⟨_, rfl, ?_⟩; have n0_ := Am (Kd.S_below (by xSd_; exact HO245.out) hb); have n1_ := Am (Kd.S_below (by xSd_; exact HO250.out) hb); have n2_ := Am (Kd.R_below (by xRd_; exact HO254.out) hb); have n3_ := Am (blk_below (g := gb247) (o := .cells #[.slice Ao42 t243.length co42, .bool t246] 33 (0, 0)) (by xbk_; exact BK247.out) hb); have n4_ := Am (below_step (by xhc_ GE247) hb); clear HO245; clear HO250; clear HO254; clear BK247; clear HB; have HO245 := n0_; have HO250 := n1_; have HO254 := n2_; have BK247 := n3_; have HB := n4_; clear n0_ n1_ n2_ n3_ n4_; (try clear hb); (try clear hb2); (try clear hk); (try clear hi)))
    go_ret
    exact ⟨by xfr_, by xhc_ GE247⟩

-- NOT PRINTED: function 3 (ostiarylaw10_PolicyNumbers)

/-! ### ostiarykeep_Few: function 17 -/
def ostiarykeep_Few.f (a0 : ByteArray) (a1 : Int) : Option (ByteArray) := if (a0.size : Int) > a1 then (if 0 ≤ a1 then (if a1 ≤ (a0.size : Int) then (some (a0.extract 0 (a1 : Int).toNat)) else (none)) else (none)) else (some a0)
set_option maxHeartbeats 8000000 in
set_option maxRecDepth 100000 in
theorem ostiarykeep_Few.calls (a0 : ByteArray) (a1 : Int) (r : ByteArray) (w : World) (h : ostiarykeep_Few.f a0 a1 = some r) :
    Calls Tryd.prog 17 #[.string a0, .int .i64 a1] w fun e w' => e = .returned (.string r) ∧ Drawn0 w w' := by
  have H : (if (a0.size : Int) > a1 then (if 0 ≤ a1 then (if a1 ≤ (a0.size : Int) then (some (a0.extract 0 (a1 : Int).toNat)) else (none)) else (none)) else (some a0)) = some r := h
  clear h
  by_cases c3 : (a0.size : Int) > a1
  · rw [if_pos c3] at H
    have c3b0 : decide (a1 < (a0.size : Int)) = true := decide_eq_true c3
    clear c3
    by_cases c4 : 0 ≤ a1
    · rw [if_pos c4] at H
      have c4b0 := eq_true c4
      have c4b1 : decide (0 ≤ a1) = true := decide_eq_true c4
      clear c4
      by_cases c5 : a1 ≤ (a0.size : Int)
      · rw [if_pos c5] at H
        have c5b0 := eq_true c5
        have c5b1 : decide (a1 ≤ (a0.size : Int)) = true := decide_eq_true c5
        clear c5
        obtain rfl := Option.some.inj H
        go_enter Tryd.func17, Tryd.ntmps17
        go_wp2
        go_ret
        exact ⟨by first | rfl | (simp; done) | (simp [*]; done) | (congr 2; generalize ByteArray.toList _ = l; cases l <;> rfl), by repeat (first | exact Drawn0.refl _ | apply Drawn0.step)⟩
      · rw [if_neg c5] at H
        exact absurd H (by simp)
    · rw [if_neg c4] at H
      exact absurd H (by simp)
  · rw [if_neg c3] at H
    have c3b0 : decide (a1 < (a0.size : Int)) = false := decide_eq_false c3
    clear c3
    obtain rfl := Option.some.inj H
    go_enter Tryd.func17, Tryd.ntmps17
    go_wp2
    go_ret
    exact ⟨by first | rfl | (simp; done) | (simp [*]; done) | (congr 2; generalize ByteArray.toList _ = l; cases l <;> rfl), by repeat (first | exact Drawn0.refl _ | apply Drawn0.step)⟩

end Go.Proofs.YtohcjdninpjpgaaDoor.PX
