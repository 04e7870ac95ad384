/- Functions of the program and their walks, printed by a program. -/
import Derived.Test.YtohcjdninpjpgaaDoorPXx0
namespace Go.Proofs.YtohcjdninpjpgaaDoor.PX
open Go.RowKit Go.Proofs.YtohcjdninpjpgaaDoorW.PrintWords Go.Proofs.YtohcjdninpjpgaaDoorW.PrintLast Go.Proofs.YtohcjdninpjpgaaDoorW.PrintMore
attribute [local go_sem] max2_int min2_int max_two min_two max_three min_three max_four min_four   -- for this text's walks alone
set_option linter.unusedVariables false
set_option linter.unusedSimpArgs false

/-! ### ostiarybook_Same_string: function 8 -/
def ostiarybook_Same_string.l0 : Nat → List ByteArray → List ByteArray → Int → Option (Bool)
  | 0, _, _, _ => none
  | k + 1, x0, x1, x5 => if x5 < (x0.length : Int) then (if 0 ≤ x5 then (if x5 < (x1.length : Int) then (if (rdOf ByteArray.empty x0 x5).toList = (rdOf ByteArray.empty x1 x5).toList then (ostiarybook_Same_string.l0 k x0 x1 (wrap64 (x5 + 1))) else (some false)) else (none)) else (none)) else (some true)
def ostiarybook_Same_string.f (k : Nat) (l0 : List ByteArray) (l1 : List ByteArray) : Option (Bool) := if (l0.length : Int) = (l1.length : Int) then (ostiarybook_Same_string.l0 k l0 l1 0) else (some false)
theorem ostiarybook_Same_string.mono_l : ∀ k, (∀ y0 y1 y2, LeO (ostiarybook_Same_string.l0 k y0 y1 y2) (ostiarybook_Same_string.l0 (k + 1) y0 y1 y2))
  | 0 => fun _ _ _ r h => by simp [ostiarybook_Same_string.l0] at h
  | k + 1 => by
    have ih0 := ostiarybook_Same_string.mono_l k
    · intro y0 y1 y2
      unfold ostiarybook_Same_string.l0
      repeat' first
      | (with_reducible exact ih0 _ _ _)
      | (with_reducible exact LeO.refl _)
      | (with_reducible exact LeO.none _)
      | (with_reducible refine LeO.ite ?_ ?_)
      | (with_reducible refine LeO.bind ?_ (fun _ => ?_))
      | exact ih0 _ _ _
      | exact LeO.none _
      | refine LeO.ite ?_ ?_
      | refine LeO.bind ?_ (fun _ => ?_)
theorem ostiarybook_Same_string.mono : ∀ a0 a1 k, LeO (ostiarybook_Same_string.f k a0 a1) (ostiarybook_Same_string.f (k + 1) a0 a1) := by
  intro a0 a1 k
  have ih0 := ostiarybook_Same_string.mono_l k
  unfold ostiarybook_Same_string.f
  repeat' first
      | (with_reducible exact ih0 _ _ _)
      | (with_reducible exact LeO.refl _)
      | (with_reducible exact LeO.none _)
      | (with_reducible refine LeO.ite ?_ ?_)
      | (with_reducible refine LeO.bind ?_ (fun _ => ?_))
      | exact ih0 _ _ _
      | exact LeO.none _
      | refine LeO.ite ?_ ?_
      | refine LeO.bind ?_ (fun _ => ?_)
set_option maxHeartbeats 8000000 in
set_option maxRecDepth 100000 in
theorem ostiarybook_Same_string.calls (k : Nat) (A0 : Option Addr) (c0 : Nat) (l0 : List ByteArray) (A1 : Option Addr) (c1 : Nat) (l1 : List ByteArray) (r : Bool) (w : World) (hr0 : Kd.C Kd.string w A0 l0.length l0) (hc0 : l0.length ≤ c0) (hr1 : Kd.C Kd.string w A1 l1.length l1) (hc1 : l1.length ≤ c1) (h : ostiarybook_Same_string.f k l0 l1 = some r) :
    Calls Tryd.prog 8 #[.slice A0 l0.length c0, .slice A1 l1.length c1] w fun e w' => e = .returned (.bool r) ∧ Drawn0 w w' := by
  have HR0 := Aside0.mk hr0
  have HC0 := Aside0.mk hc0
  clear hr0 hc0
  have HR1 := Aside0.mk hr1
  have HC1 := Aside0.mk hc1
  clear hr1 hc1
  have H : (if (l0.length : Int) = (l1.length : Int) then (ostiarybook_Same_string.l0 k l0 l1 0) else (some false)) = some r := h
  clear h
  by_cases c3 : (l0.length : Int) = (l1.length : Int)
  · rw [if_pos c3] at H
    have c3b0 : ((l0.length : Int) == (l1.length : Int)) = true := beq_iff_eq.mpr c3
    have c3b1 : ((l0.length : Int) != (l1.length : Int)) = false := bne_eq_false_iff_eq.mpr c3
    have c3b2 : (l0.length == l1.length) = true := by first | simpa using c3 | (simp at c3 ⊢; omega)
    clear c3
    have H' := Aside0.mk H
    clear H
    go_enter Tryd.func8, Tryd.ntmps8
    go_wp2
    repeat (go_quiet (fail); try go_wp2)
    go_loopg [5] k (fun kq v5 w' => ∃ (x5_1 : Int), v5 = .int .i64 x5_1 ∧ Aside0 (ostiarybook_Same_string.l0 kq l0 l1 x5_1 = some r) ∧ Aside0 (kq ≤ k) ∧ Drawn0 w w')
    case atStart => exact ⟨(0), (by first | rfl | (simp; done) | (simp [*]; done)), H', ⟨Nat.le_refl _⟩, by repeat (first | exact Drawn0.refl _ | apply Drawn0.step)⟩
    case round =>
      clear H'
      try clear c1
      try clear p2
      try clear c3
      try clear c3b0
      try clear c3b1
      try clear c3b2
      obtain ⟨x5_1, rfl, HA, HK1, ⟨m1, rfl⟩⟩ := hrel
      cases gk with
      | zero => exact absurd HA.out (by simp [ostiarybook_Same_string.l0])
      | succ k1 =>
        have H := HA.out
        clear HA
        simp only [ostiarybook_Same_string.l0] at H
        by_cases c4 : x5_1 < (l0.length : Int)
        · rw [if_pos c4] at H
          have c4b0 : decide (x5_1 < (l0.length : Int)) = true := decide_eq_true c4
          clear c4
          by_cases c5 : 0 ≤ x5_1
          · rw [if_pos c5] at H
            have c5b0 : decide (0 ≤ x5_1) = true := decide_eq_true c5
            clear c5
            by_cases c6 : x5_1 < (l1.length : Int)
            · rw [if_pos c6] at H
              have c6b0 : decide (x5_1 < (l1.length : Int)) = true := decide_eq_true c6
              clear c6
              by_cases c7 : (rdOf ByteArray.empty l0 x5_1).toList = (rdOf ByteArray.empty l1 x5_1).toList
              · rw [if_pos c7] at H
                have c7b0 : ((rdOf ByteArray.empty l0 x5_1).toList == (rdOf ByteArray.empty l1 x5_1).toList) = true := beq_iff_eq.mpr c7
                have c7b1 : ((rdOf ByteArray.empty l0 x5_1).toList != (rdOf ByteArray.empty l1 x5_1).toList) = false := bne_eq_false_iff_eq.mpr c7
                clear c7
                have H' := Aside0.mk H
                clear H
                have p101 : 0 ≤ (x5_1 : Int) := of_decide_eq_true (by first | (with_reducible assumption) | assumption)
                have q101 : x5_1 < (l0.length : Int) := of_decide_eq_true (by first | (with_reducible assumption) | assumption)
                obtain ⟨ad101, e101, hx101_0⟩ := Kd.at_string HR0.out x5_1 p101 q101
                cases e101
                replace p101 := eq_true p101
                replace q101 := eq_true q101
                have p102 : 0 ≤ (x5_1 : Int) := of_decide_eq_true (by first | (with_reducible assumption) | assumption)
                have q102 : x5_1 < (l1.length : Int) := of_decide_eq_true (by first | (with_reducible assumption) | assumption)
                obtain ⟨ad102, e102, hx102_0⟩ := Kd.at_string HR1.out x5_1 p102 q102
                cases e102
                replace p102 := eq_true p102
                replace q102 := eq_true q102
                go_wp2
                repeat (go_quiet (fail); try go_wp2)
                go_roundg k1
                case measure => have := HK1.out; omega
                case rel => exact ⟨(wrap64 (x5_1 + 1)), (by first | rfl | (simp; done) | (simp [*]; done)), H', ⟨by have := HK1.out; omega⟩, by repeat (first | exact Drawn0.refl _ | apply Drawn0.step)⟩
              · rw [if_neg c7] at H
                have c7b0 : ((rdOf ByteArray.empty l0 x5_1).toList == (rdOf ByteArray.empty l1 x5_1).toList) = false := beq_eq_false_iff_ne.mpr c7
                have c7b1 : ((rdOf ByteArray.empty l0 x5_1).toList != (rdOf ByteArray.empty l1 x5_1).toList) = true := bne_iff_ne.mpr c7
                obtain rfl := Option.some.inj H
                have p101 : 0 ≤ (x5_1 : Int) := of_decide_eq_true (by first | (with_reducible assumption) | assumption)
                have q101 : x5_1 < (l0.length : Int) := of_decide_eq_true (by first | (with_reducible assumption) | assumption)
                obtain ⟨ad101, e101, hx101_0⟩ := Kd.at_string HR0.out x5_1 p101 q101
                cases e101
                replace p101 := eq_true p101
                replace q101 := eq_true q101
                have p102 : 0 ≤ (x5_1 : Int) := of_decide_eq_true (by first | (with_reducible assumption) | assumption)
                have q102 : x5_1 < (l1.length : Int) := of_decide_eq_true (by first | (with_reducible assumption) | assumption)
                obtain ⟨ad102, e102, hx102_0⟩ := Kd.at_string HR1.out x5_1 p102 q102
                cases e102
                replace p102 := eq_true p102
                replace q102 := eq_true q102
                go_wp2
                repeat (go_quiet (fail); try go_wp2)
                go_ret
                exact ⟨by first | rfl | (simp; done) | (simp [*]; done) | (congr 2; generalize ByteArray.toList _ = l; cases l <;> rfl), by repeat (first | exact Drawn0.refl _ | apply Drawn0.step)⟩
            · rw [if_neg c6] at H
              exact absurd H (by simp)
          · rw [if_neg c5] at H
            exact absurd H (by simp)
        · rw [if_neg c4] at H
          have c4b0 : decide (x5_1 < (l0.length : Int)) = false := decide_eq_false c4
          clear c4
          obtain rfl := Option.some.inj H
          go_wp2
          repeat (go_quiet (fail); try go_wp2)
          go_ret
          exact ⟨by first | rfl | (simp; done) | (simp [*]; done) | (congr 2; generalize ByteArray.toList _ = l; cases l <;> rfl), by repeat (first | exact Drawn0.refl _ | apply Drawn0.step)⟩
  · rw [if_neg c3] at H
    have c3b0 : ((l0.length : Int) == (l1.length : Int)) = false := beq_eq_false_iff_ne.mpr c3
    have c3b1 : ((l0.length : Int) != (l1.length : Int)) = true := bne_iff_ne.mpr c3
    have c3b2 : (l0.length == l1.length) = false := by first | simpa using c3 | (simp at c3 ⊢; omega)
    obtain rfl := Option.some.inj H
    go_enter Tryd.func8, Tryd.ntmps8
    go_wp2
    repeat (go_quiet (fail); try go_wp2)
    go_ret
    exact ⟨by first | rfl | (simp; done) | (simp [*]; done) | (congr 2; generalize ByteArray.toList _ = l; cases l <;> rfl), by repeat (first | exact Drawn0.refl _ | apply Drawn0.step)⟩

/-! ### policy_Chain: function 9 -/
def policy_Chain.j0 : Nat → ByteArray → List ByteArray → ByteArray → Bool → Option (List ByteArray)
  | 0, _, _, _, _ => none
  | k + 1, x0, x3, x4, x13 => if x13 = true then (if x3.length < 8796093022208 then ((some (x3 ++ [x0] : List ByteArray)).bind fun y121 => (if y121.length < 8796093022208 then (some (y121 ++ [(⟨#[100, 101, 102, 97, 117, 108, 116, 45, 115, 114, 99]⟩ : ByteArray)])) else (none))) else (none)) else (if x4.toList = ([100, 101, 102, 97, 117, 108, 116, 45, 115, 114, 99] : List UInt8) then (if x3.length < 8796093022208 then (some (x3 ++ [x0])) else (none)) else (some x3))
def policy_Chain.f (k : Nat) (a0 : ByteArray) : Option (List ByteArray) := if a0.toList = ([115, 99, 114, 105, 112, 116, 45, 115, 114, 99, 45, 101, 108, 101, 109] : List UInt8) then (some (([a0, (⟨#[115, 99, 114, 105, 112, 116, 45, 115, 114, 99]⟩ : ByteArray), (⟨#[100, 101, 102, 97, 117, 108, 116, 45, 115, 114, 99]⟩ : ByteArray)] : List ByteArray))) else (if a0.toList = ([115, 116, 121, 108, 101, 45, 115, 114, 99, 45, 101, 108, 101, 109] : List UInt8) then (some (([a0, (⟨#[115, 116, 121, 108, 101, 45, 115, 114, 99]⟩ : ByteArray), (⟨#[100, 101, 102, 97, 117, 108, 116, 45, 115, 114, 99]⟩ : ByteArray)] : List ByteArray))) else (if a0.toList = ([119, 111, 114, 107, 101, 114, 45, 115, 114, 99] : List UInt8) then (some (([a0, (⟨#[99, 104, 105, 108, 100, 45, 115, 114, 99]⟩ : ByteArray), (⟨#[115, 99, 114, 105, 112, 116, 45, 115, 114, 99]⟩ : ByteArray), (⟨#[100, 101, 102, 97, 117, 108, 116, 45, 115, 114, 99]⟩ : ByteArray)] : List ByteArray))) else (if a0.toList = ([102, 114, 97, 109, 101, 45, 115, 114, 99] : List UInt8) then (if ([] : List ByteArray).length < 8796093022208 then ((some (([] : List ByteArray) ++ [a0] : List ByteArray)).bind fun y112 => (if y112.length < 8796093022208 then ((some (y112 ++ [(⟨#[99, 104, 105, 108, 100, 45, 115, 114, 99]⟩ : ByteArray)] : List ByteArray)).bind fun y115 => (if y115.length < 8796093022208 then (some (y115 ++ [(⟨#[100, 101, 102, 97, 117, 108, 116, 45, 115, 114, 99]⟩ : ByteArray)])) else (none))) else (none))) else (none)) else (if a0.toList = ([99, 111, 110, 110, 101, 99, 116, 45, 115, 114, 99] : List UInt8) then (policy_Chain.j0 k a0 ([] : List ByteArray) a0 (a0.toList == ([99, 111, 110, 110, 101, 99, 116, 45, 115, 114, 99] : List UInt8))) else (if a0.toList = ([102, 111, 110, 116, 45, 115, 114, 99] : List UInt8) then (policy_Chain.j0 k a0 ([] : List ByteArray) a0 (a0.toList == ([102, 111, 110, 116, 45, 115, 114, 99] : List UInt8))) else (if a0.toList = ([105, 109, 103, 45, 115, 114, 99] : List UInt8) then (policy_Chain.j0 k a0 ([] : List ByteArray) a0 (a0.toList == ([105, 109, 103, 45, 115, 114, 99] : List UInt8))) else (if a0.toList = ([109, 101, 100, 105, 97, 45, 115, 114, 99] : List UInt8) then (policy_Chain.j0 k a0 ([] : List ByteArray) a0 (a0.toList == ([109, 101, 100, 105, 97, 45, 115, 114, 99] : List UInt8))) else (if a0.toList = ([115, 99, 114, 105, 112, 116, 45, 115, 114, 99] : List UInt8) then (policy_Chain.j0 k a0 ([] : List ByteArray) a0 (a0.toList == ([115, 99, 114, 105, 112, 116, 45, 115, 114, 99] : List UInt8))) else (if a0.toList = ([115, 116, 121, 108, 101, 45, 115, 114, 99] : List UInt8) then (policy_Chain.j0 k a0 ([] : List ByteArray) a0 (a0.toList == ([115, 116, 121, 108, 101, 45, 115, 114, 99] : List UInt8))) else (if a0.toList = ([99, 104, 105, 108, 100, 45, 115, 114, 99] : List UInt8) then (policy_Chain.j0 k a0 ([] : List ByteArray) a0 (a0.toList == ([99, 104, 105, 108, 100, 45, 115, 114, 99] : List UInt8))) else (policy_Chain.j0 k a0 ([] : List ByteArray) a0 (a0.toList == ([111, 98, 106, 101, 99, 116, 45, 115, 114, 99] : List UInt8)))))))))))))
theorem policy_Chain.mono_l : ∀ k, (∀ y0 y1 y2 y3, LeO (policy_Chain.j0 k y0 y1 y2 y3) (policy_Chain.j0 (k + 1) y0 y1 y2 y3))
  | 0 => fun _ _ _ _ r h => by simp [policy_Chain.j0] at h
  | k + 1 => by
    have ih0 := policy_Chain.mono_l k
    · intro y0 y1 y2 y3
      unfold policy_Chain.j0
      repeat' first
      | (with_reducible exact ih0 _ _ _ _)
      | (with_reducible exact LeO.refl _)
      | (with_reducible exact LeO.none _)
      | (with_reducible refine LeO.ite ?_ ?_)
      | (with_reducible refine LeO.bind ?_ (fun _ => ?_))
      | exact ih0 _ _ _ _
      | exact LeO.none _
      | refine LeO.ite ?_ ?_
      | refine LeO.bind ?_ (fun _ => ?_)
theorem policy_Chain.mono : ∀ a0 k, LeO (policy_Chain.f k a0) (policy_Chain.f (k + 1) a0) := by
  intro a0 k
  have ih0 := policy_Chain.mono_l k
  unfold policy_Chain.f
  repeat' first
      | (with_reducible exact ih0 _ _ _ _)
      | (with_reducible exact LeO.refl _)
      | (with_reducible exact LeO.none _)
      | (with_reducible refine LeO.ite ?_ ?_)
      | (with_reducible refine LeO.bind ?_ (fun _ => ?_))
      | exact ih0 _ _ _ _
      | exact LeO.none _
      | refine LeO.ite ?_ ?_
      | refine LeO.bind ?_ (fun _ => ?_)
set_option maxHeartbeats 8000000 in
set_option maxRecDepth 100000 in
theorem policy_Chain.calls (k : Nat) (a0 : ByteArray) (r : List ByteArray) (w : World) (h : policy_Chain.f k a0 = some r) :
    Calls Tryd.prog 9 #[.string a0] w fun e w' => ∃ v0_ : Value, e = .returned (v0_) ∧ Kd.R Kd.string 9 w' w.heap.size (fun _ => True) v0_ r ∧ Below w.heap.size w w' := by
  have HB := Am (Below.refl w.heap.size w)
  have H : (if a0.toList = ([115, 99, 114, 105, 112, 116, 45, 115, 114, 99, 45, 101, 108, 101, 109] : List UInt8) then (some (([a0, (⟨#[115, 99, 114, 105, 112, 116, 45, 115, 114, 99]⟩ : ByteArray), (⟨#[100, 101, 102, 97, 117, 108, 116, 45, 115, 114, 99]⟩ : ByteArray)] : List ByteArray))) else (if a0.toList = ([115, 116, 121, 108, 101, 45, 115, 114, 99, 45, 101, 108, 101, 109] : List UInt8) then (some (([a0, (⟨#[115, 116, 121, 108, 101, 45, 115, 114, 99]⟩ : ByteArray), (⟨#[100, 101, 102, 97, 117, 108, 116, 45, 115, 114, 99]⟩ : ByteArray)] : List ByteArray))) else (if a0.toList = ([119, 111, 114, 107, 101, 114, 45, 115, 114, 99] : List UInt8) then (some (([a0, (⟨#[99, 104, 105, 108, 100, 45, 115, 114, 99]⟩ : ByteArray), (⟨#[115, 99, 114, 105, 112, 116, 45, 115, 114, 99]⟩ : ByteArray), (⟨#[100, 101, 102, 97, 117, 108, 116, 45, 115, 114, 99]⟩ : ByteArray)] : List ByteArray))) else (if a0.toList = ([102, 114, 97, 109, 101, 45, 115, 114, 99] : List UInt8) then (if ([] : List ByteArray).length < 8796093022208 then ((some (([] : List ByteArray) ++ [a0] : List ByteArray)).bind fun y112 => (if y112.length < 8796093022208 then ((some (y112 ++ [(⟨#[99, 104, 105, 108, 100, 45, 115, 114, 99]⟩ : ByteArray)] : List ByteArray)).bind fun y115 => (if y115.length < 8796093022208 then (some (y115 ++ [(⟨#[100, 101, 102, 97, 117, 108, 116, 45, 115, 114, 99]⟩ : ByteArray)])) else (none))) else (none))) else (none)) else (if a0.toList = ([99, 111, 110, 110, 101, 99, 116, 45, 115, 114, 99] : List UInt8) then (policy_Chain.j0 k a0 ([] : List ByteArray) a0 (a0.toList == ([99, 111, 110, 110, 101, 99, 116, 45, 115, 114, 99] : List UInt8))) else (if a0.toList = ([102, 111, 110, 116, 45, 115, 114, 99] : List UInt8) then (policy_Chain.j0 k a0 ([] : List ByteArray) a0 (a0.toList == ([102, 111, 110, 116, 45, 115, 114, 99] : List UInt8))) else (if a0.toList = ([105, 109, 103, 45, 115, 114, 99] : List UInt8) then (policy_Chain.j0 k a0 ([] : List ByteArray) a0 (a0.toList == ([105, 109, 103, 45, 115, 114, 99] : List UInt8))) else (if a0.toList = ([109, 101, 100, 105, 97, 45, 115, 114, 99] : List UInt8) then (policy_Chain.j0 k a0 ([] : List ByteArray) a0 (a0.toList == ([109, 101, 100, 105, 97, 45, 115, 114, 99] : List UInt8))) else (if a0.toList = ([115, 99, 114, 105, 112, 116, 45, 115, 114, 99] : List UInt8) then (policy_Chain.j0 k a0 ([] : List ByteArray) a0 (a0.toList == ([115, 99, 114, 105, 112, 116, 45, 115, 114, 99] : List UInt8))) else (if a0.toList = ([115, 116, 121, 108, 101, 45, 115, 114, 99] : List UInt8) then (policy_Chain.j0 k a0 ([] : List ByteArray) a0 (a0.toList == ([115, 116, 121, 108, 101, 45, 115, 114, 99] : List UInt8))) else (if a0.toList = ([99, 104, 105, 108, 100, 45, 115, 114, 99] : List UInt8) then (policy_Chain.j0 k a0 ([] : List ByteArray) a0 (a0.toList == ([99, 104, 105, 108, 100, 45, 115, 114, 99] : List UInt8))) else (policy_Chain.j0 k a0 ([] : List ByteArray) a0 (a0.toList == ([111, 98, 106, 101, 99, 116, 45, 115, 114, 99] : List UInt8)))))))))))))) = some r := h
  clear h
  by_cases c2 : a0.toList = ([115, 99, 114, 105, 112, 116, 45, 115, 114, 99, 45, 101, 108, 101, 109] : List UInt8)
  · rw [if_pos c2] at H
    have c2b0 : (a0.toList == ([115, 99, 114, 105, 112, 116, 45, 115, 114, 99, 45, 101, 108, 101, 109] : List UInt8)) = true := beq_iff_eq.mpr c2
    have c2b1 : (a0.toList != ([115, 99, 114, 105, 112, 116, 45, 115, 114, 99, 45, 101, 108, 101, 109] : List UInt8)) = false := bne_eq_false_iff_eq.mpr c2
    clear c2
    obtain ⟨y103, hy103⟩ : ∃ y_ : List ByteArray, y_ = (([a0, (⟨#[115, 99, 114, 105, 112, 116, 45, 115, 114, 99]⟩ : ByteArray), (⟨#[100, 101, 102, 97, 117, 108, 116, 45, 115, 114, 99]⟩ : ByteArray)] : List ByteArray)) := ⟨_, rfl⟩
    replace H : (some y103) = some r := by first | (rw [hy103]; with_reducible exact H) | (have H2_ := (Option.bind_some _ _).symm.trans H; rw [hy103]; with_reducible exact H2_) | (have H2_ := (Option.bind_some _ _).symm.trans H; with_reducible exact H2_) | with_reducible exact H | (rw [hy103]; exact H) | exact H
    have Ny103 := Aside0.mk hy103
    clear hy103
    obtain rfl := Option.some.inj H
    go_enter Tryd.func9, Tryd.ntmps9
    go_wp2_with (first | ((with_reducible refine gate_dst (N := 25) rfl ?_); refine Kd.R_lit Kd.string _ 9 ?hg (N := 25) ?hd (xs := ([a0, (⟨#[115, 99, 114, 105, 112, 116, 45, 115, 114, 99]⟩ : ByteArray), (⟨#[100, 101, 102, 97, 117, 108, 116, 45, 115, 114, 99]⟩ : ByteArray)] : List ByteArray)) (inner := [.string a0, .string (⟨#[115, 99, 114, 105, 112, 116, 45, 115, 114, 99]⟩ : ByteArray), .string (⟨#[100, 101, 102, 97, 117, 108, 116, 45, 115, 114, 99]⟩ : ByteArray)]) (ok := fun _ => True) (okp := fun _ => True) ?hr ?hp (fun _ hk => hk) trivial (Below.refl _ _) (Nat.le_refl _) (by simp) ?_; ((case hd => rfl); (case hg => rfl); (case hr => first | (go_simp; done) | (go_simp; rfl))); (case hp => exact (Reps.one (show Kd.M Kd.string _ _ _ a0 [.string a0] from rfl) (Reps.one (show Kd.M Kd.string _ _ _ (⟨#[115, 99, 114, 105, 112, 116, 45, 115, 114, 99]⟩ : ByteArray) [.string (⟨#[115, 99, 114, 105, 112, 116, 45, 115, 114, 99]⟩ : ByteArray)] from rfl) (Reps.one (show Kd.M Kd.string _ _ _ (⟨#[100, 101, 102, 97, 117, 108, 116, 45, 115, 114, 99]⟩ : ByteArray) [.string (⟨#[100, 101, 102, 97, 117, 108, 116, 45, 115, 114, 99]⟩ : ByteArray)] from rfl) (Reps.none _ _))))); intro v104 w3 ho4 hb hg_ hnew_; clear hg_ hnew_; (first | rw [← Ny103.out] at ho4 | (simp only [Int.reduceToNat] at ho4; rw [← Ny103.out] at ho4)); have n0_ := Am (Kd.R_lower ho4 (below_size (by (repeat (first | (with_reducible first | exact HB.out | apply below_alloc | apply pw_below_drewN | apply below_drew1) | exact HB.out))))); have n1_ := Am (below_step (by (repeat (first | (with_reducible first | exact HB.out | apply below_alloc | apply pw_below_drewN | apply below_drew1) | exact HB.out))) hb); clear HB; have HO105 := n0_; have HB := n1_; clear n0_ n1_; clear hb ho4))
    go_ret
    exact ⟨_, by (first | rfl | (simp [errW_none, errW_some] <;> rfl) | (simp [*, errW_none, errW_some] <;> rfl)), by (with_reducible repeat (first | apply Kd.R_alloc | apply Kd.R_drewN | apply Kd.R_drew)); exact HO105.out, by (repeat (first | (with_reducible first | exact HB.out | apply below_alloc | apply pw_below_drewN | apply below_drew1) | exact HB.out))⟩
  · rw [if_neg c2] at H
    have c2b0 : (a0.toList == ([115, 99, 114, 105, 112, 116, 45, 115, 114, 99, 45, 101, 108, 101, 109] : List UInt8)) = false := beq_eq_false_iff_ne.mpr c2
    have c2b1 : (a0.toList != ([115, 99, 114, 105, 112, 116, 45, 115, 114, 99, 45, 101, 108, 101, 109] : List UInt8)) = true := bne_iff_ne.mpr c2
    by_cases c5 : a0.toList = ([115, 116, 121, 108, 101, 45, 115, 114, 99, 45, 101, 108, 101, 109] : List UInt8)
    · rw [if_pos c5] at H
      have c5b0 : (a0.toList == ([115, 116, 121, 108, 101, 45, 115, 114, 99, 45, 101, 108, 101, 109] : List UInt8)) = true := beq_iff_eq.mpr c5
      have c5b1 : (a0.toList != ([115, 116, 121, 108, 101, 45, 115, 114, 99, 45, 101, 108, 101, 109] : List UInt8)) = false := bne_eq_false_iff_eq.mpr c5
      clear c5
      obtain ⟨y106, hy106⟩ : ∃ y_ : List ByteArray, y_ = (([a0, (⟨#[115, 116, 121, 108, 101, 45, 115, 114, 99]⟩ : ByteArray), (⟨#[100, 101, 102, 97, 117, 108, 116, 45, 115, 114, 99]⟩ : ByteArray)] : List ByteArray)) := ⟨_, rfl⟩
      replace H : (some y106) = some r := by first | (rw [hy106]; with_reducible exact H) | (have H2_ := (Option.bind_some _ _).symm.trans H; rw [hy106]; with_reducible exact H2_) | (have H2_ := (Option.bind_some _ _).symm.trans H; with_reducible exact H2_) | with_reducible exact H | (rw [hy106]; exact H) | exact H
      have Ny106 := Aside0.mk hy106
      clear hy106
      obtain rfl := Option.some.inj H
      go_enter Tryd.func9, Tryd.ntmps9
      go_wp2_with (first | ((with_reducible refine gate_dst (N := 27) rfl ?_); refine Kd.R_lit Kd.string _ 9 ?hg (N := 27) ?hd (xs := ([a0, (⟨#[115, 116, 121, 108, 101, 45, 115, 114, 99]⟩ : ByteArray), (⟨#[100, 101, 102, 97, 117, 108, 116, 45, 115, 114, 99]⟩ : ByteArray)] : List ByteArray)) (inner := [.string a0, .string (⟨#[115, 116, 121, 108, 101, 45, 115, 114, 99]⟩ : ByteArray), .string (⟨#[100, 101, 102, 97, 117, 108, 116, 45, 115, 114, 99]⟩ : ByteArray)]) (ok := fun _ => True) (okp := fun _ => True) ?hr ?hp (fun _ hk => hk) trivial (Below.refl _ _) (Nat.le_refl _) (by simp) ?_; ((case hd => rfl); (case hg => rfl); (case hr => first | (go_simp; done) | (go_simp; rfl))); (case hp => exact (Reps.one (show Kd.M Kd.string _ _ _ a0 [.string a0] from rfl) (Reps.one (show Kd.M Kd.string _ _ _ (⟨#[115, 116, 121, 108, 101, 45, 115, 114, 99]⟩ : ByteArray) [.string (⟨#[115, 116, 121, 108, 101, 45, 115, 114, 99]⟩ : ByteArray)] from rfl) (Reps.one (show Kd.M Kd.string _ _ _ (⟨#[100, 101, 102, 97, 117, 108, 116, 45, 115, 114, 99]⟩ : ByteArray) [.string (⟨#[100, 101, 102, 97, 117, 108, 116, 45, 115, 114, 99]⟩ : ByteArray)] from rfl) (Reps.none _ _))))); intro v107 w6 ho7 hb hg_ hnew_; clear hg_ hnew_; (first | rw [← Ny106.out] at ho7 | (simp only [Int.reduceToNat] at ho7; rw [← Ny106.out] at ho7)); have n0_ := Am (Kd.R_lower ho7 (below_size (by (repeat (first | (with_reducible first | exact HB.out | apply below_alloc | apply pw_below_drewN | apply below_drew1) | exact HB.out))))); have n1_ := Am (below_step (by (repeat (first | (with_reducible first | exact HB.out | apply below_alloc | apply pw_below_drewN | apply below_drew1) | exact HB.out))) hb); clear HB; have HO108 := n0_; have HB := n1_; clear n0_ n1_; clear hb ho7))
      go_ret
      exact ⟨_, by (first | rfl | (simp [errW_none, errW_some] <;> rfl) | (simp [*, errW_none, errW_some] <;> rfl)), by (with_reducible repeat (first | apply Kd.R_alloc | apply Kd.R_drewN | apply Kd.R_drew)); exact HO108.out, by (repeat (first | (with_reducible first | exact HB.out | apply below_alloc | apply pw_below_drewN | apply below_drew1) | exact HB.out))⟩
    · rw [if_neg c5] at H
      have c5b0 : (a0.toList == ([115, 116, 121, 108, 101, 45, 115, 114, 99, 45, 101, 108, 101, 109] : List UInt8)) = false := beq_eq_false_iff_ne.mpr c5
      have c5b1 : (a0.toList != ([115, 116, 121, 108, 101, 45, 115, 114, 99, 45, 101, 108, 101, 109] : List UInt8)) = true := bne_iff_ne.mpr c5
      by_cases c8 : a0.toList = ([119, 111, 114, 107, 101, 114, 45, 115, 114, 99] : List UInt8)
      · rw [if_pos c8] at H
        have c8b0 : (a0.toList == ([119, 111, 114, 107, 101, 114, 45, 115, 114, 99] : List UInt8)) = true := beq_iff_eq.mpr c8
        have c8b1 : (a0.toList != ([119, 111, 114, 107, 101, 114, 45, 115, 114, 99] : List UInt8)) = false := bne_eq_false_iff_eq.mpr c8
        clear c8
        obtain ⟨y109, hy109⟩ : ∃ y_ : List ByteArray, y_ = (([a0, (⟨#[99, 104, 105, 108, 100, 45, 115, 114, 99]⟩ : ByteArray), (⟨#[115, 99, 114, 105, 112, 116, 45, 115, 114, 99]⟩ : ByteArray), (⟨#[100, 101, 102, 97, 117, 108, 116, 45, 115, 114, 99]⟩ : ByteArray)] : List ByteArray)) := ⟨_, rfl⟩
        replace H : (some y109) = some r := by first | (rw [hy109]; with_reducible exact H) | (have H2_ := (Option.bind_some _ _).symm.trans H; rw [hy109]; with_reducible exact H2_) | (have H2_ := (Option.bind_some _ _).symm.trans H; with_reducible exact H2_) | with_reducible exact H | (rw [hy109]; exact H) | exact H
        have Ny109 := Aside0.mk hy109
        clear hy109
        obtain rfl := Option.some.inj H
        go_enter Tryd.func9, Tryd.ntmps9
        go_wp2_with (first | ((with_reducible refine gate_dst (N := 29) rfl ?_); refine Kd.R_lit Kd.string _ 9 ?hg (N := 29) ?hd (xs := ([a0, (⟨#[99, 104, 105, 108, 100, 45, 115, 114, 99]⟩ : ByteArray), (⟨#[115, 99, 114, 105, 112, 116, 45, 115, 114, 99]⟩ : ByteArray), (⟨#[100, 101, 102, 97, 117, 108, 116, 45, 115, 114, 99]⟩ : ByteArray)] : List ByteArray)) (inner := [.string a0, .string (⟨#[99, 104, 105, 108, 100, 45, 115, 114, 99]⟩ : ByteArray), .string (⟨#[115, 99, 114, 105, 112, 116, 45, 115, 114, 99]⟩ : ByteArray), .string (⟨#[100, 101, 102, 97, 117, 108, 116, 45, 115, 114, 99]⟩ : ByteArray)]) (ok := fun _ => True) (okp := fun _ => True) ?hr ?hp (fun _ hk => hk) trivial (Below.refl _ _) (Nat.le_refl _) (by simp) ?_; ((case hd => rfl); (case hg => rfl); (case hr => first | (go_simp; done) | (go_simp; rfl))); (case hp => exact (Reps.one (show Kd.M Kd.string _ _ _ a0 [.string a0] from rfl) (Reps.one (show Kd.M Kd.string _ _ _ (⟨#[99, 104, 105, 108, 100, 45, 115, 114, 99]⟩ : ByteArray) [.string (⟨#[99, 104, 105, 108, 100, 45, 115, 114, 99]⟩ : ByteArray)] from rfl) (Reps.one (show Kd.M Kd.string _ _ _ (⟨#[115, 99, 114, 105, 112, 116, 45, 115, 114, 99]⟩ : ByteArray) [.string (⟨#[115, 99, 114, 105, 112, 116, 45, 115, 114, 99]⟩ : ByteArray)] from rfl) (Reps.one (show Kd.M Kd.string _ _ _ (⟨#[100, 101, 102, 97, 117, 108, 116, 45, 115, 114, 99]⟩ : ByteArray) [.string (⟨#[100, 101, 102, 97, 117, 108, 116, 45, 115, 114, 99]⟩ : ByteArray)] from rfl) (Reps.none _ _)))))); intro v110 w9 ho10 hb hg_ hnew_; clear hg_ hnew_; (first | rw [← Ny109.out] at ho10 | (simp only [Int.reduceToNat] at ho10; rw [← Ny109.out] at ho10)); have n0_ := Am (Kd.R_lower ho10 (below_size (by (repeat (first | (with_reducible first | exact HB.out | apply below_alloc | apply pw_below_drewN | apply below_drew1) | exact HB.out))))); have n1_ := Am (below_step (by (repeat (first | (with_reducible first | exact HB.out | apply below_alloc | apply pw_below_drewN | apply below_drew1) | exact HB.out))) hb); clear HB; have HO111 := n0_; have HB := n1_; clear n0_ n1_; clear hb ho10))
        go_ret
        exact ⟨_, by (first | rfl | (simp [errW_none, errW_some] <;> rfl) | (simp [*, errW_none, errW_some] <;> rfl)), by (with_reducible repeat (first | apply Kd.R_alloc | apply Kd.R_drewN | apply Kd.R_drew)); exact HO111.out, by (repeat (first | (with_reducible first | exact HB.out | apply below_alloc | apply pw_below_drewN | apply below_drew1) | exact HB.out))⟩
      · rw [if_neg c8] at H
        have c8b0 : (a0.toList == ([119, 111, 114, 107, 101, 114, 45, 115, 114, 99] : List UInt8)) = false := beq_eq_false_iff_ne.mpr c8
        have c8b1 : (a0.toList != ([119, 111, 114, 107, 101, 114, 45, 115, 114, 99] : List UInt8)) = true := bne_iff_ne.mpr c8
        by_cases c11 : a0.toList = ([102, 114, 97, 109, 101, 45, 115, 114, 99] : List UInt8)
        · rw [if_pos c11] at H
          have c11b0 : (a0.toList == ([102, 114, 97, 109, 101, 45, 115, 114, 99] : List UInt8)) = true := beq_iff_eq.mpr c11
          have c11b1 : (a0.toList != ([102, 114, 97, 109, 101, 45, 115, 114, 99] : List UInt8)) = false := bne_eq_false_iff_eq.mpr c11
          clear c11
          by_cases c12 : ([] : List ByteArray).length < 8796093022208
          · rw [if_pos c12] at H
            have LMc12 := Aside0.mk c12
            clear c12
            obtain ⟨y112, hy112⟩ : ∃ y_ : List ByteArray, y_ = (([] : List ByteArray) ++ [a0]) := ⟨_, rfl⟩
            replace H : (if y112.length < 8796093022208 then ((some (y112 ++ [(⟨#[99, 104, 105, 108, 100, 45, 115, 114, 99]⟩ : ByteArray)] : List ByteArray)).bind fun y115 => (if y115.length < 8796093022208 then (some (y115 ++ [(⟨#[100, 101, 102, 97, 117, 108, 116, 45, 115, 114, 99]⟩ : ByteArray)])) else (none))) else (none)) = some r := by first | (rw [hy112]; with_reducible exact H) | (have H2_ := (Option.bind_some _ _).symm.trans H; rw [hy112]; with_reducible exact H2_) | (have H2_ := (Option.bind_some _ _).symm.trans H; with_reducible exact H2_) | with_reducible exact H | (rw [hy112]; exact H) | exact H
            have Ny112 := Aside0.mk hy112
            clear hy112
            by_cases c13 : y112.length < 8796093022208
            · rw [if_pos c13] at H
              have LMc13 := Aside0.mk c13
              clear c13
              obtain ⟨y115, hy115⟩ : ∃ y_ : List ByteArray, y_ = (y112 ++ [(⟨#[99, 104, 105, 108, 100, 45, 115, 114, 99]⟩ : ByteArray)]) := ⟨_, rfl⟩
              replace H : (if y115.length < 8796093022208 then (some (y115 ++ [(⟨#[100, 101, 102, 97, 117, 108, 116, 45, 115, 114, 99]⟩ : ByteArray)])) else (none)) = some r := by first | (rw [hy115]; with_reducible exact H) | (have H2_ := (Option.bind_some _ _).symm.trans H; rw [hy115]; with_reducible exact H2_) | (have H2_ := (Option.bind_some _ _).symm.trans H; with_reducible exact H2_) | with_reducible exact H | (rw [hy115]; exact H) | exact H
              have Ny115 := Aside0.mk hy115
              clear hy115
              by_cases c14 : y115.length < 8796093022208
              · rw [if_pos c14] at H
                have LMc14 := Aside0.mk c14
                clear c14
                obtain ⟨y118, hy118⟩ : ∃ y_ : List ByteArray, y_ = (y115 ++ [(⟨#[100, 101, 102, 97, 117, 108, 116, 45, 115, 114, 99]⟩ : ByteArray)]) := ⟨_, rfl⟩
                replace H : (some y118) = some r := by first | (rw [hy118]; with_reducible exact H) | (have H2_ := (Option.bind_some _ _).symm.trans H; rw [hy118]; with_reducible exact H2_) | (have H2_ := (Option.bind_some _ _).symm.trans H; with_reducible exact H2_) | with_reducible exact H | (rw [hy118]; exact H) | exact H
                have Ny118 := Aside0.mk hy118
                clear hy118
                obtain rfl := Option.some.inj H
                go_enter Tryd.func9, Tryd.ntmps9
                go_wp2_with (first | ((with_reducible refine gate_builtin (b := .append) (xs := #[.tmp 30, .tmp 32]) rfl ?_); at_builtin; refine Kd.R_append Kd.string (w0 := w) w.heap.size rfl (.tmp 30) (.tmp 32) 22 9 (.string ⟨#[]⟩) 16 rfl Tryd.underlying22 info9 rfl (by decide) (by omega) (.slice none 0 0) ([] : List ByteArray) a0 [.string a0] (fun _ => True) (fun _ => False) rfl rfl ?aP (fun _ hk => hk.elim) ?aF ?aO ?aB ?aS ?aL ?_; (case aP => exact rfl); (case aB => exact (by (repeat (first | (with_reducible first | exact HB.out | apply below_alloc | apply pw_below_drewN | apply below_drew1) | exact HB.out)))); (case aF => exact (fun _ _ => trivial)); (case aO => exact ((Kd.R_nil _ _ _ _ (fun _ => True)))); (case aS => exact (below_size (by (repeat (first | (with_reducible first | exact HB.out | apply below_alloc | apply pw_below_drewN | apply below_drew1) | exact HB.out))))); (case aL => have := LMc12.out; omega); intro v113 w15 ho hb hg hat; rw [← Ny112.out] at ho; have n0_ := Am (hb); have n1_ := Am (ho); clear HB; have HB := n0_; have HO114 := n1_; clear n0_ n1_; clear ho hb hg hat) | ((with_reducible refine gate_builtin (b := .append) (xs := #[.tmp 34, .tmp 36]) rfl ?_); at_builtin; refine Kd.R_append Kd.string (w0 := w) w.heap.size rfl (.tmp 34) (.tmp 36) 22 9 (.string ⟨#[]⟩) 16 rfl Tryd.underlying22 info9 rfl (by decide) (by omega) v113 y112 (⟨#[99, 104, 105, 108, 100, 45, 115, 114, 99]⟩ : ByteArray) [.string (⟨#[99, 104, 105, 108, 100, 45, 115, 114, 99]⟩ : ByteArray)] (fun _ => True) (fun _ => False) rfl rfl ?aP (fun _ hk => hk.elim) ?aF ?aO ?aB ?aS ?aL ?_; (case aP => exact rfl); (case aB => exact (by (repeat (first | (with_reducible first | exact HB.out | apply below_alloc | apply pw_below_drewN | apply below_drew1) | exact HB.out)))); (case aF => exact (fun _ _ => trivial)); (case aO => exact (by (with_reducible repeat (first | apply Kd.R_alloc | apply Kd.R_drewN | apply Kd.R_drew)); exact HO114.out)); (case aS => exact (below_size (by (repeat (first | (with_reducible first | exact HB.out | apply below_alloc | apply pw_below_drewN | apply below_drew1) | exact HB.out))))); (case aL => have := LMc13.out; omega); intro v116 w16 ho hb hg hat; rw [← Ny115.out] at ho; have n0_ := Am (hb); have n1_ := Am (ho); clear HB; clear HO114; have HB := n0_; have HO117 := n1_; clear n0_ n1_; clear ho hb hg hat) | ((with_reducible refine gate_builtin (b := .append) (xs := #[.tmp 38, .tmp 40]) rfl ?_); at_builtin; refine Kd.R_append Kd.string (w0 := w) w.heap.size rfl (.tmp 38) (.tmp 40) 22 9 (.string ⟨#[]⟩) 16 rfl Tryd.underlying22 info9 rfl (by decide) (by omega) v116 y115 (⟨#[100, 101, 102, 97, 117, 108, 116, 45, 115, 114, 99]⟩ : ByteArray) [.string (⟨#[100, 101, 102, 97, 117, 108, 116, 45, 115, 114, 99]⟩ : ByteArray)] (fun _ => True) (fun _ => False) rfl rfl ?aP (fun _ hk => hk.elim) ?aF ?aO ?aB ?aS ?aL ?_; (case aP => exact rfl); (case aB => exact (by (repeat (first | (with_reducible first | exact HB.out | apply below_alloc | apply pw_below_drewN | apply below_drew1) | exact HB.out)))); (case aF => exact (fun _ _ => trivial)); (case aO => exact (by (with_reducible repeat (first | apply Kd.R_alloc | apply Kd.R_drewN | apply Kd.R_drew)); exact HO117.out)); (case aS => exact (below_size (by (repeat (first | (with_reducible first | exact HB.out | apply below_alloc | apply pw_below_drewN | apply below_drew1) | exact HB.out))))); (case aL => have := LMc14.out; omega); intro v119 w17 ho hb hg hat; rw [← Ny118.out] at ho; have n0_ := Am (hb); have n1_ := Am (ho); clear HB; clear HO117; have HB := n0_; have HO120 := n1_; clear n0_ n1_; clear ho hb hg hat))
                go_ret
                exact ⟨_, by (first | rfl | (simp [errW_none, errW_some] <;> rfl) | (simp [*, errW_none, errW_some] <;> rfl)), by (with_reducible repeat (first | apply Kd.R_alloc | apply Kd.R_drewN | apply Kd.R_drew)); exact HO120.out, by (repeat (first | (with_reducible first | exact HB.out | apply below_alloc | apply pw_below_drewN | apply below_drew1) | exact HB.out))⟩
              · rw [if_neg c14] at H
                exact absurd H (by simp)
            · rw [if_neg c13] at H
              exact absurd H (by simp)
          · rw [if_neg c12] at H
            exact absurd H (by simp)
        · rw [if_neg c11] at H
          have c11b0 : (a0.toList == ([102, 114, 97, 109, 101, 45, 115, 114, 99] : List UInt8)) = false := beq_eq_false_iff_ne.mpr c11
          have c11b1 : (a0.toList != ([102, 114, 97, 109, 101, 45, 115, 114, 99] : List UInt8)) = true := bne_iff_ne.mpr c11
          have HC18 := Aside0.mk H
          clear H
          go_enter Tryd.func9, Tryd.ntmps9
          go_upto_if 13 with (fail)
          go_cut [13] (fun v13 wc => ∃ (kq : Nat) (x13_17 : Bool), v13 = .bool x13_17 ∧ Aside0 (policy_Chain.j0 kq a0 ([] : List ByteArray) a0 x13_17 = some r) ∧ Aside0 (kq ≤ k) ∧ Aside0 (Kd.R Kd.string 9 wc w.heap.size (fun _ => True) (.slice none 0 0) ([] : List ByteArray)) ∧ Aside0 (Below w.heap.size w wc))
          case first =>
            have H := HC18.out
            clear HC18
            by_cases c19 : a0.toList = ([99, 111, 110, 110, 101, 99, 116, 45, 115, 114, 99] : List UInt8)
            · rw [if_pos c19] at H
              have c19b0 : (a0.toList == ([99, 111, 110, 110, 101, 99, 116, 45, 115, 114, 99] : List UInt8)) = true := beq_iff_eq.mpr c19
              have c19b1 : (a0.toList != ([99, 111, 110, 110, 101, 99, 116, 45, 115, 114, 99] : List UInt8)) = false := bne_eq_false_iff_eq.mpr c19
              clear c19
              (first | rw [c19b0] | (simp only [i64_w, i32_w]; rw [c19b0]) | skip)
              have H' := Aside0.mk H
              clear H
              go_wp2
              go_meet
              case rel => exact ⟨_, ((a0.toList == ([99, 111, 110, 110, 101, 99, 116, 45, 115, 114, 99] : List UInt8))), (by first | rfl | (simp; done) | (simp [*]; done)), H', ⟨by first | omega | exact Nat.le_refl _⟩, ⟨by first | exact Kd.R_nil _ _ _ _ _ | exact Kd.N_nil _ _ _ _ _ | exact Kd.V_nil _ _ _ _ _ | exact Kd.Q_nil _ _ _ _ _ | exact Kd.S_nil _ _ _ _ _⟩, ⟨by (repeat (first | (with_reducible first | exact HB.out | apply below_alloc | apply pw_below_drewN | apply below_drew1) | exact HB.out))⟩⟩
            · rw [if_neg c19] at H
              have c19b0 : (a0.toList == ([99, 111, 110, 110, 101, 99, 116, 45, 115, 114, 99] : List UInt8)) = false := beq_eq_false_iff_ne.mpr c19
              have c19b1 : (a0.toList != ([99, 111, 110, 110, 101, 99, 116, 45, 115, 114, 99] : List UInt8)) = true := bne_iff_ne.mpr c19
              (first | rw [c19b0] | (simp only [i64_w, i32_w]; rw [c19b0]) | skip)
              by_cases c20 : a0.toList = ([102, 111, 110, 116, 45, 115, 114, 99] : List UInt8)
              · rw [if_pos c20] at H
                have c20b0 : (a0.toList == ([102, 111, 110, 116, 45, 115, 114, 99] : List UInt8)) = true := beq_iff_eq.mpr c20
                have c20b1 : (a0.toList != ([102, 111, 110, 116, 45, 115, 114, 99] : List UInt8)) = false := bne_eq_false_iff_eq.mpr c20
                clear c20
                have H' := Aside0.mk H
                clear H
                go_wp2
                go_meet
                case rel => exact ⟨_, ((a0.toList == ([102, 111, 110, 116, 45, 115, 114, 99] : List UInt8))), (by first | rfl | (simp; done) | (simp [*]; done)), H', ⟨by first | omega | exact Nat.le_refl _⟩, ⟨by first | exact Kd.R_nil _ _ _ _ _ | exact Kd.N_nil _ _ _ _ _ | exact Kd.V_nil _ _ _ _ _ | exact Kd.Q_nil _ _ _ _ _ | exact Kd.S_nil _ _ _ _ _⟩, ⟨by (repeat (first | (with_reducible first | exact HB.out | apply below_alloc | apply pw_below_drewN | apply below_drew1) | exact HB.out))⟩⟩
              · rw [if_neg c20] at H
                have c20b0 : (a0.toList == ([102, 111, 110, 116, 45, 115, 114, 99] : List UInt8)) = false := beq_eq_false_iff_ne.mpr c20
                have c20b1 : (a0.toList != ([102, 111, 110, 116, 45, 115, 114, 99] : List UInt8)) = true := bne_iff_ne.mpr c20
                by_cases c21 : a0.toList = ([105, 109, 103, 45, 115, 114, 99] : List UInt8)
                · rw [if_pos c21] at H
                  have c21b0 : (a0.toList == ([105, 109, 103, 45, 115, 114, 99] : List UInt8)) = true := beq_iff_eq.mpr c21
                  have c21b1 : (a0.toList != ([105, 109, 103, 45, 115, 114, 99] : List UInt8)) = false := bne_eq_false_iff_eq.mpr c21
                  clear c21
                  have H' := Aside0.mk H
                  clear H
                  go_wp2
                  go_meet
                  case rel => exact ⟨_, ((a0.toList == ([105, 109, 103, 45, 115, 114, 99] : List UInt8))), (by first | rfl | (simp; done) | (simp [*]; done)), H', ⟨by first | omega | exact Nat.le_refl _⟩, ⟨by first | exact Kd.R_nil _ _ _ _ _ | exact Kd.N_nil _ _ _ _ _ | exact Kd.V_nil _ _ _ _ _ | exact Kd.Q_nil _ _ _ _ _ | exact Kd.S_nil _ _ _ _ _⟩, ⟨by (repeat (first | (with_reducible first | exact HB.out | apply below_alloc | apply pw_below_drewN | apply below_drew1) | exact HB.out))⟩⟩
                · rw [if_neg c21] at H
                  have c21b0 : (a0.toList == ([105, 109, 103, 45, 115, 114, 99] : List UInt8)) = false := beq_eq_false_iff_ne.mpr c21
                  have c21b1 : (a0.toList != ([105, 109, 103, 45, 115, 114, 99] : List UInt8)) = true := bne_iff_ne.mpr c21
                  by_cases c22 : a0.toList = ([109, 101, 100, 105, 97, 45, 115, 114, 99] : List UInt8)
                  · rw [if_pos c22] at H
                    have c22b0 : (a0.toList == ([109, 101, 100, 105, 97, 45, 115, 114, 99] : List UInt8)) = true := beq_iff_eq.mpr c22
                    have c22b1 : (a0.toList != ([109, 101, 100, 105, 97, 45, 115, 114, 99] : List UInt8)) = false := bne_eq_false_iff_eq.mpr c22
                    clear c22
                    have H' := Aside0.mk H
                    clear H
                    go_wp2
                    go_meet
                    case rel => exact ⟨_, ((a0.toList == ([109, 101, 100, 105, 97, 45, 115, 114, 99] : List UInt8))), (by first | rfl | (simp; done) | (simp [*]; done)), H', ⟨by first | omega | exact Nat.le_refl _⟩, ⟨by first | exact Kd.R_nil _ _ _ _ _ | exact Kd.N_nil _ _ _ _ _ | exact Kd.V_nil _ _ _ _ _ | exact Kd.Q_nil _ _ _ _ _ | exact Kd.S_nil _ _ _ _ _⟩, ⟨by (repeat (first | (with_reducible first | exact HB.out | apply below_alloc | apply pw_below_drewN | apply below_drew1) | exact HB.out))⟩⟩
                  · rw [if_neg c22] at H
                    have c22b0 : (a0.toList == ([109, 101, 100, 105, 97, 45, 115, 114, 99] : List UInt8)) = false := beq_eq_false_iff_ne.mpr c22
                    have c22b1 : (a0.toList != ([109, 101, 100, 105, 97, 45, 115, 114, 99] : List UInt8)) = true := bne_iff_ne.mpr c22
                    by_cases c23 : a0.toList = ([115, 99, 114, 105, 112, 116, 45, 115, 114, 99] : List UInt8)
                    · rw [if_pos c23] at H
                      have c23b0 : (a0.toList == ([115, 99, 114, 105, 112, 116, 45, 115, 114, 99] : List UInt8)) = true := beq_iff_eq.mpr c23
                      have c23b1 : (a0.toList != ([115, 99, 114, 105, 112, 116, 45, 115, 114, 99] : List UInt8)) = false := bne_eq_false_iff_eq.mpr c23
                      clear c23
                      have H' := Aside0.mk H
                      clear H
                      go_wp2
                      go_meet
                      case rel => exact ⟨_, ((a0.toList == ([115, 99, 114, 105, 112, 116, 45, 115, 114, 99] : List UInt8))), (by first | rfl | (simp; done) | (simp [*]; done)), H', ⟨by first | omega | exact Nat.le_refl _⟩, ⟨by first | exact Kd.R_nil _ _ _ _ _ | exact Kd.N_nil _ _ _ _ _ | exact Kd.V_nil _ _ _ _ _ | exact Kd.Q_nil _ _ _ _ _ | exact Kd.S_nil _ _ _ _ _⟩, ⟨by (repeat (first | (with_reducible first | exact HB.out | apply below_alloc | apply pw_below_drewN | apply below_drew1) | exact HB.out))⟩⟩
                    · rw [if_neg c23] at H
                      have c23b0 : (a0.toList == ([115, 99, 114, 105, 112, 116, 45, 115, 114, 99] : List UInt8)) = false := beq_eq_false_iff_ne.mpr c23
                      have c23b1 : (a0.toList != ([115, 99, 114, 105, 112, 116, 45, 115, 114, 99] : List UInt8)) = true := bne_iff_ne.mpr c23
                      by_cases c24 : a0.toList = ([115, 116, 121, 108, 101, 45, 115, 114, 99] : List UInt8)
                      · rw [if_pos c24] at H
                        have c24b0 : (a0.toList == ([115, 116, 121, 108, 101, 45, 115, 114, 99] : List UInt8)) = true := beq_iff_eq.mpr c24
                        have c24b1 : (a0.toList != ([115, 116, 121, 108, 101, 45, 115, 114, 99] : List UInt8)) = false := bne_eq_false_iff_eq.mpr c24
                        clear c24
                        have H' := Aside0.mk H
                        clear H
                        go_wp2
                        go_meet
                        case rel => exact ⟨_, ((a0.toList == ([115, 116, 121, 108, 101, 45, 115, 114, 99] : List UInt8))), (by first | rfl | (simp; done) | (simp [*]; done)), H', ⟨by first | omega | exact Nat.le_refl _⟩, ⟨by first | exact Kd.R_nil _ _ _ _ _ | exact Kd.N_nil _ _ _ _ _ | exact Kd.V_nil _ _ _ _ _ | exact Kd.Q_nil _ _ _ _ _ | exact Kd.S_nil _ _ _ _ _⟩, ⟨by (repeat (first | (with_reducible first | exact HB.out | apply below_alloc | apply pw_below_drewN | apply below_drew1) | exact HB.out))⟩⟩
                      · rw [if_neg c24] at H
                        have c24b0 : (a0.toList == ([115, 116, 121, 108, 101, 45, 115, 114, 99] : List UInt8)) = false := beq_eq_false_iff_ne.mpr c24
                        have c24b1 : (a0.toList != ([115, 116, 121, 108, 101, 45, 115, 114, 99] : List UInt8)) = true := bne_iff_ne.mpr c24
                        by_cases c25 : a0.toList = ([99, 104, 105, 108, 100, 45, 115, 114, 99] : List UInt8)
                        · rw [if_pos c25] at H
                          have c25b0 : (a0.toList == ([99, 104, 105, 108, 100, 45, 115, 114, 99] : List UInt8)) = true := beq_iff_eq.mpr c25
                          have c25b1 : (a0.toList != ([99, 104, 105, 108, 100, 45, 115, 114, 99] : List UInt8)) = false := bne_eq_false_iff_eq.mpr c25
                          clear c25
                          have H' := Aside0.mk H
                          clear H
                          go_wp2
                          go_meet
                          case rel => exact ⟨_, ((a0.toList == ([99, 104, 105, 108, 100, 45, 115, 114, 99] : List UInt8))), (by first | rfl | (simp; done) | (simp [*]; done)), H', ⟨by first | omega | exact Nat.le_refl _⟩, ⟨by first | exact Kd.R_nil _ _ _ _ _ | exact Kd.N_nil _ _ _ _ _ | exact Kd.V_nil _ _ _ _ _ | exact Kd.Q_nil _ _ _ _ _ | exact Kd.S_nil _ _ _ _ _⟩, ⟨by (repeat (first | (with_reducible first | exact HB.out | apply below_alloc | apply pw_below_drewN | apply below_drew1) | exact HB.out))⟩⟩
                        · rw [if_neg c25] at H
                          have c25b0 : (a0.toList == ([99, 104, 105, 108, 100, 45, 115, 114, 99] : List UInt8)) = false := beq_eq_false_iff_ne.mpr c25
                          have c25b1 : (a0.toList != ([99, 104, 105, 108, 100, 45, 115, 114, 99] : List UInt8)) = true := bne_iff_ne.mpr c25
                          have H' := Aside0.mk H
                          clear H
                          go_wp2
                          go_meet
                          case rel => exact ⟨_, ((a0.toList == ([111, 98, 106, 101, 99, 116, 45, 115, 114, 99] : List UInt8))), (by first | rfl | (simp; done) | (simp [*]; done)), H', ⟨by first | omega | exact Nat.le_refl _⟩, ⟨by first | exact Kd.R_nil _ _ _ _ _ | exact Kd.N_nil _ _ _ _ _ | exact Kd.V_nil _ _ _ _ _ | exact Kd.Q_nil _ _ _ _ _ | exact Kd.S_nil _ _ _ _ _⟩, ⟨by (repeat (first | (with_reducible first | exact HB.out | apply below_alloc | apply pw_below_drewN | apply below_drew1) | exact HB.out))⟩⟩
          case rest =>
            clear HC18
            try clear c1
            try clear c2
            try clear c2b0
            try clear c2b1
            try clear p2
            try clear c5
            try clear c5b0
            try clear c5b1
            try clear c8
            try clear c8b0
            try clear c8b1
            try clear c9
            try clear c11
            try clear c11b0
            try clear c11b1
            try clear c12
            try clear c13
            try clear c14
            try clear c19
            try clear c19b0
            try clear c19b1
            try clear c20
            try clear c20b0
            try clear c20b1
            try clear c21
            try clear c21b0
            try clear c21b1
            try clear c22
            try clear c22b0
            try clear c22b1
            try clear c23
            try clear c23b0
            try clear c23b1
            try clear c24
            try clear c24b0
            try clear c24b1
            try clear c25
            try clear c25b0
            try clear c25b1
            obtain ⟨kq, x13_17, rfl, HA, HJ17, HO_3, HB⟩ := hcut
            cases kq with
            | zero => exact absurd HA.out (by simp [policy_Chain.j0])
            | succ kj17 =>
              have H := HA.out
              clear HA
              simp only [policy_Chain.j0] at H
              by_cases c26 : x13_17 = true
              · subst c26
                have H1 : (if ([] : List ByteArray).length < 8796093022208 then ((some (([] : List ByteArray) ++ [a0] : List ByteArray)).bind fun y121 => (if y121.length < 8796093022208 then (some (y121 ++ [(⟨#[100, 101, 102, 97, 117, 108, 116, 45, 115, 114, 99]⟩ : ByteArray)])) else (none))) else (none)) = some r := by rw [if_pos rfl] at H; exact H
                clear H
                have H := H1
                clear H1
                by_cases c27 : ([] : List ByteArray).length < 8796093022208
                · rw [if_pos c27] at H
                  have LMc27 := Aside0.mk c27
                  clear c27
                  obtain ⟨y121, hy121⟩ : ∃ y_ : List ByteArray, y_ = (([] : List ByteArray) ++ [a0]) := ⟨_, rfl⟩
                  replace H : (if y121.length < 8796093022208 then (some (y121 ++ [(⟨#[100, 101, 102, 97, 117, 108, 116, 45, 115, 114, 99]⟩ : ByteArray)])) else (none)) = some r := by first | (rw [hy121]; with_reducible exact H) | (have H2_ := (Option.bind_some _ _).symm.trans H; rw [hy121]; with_reducible exact H2_) | (have H2_ := (Option.bind_some _ _).symm.trans H; with_reducible exact H2_) | with_reducible exact H | (rw [hy121]; exact H) | exact H
                  have Ny121 := Aside0.mk hy121
                  clear hy121
                  by_cases c28 : y121.length < 8796093022208
                  · rw [if_pos c28] at H
                    have LMc28 := Aside0.mk c28
                    clear c28
                    obtain ⟨y124, hy124⟩ : ∃ y_ : List ByteArray, y_ = (y121 ++ [(⟨#[100, 101, 102, 97, 117, 108, 116, 45, 115, 114, 99]⟩ : ByteArray)]) := ⟨_, rfl⟩
                    replace H : (some y124) = some r := by first | (rw [hy124]; with_reducible exact H) | (have H2_ := (Option.bind_some _ _).symm.trans H; rw [hy124]; with_reducible exact H2_) | (have H2_ := (Option.bind_some _ _).symm.trans H; with_reducible exact H2_) | with_reducible exact H | (rw [hy124]; exact H) | exact H
                    have Ny124 := Aside0.mk hy124
                    clear hy124
                    obtain rfl := Option.some.inj H
                    go_wp2_with (first | ((with_reducible refine gate_builtin (b := .append) (xs := #[.tmp 34, .tmp 36]) rfl ?_); at_builtin; refine Kd.R_append Kd.string (w0 := w) w.heap.size rfl (.tmp 34) (.tmp 36) 22 9 (.string ⟨#[]⟩) 16 rfl Tryd.underlying22 info9 rfl (by decide) (by omega) (.slice none 0 0) ([] : List ByteArray) a0 [.string a0] (fun _ => True) (fun _ => False) rfl rfl ?aP (fun _ hk => hk.elim) ?aF ?aO ?aB ?aS ?aL ?_; (case aP => exact rfl); (case aB => exact (by (repeat (first | (with_reducible first | exact HB.out | apply below_alloc | apply pw_below_drewN | apply below_drew1) | exact HB.out)))); (case aF => exact (fun _ _ => trivial)); (case aO => exact (by (with_reducible repeat (first | apply Kd.R_alloc | apply Kd.R_drewN | apply Kd.R_drew)); exact HO_3.out)); (case aS => exact (below_size (by (repeat (first | (with_reducible first | exact HB.out | apply below_alloc | apply pw_below_drewN | apply below_drew1) | exact HB.out))))); (case aL => have := LMc27.out; omega); intro v122 w29 ho hb hg hat; rw [← Ny121.out] at ho; have n0_ := Am (hb); have n1_ := Am (ho); clear HB; clear HO_3; have HB := n0_; have HO123 := n1_; clear n0_ n1_; clear ho hb hg hat) | ((with_reducible refine gate_builtin (b := .append) (xs := #[.tmp 38, .tmp 40]) rfl ?_); at_builtin; refine Kd.R_append Kd.string (w0 := w) w.heap.size rfl (.tmp 38) (.tmp 40) 22 9 (.string ⟨#[]⟩) 16 rfl Tryd.underlying22 info9 rfl (by decide) (by omega) v122 y121 (⟨#[100, 101, 102, 97, 117, 108, 116, 45, 115, 114, 99]⟩ : ByteArray) [.string (⟨#[100, 101, 102, 97, 117, 108, 116, 45, 115, 114, 99]⟩ : ByteArray)] (fun _ => True) (fun _ => False) rfl rfl ?aP (fun _ hk => hk.elim) ?aF ?aO ?aB ?aS ?aL ?_; (case aP => exact rfl); (case aB => exact (by (repeat (first | (with_reducible first | exact HB.out | apply below_alloc | apply pw_below_drewN | apply below_drew1) | exact HB.out)))); (case aF => exact (fun _ _ => trivial)); (case aO => exact (by (with_reducible repeat (first | apply Kd.R_alloc | apply Kd.R_drewN | apply Kd.R_drew)); exact HO123.out)); (case aS => exact (below_size (by (repeat (first | (with_reducible first | exact HB.out | apply below_alloc | apply pw_below_drewN | apply below_drew1) | exact HB.out))))); (case aL => have := LMc28.out; omega); intro v125 w30 ho hb hg hat; rw [← Ny124.out] at ho; have n0_ := Am (hb); have n1_ := Am (ho); clear HB; clear HO123; have HB := n0_; have HO126 := n1_; clear n0_ n1_; clear ho hb hg hat))
                    go_ret
                    exact ⟨_, by (first | rfl | (simp [errW_none, errW_some] <;> rfl) | (simp [*, errW_none, errW_some] <;> rfl)), by (with_reducible repeat (first | apply Kd.R_alloc | apply Kd.R_drewN | apply Kd.R_drew)); exact HO126.out, by (repeat (first | (with_reducible first | exact HB.out | apply below_alloc | apply pw_below_drewN | apply below_drew1) | exact HB.out))⟩
                  · rw [if_neg c28] at H
                    exact absurd H (by simp)
                · rw [if_neg c27] at H
                  exact absurd H (by simp)
              · replace c26 := Bool.eq_false_iff.mpr c26
                subst c26
                have H1 : (if a0.toList = ([100, 101, 102, 97, 117, 108, 116, 45, 115, 114, 99] : List UInt8) then (if ([] : List ByteArray).length < 8796093022208 then (some (([] : List ByteArray) ++ [a0])) else (none)) else (some ([] : List ByteArray))) = some r := by rw [if_neg (show ¬ (false = true) by decide)] at H; exact H
                clear H
                have H := H1
                clear H1
                by_cases c31 : a0.toList = ([100, 101, 102, 97, 117, 108, 116, 45, 115, 114, 99] : List UInt8)
                · rw [if_pos c31] at H
                  have c31b0 : (a0.toList == ([100, 101, 102, 97, 117, 108, 116, 45, 115, 114, 99] : List UInt8)) = true := beq_iff_eq.mpr c31
                  have c31b1 : (a0.toList != ([100, 101, 102, 97, 117, 108, 116, 45, 115, 114, 99] : List UInt8)) = false := bne_eq_false_iff_eq.mpr c31
                  clear c31
                  by_cases c32 : ([] : List ByteArray).length < 8796093022208
                  · rw [if_pos c32] at H
                    have LMc32 := Aside0.mk c32
                    clear c32
                    obtain ⟨y127, hy127⟩ : ∃ y_ : List ByteArray, y_ = (([] : List ByteArray) ++ [a0]) := ⟨_, rfl⟩
                    replace H : (some y127) = some r := by first | (rw [hy127]; with_reducible exact H) | (have H2_ := (Option.bind_some _ _).symm.trans H; rw [hy127]; with_reducible exact H2_) | (have H2_ := (Option.bind_some _ _).symm.trans H; with_reducible exact H2_) | with_reducible exact H | (rw [hy127]; exact H) | exact H
                    have Ny127 := Aside0.mk hy127
                    clear hy127
                    obtain rfl := Option.some.inj H
                    go_wp2_with (first | ((with_reducible refine gate_builtin (b := .append) (xs := #[.tmp 38, .tmp 40]) rfl ?_); at_builtin; refine Kd.R_append Kd.string (w0 := w) w.heap.size rfl (.tmp 38) (.tmp 40) 22 9 (.string ⟨#[]⟩) 16 rfl Tryd.underlying22 info9 rfl (by decide) (by omega) (.slice none 0 0) ([] : List ByteArray) a0 [.string a0] (fun _ => True) (fun _ => False) rfl rfl ?aP (fun _ hk => hk.elim) ?aF ?aO ?aB ?aS ?aL ?_; (case aP => exact rfl); (case aB => exact (by (repeat (first | (with_reducible first | exact HB.out | apply below_alloc | apply pw_below_drewN | apply below_drew1) | exact HB.out)))); (case aF => exact (fun _ _ => trivial)); (case aO => exact (by (with_reducible repeat (first | apply Kd.R_alloc | apply Kd.R_drewN | apply Kd.R_drew)); exact HO_3.out)); (case aS => exact (below_size (by (repeat (first | (with_reducible first | exact HB.out | apply below_alloc | apply pw_below_drewN | apply below_drew1) | exact HB.out))))); (case aL => have := LMc32.out; omega); intro v128 w33 ho hb hg hat; rw [← Ny127.out] at ho; have n0_ := Am (hb); have n1_ := Am (ho); clear HB; clear HO_3; have HB := n0_; have HO129 := n1_; clear n0_ n1_; clear ho hb hg hat))
                    go_ret
                    exact ⟨_, by (first | rfl | (simp [errW_none, errW_some] <;> rfl) | (simp [*, errW_none, errW_some] <;> rfl)), by (with_reducible repeat (first | apply Kd.R_alloc | apply Kd.R_drewN | apply Kd.R_drew)); exact HO129.out, by (repeat (first | (with_reducible first | exact HB.out | apply below_alloc | apply pw_below_drewN | apply below_drew1) | exact HB.out))⟩
                  · rw [if_neg c32] at H
                    exact absurd H (by simp)
                · rw [if_neg c31] at H
                  have c31b0 : (a0.toList == ([100, 101, 102, 97, 117, 108, 116, 45, 115, 114, 99] : List UInt8)) = false := beq_eq_false_iff_ne.mpr c31
                  have c31b1 : (a0.toList != ([100, 101, 102, 97, 117, 108, 116, 45, 115, 114, 99] : List UInt8)) = true := bne_iff_ne.mpr c31
                  obtain rfl := Option.some.inj H
                  go_wp2
                  go_ret
                  exact ⟨_, by (first | rfl | (simp [errW_none, errW_some] <;> rfl) | (simp [*, errW_none, errW_some] <;> rfl)), by (with_reducible repeat (first | apply Kd.R_alloc | apply Kd.R_drewN | apply Kd.R_drew)); exact HO_3.out, by (repeat (first | (with_reducible first | exact HB.out | apply below_alloc | apply pw_below_drewN | apply below_drew1) | exact HB.out))⟩

/-! ### ostiaryref10_Chain: function 10 -/
def ostiaryref10_Chain.j0 : Nat → ByteArray → ByteArray → Bool → Option (List ByteArray)
  | 0, _, _, _ => none
  | k + 1, x0, x3, x20 => if x20 = true then (some (([x0, (⟨#[100, 101, 102, 97, 117, 108, 116, 45, 115, 114, 99]⟩ : ByteArray)] : List ByteArray))) else (if x3.toList = ([100, 101, 102, 97, 117, 108, 116, 45, 115, 114, 99] : List UInt8) then (some (([x0] : List ByteArray))) else (some ([] : List ByteArray)))
def ostiaryref10_Chain.f (k : Nat) (a0 : ByteArray) : Option (List ByteArray) := if a0.toList = ([115, 99, 114, 105, 112, 116, 45, 115, 114, 99, 45, 101, 108, 101, 109] : List UInt8) then (some (([a0, (⟨#[115, 99, 114, 105, 112, 116, 45, 115, 114, 99]⟩ : ByteArray), (⟨#[100, 101, 102, 97, 117, 108, 116, 45, 115, 114, 99]⟩ : ByteArray)] : List ByteArray))) else (if a0.toList = ([115, 116, 121, 108, 101, 45, 115, 114, 99, 45, 101, 108, 101, 109] : List UInt8) then (some (([a0, (⟨#[115, 116, 121, 108, 101, 45, 115, 114, 99]⟩ : ByteArray), (⟨#[100, 101, 102, 97, 117, 108, 116, 45, 115, 114, 99]⟩ : ByteArray)] : List ByteArray))) else (if a0.toList = ([119, 111, 114, 107, 101, 114, 45, 115, 114, 99] : List UInt8) then (some (([a0, (⟨#[99, 104, 105, 108, 100, 45, 115, 114, 99]⟩ : ByteArray), (⟨#[115, 99, 114, 105, 112, 116, 45, 115, 114, 99]⟩ : ByteArray), (⟨#[100, 101, 102, 97, 117, 108, 116, 45, 115, 114, 99]⟩ : ByteArray)] : List ByteArray))) else (if a0.toList = ([102, 114, 97, 109, 101, 45, 115, 114, 99] : List UInt8) then (some (([a0, (⟨#[99, 104, 105, 108, 100, 45, 115, 114, 99]⟩ : ByteArray), (⟨#[100, 101, 102, 97, 117, 108, 116, 45, 115, 114, 99]⟩ : ByteArray)] : List ByteArray))) else (if a0.toList = ([99, 111, 110, 110, 101, 99, 116, 45, 115, 114, 99] : List UInt8) then (ostiaryref10_Chain.j0 k a0 a0 (a0.toList == ([99, 111, 110, 110, 101, 99, 116, 45, 115, 114, 99] : List UInt8))) else (if a0.toList = ([102, 111, 110, 116, 45, 115, 114, 99] : List UInt8) then (ostiaryref10_Chain.j0 k a0 a0 (a0.toList == ([102, 111, 110, 116, 45, 115, 114, 99] : List UInt8))) else (if a0.toList = ([105, 109, 103, 45, 115, 114, 99] : List UInt8) then (ostiaryref10_Chain.j0 k a0 a0 (a0.toList == ([105, 109, 103, 45, 115, 114, 99] : List UInt8))) else (if a0.toList = ([109, 101, 100, 105, 97, 45, 115, 114, 99] : List UInt8) then (ostiaryref10_Chain.j0 k a0 a0 (a0.toList == ([109, 101, 100, 105, 97, 45, 115, 114, 99] : List UInt8))) else (if a0.toList = ([115, 99, 114, 105, 112, 116, 45, 115, 114, 99] : List UInt8) then (ostiaryref10_Chain.j0 k a0 a0 (a0.toList == ([115, 99, 114, 105, 112, 116, 45, 115, 114, 99] : List UInt8))) else (if a0.toList = ([115, 116, 121, 108, 101, 45, 115, 114, 99] : List UInt8) then (ostiaryref10_Chain.j0 k a0 a0 (a0.toList == ([115, 116, 121, 108, 101, 45, 115, 114, 99] : List UInt8))) else (if a0.toList = ([99, 104, 105, 108, 100, 45, 115, 114, 99] : List UInt8) then (ostiaryref10_Chain.j0 k a0 a0 (a0.toList == ([99, 104, 105, 108, 100, 45, 115, 114, 99] : List UInt8))) else (ostiaryref10_Chain.j0 k a0 a0 (a0.toList == ([111, 98, 106, 101, 99, 116, 45, 115, 114, 99] : List UInt8)))))))))))))
theorem ostiaryref10_Chain.mono_l : ∀ k, (∀ y0 y1 y2, LeO (ostiaryref10_Chain.j0 k y0 y1 y2) (ostiaryref10_Chain.j0 (k + 1) y0 y1 y2))
  | 0 => fun _ _ _ r h => by simp [ostiaryref10_Chain.j0] at h
  | k + 1 => by
    have ih0 := ostiaryref10_Chain.mono_l k
    · intro y0 y1 y2
      unfold ostiaryref10_Chain.j0
      repeat' first
      | (with_reducible exact ih0 _ _ _)
      | (with_reducible exact LeO.refl _)
      | (with_reducible exact LeO.none _)
      | (with_reducible refine LeO.ite ?_ ?_)
      | (with_reducible refine LeO.bind ?_ (fun _ => ?_))
      | exact ih0 _ _ _
      | exact LeO.none _
      | refine LeO.ite ?_ ?_
      | refine LeO.bind ?_ (fun _ => ?_)
theorem ostiaryref10_Chain.mono : ∀ a0 k, LeO (ostiaryref10_Chain.f k a0) (ostiaryref10_Chain.f (k + 1) a0) := by
  intro a0 k
  have ih0 := ostiaryref10_Chain.mono_l k
  unfold ostiaryref10_Chain.f
  repeat' first
      | (with_reducible exact ih0 _ _ _)
      | (with_reducible exact LeO.refl _)
      | (with_reducible exact LeO.none _)
      | (with_reducible refine LeO.ite ?_ ?_)
      | (with_reducible refine LeO.bind ?_ (fun _ => ?_))
      | exact ih0 _ _ _
      | exact LeO.none _
      | refine LeO.ite ?_ ?_
      | refine LeO.bind ?_ (fun _ => ?_)
set_option maxHeartbeats 8000000 in
set_option maxRecDepth 100000 in
theorem ostiaryref10_Chain.calls (k : Nat) (a0 : ByteArray) (r : List ByteArray) (w : World) (h : ostiaryref10_Chain.f k a0 = some r) :
    Calls Tryd.prog 10 #[.string a0] w fun e w' => ∃ v0_ : Value, e = .returned (v0_) ∧ Kd.R Kd.string 9 w' w.heap.size (fun _ => True) v0_ r ∧ Below w.heap.size w w' := by
  have HB := Am (Below.refl w.heap.size w)
  have H : (if a0.toList = ([115, 99, 114, 105, 112, 116, 45, 115, 114, 99, 45, 101, 108, 101, 109] : List UInt8) then (some (([a0, (⟨#[115, 99, 114, 105, 112, 116, 45, 115, 114, 99]⟩ : ByteArray), (⟨#[100, 101, 102, 97, 117, 108, 116, 45, 115, 114, 99]⟩ : ByteArray)] : List ByteArray))) else (if a0.toList = ([115, 116, 121, 108, 101, 45, 115, 114, 99, 45, 101, 108, 101, 109] : List UInt8) then (some (([a0, (⟨#[115, 116, 121, 108, 101, 45, 115, 114, 99]⟩ : ByteArray), (⟨#[100, 101, 102, 97, 117, 108, 116, 45, 115, 114, 99]⟩ : ByteArray)] : List ByteArray))) else (if a0.toList = ([119, 111, 114, 107, 101, 114, 45, 115, 114, 99] : List UInt8) then (some (([a0, (⟨#[99, 104, 105, 108, 100, 45, 115, 114, 99]⟩ : ByteArray), (⟨#[115, 99, 114, 105, 112, 116, 45, 115, 114, 99]⟩ : ByteArray), (⟨#[100, 101, 102, 97, 117, 108, 116, 45, 115, 114, 99]⟩ : ByteArray)] : List ByteArray))) else (if a0.toList = ([102, 114, 97, 109, 101, 45, 115, 114, 99] : List UInt8) then (some (([a0, (⟨#[99, 104, 105, 108, 100, 45, 115, 114, 99]⟩ : ByteArray), (⟨#[100, 101, 102, 97, 117, 108, 116, 45, 115, 114, 99]⟩ : ByteArray)] : List ByteArray))) else (if a0.toList = ([99, 111, 110, 110, 101, 99, 116, 45, 115, 114, 99] : List UInt8) then (ostiaryref10_Chain.j0 k a0 a0 (a0.toList == ([99, 111, 110, 110, 101, 99, 116, 45, 115, 114, 99] : List UInt8))) else (if a0.toList = ([102, 111, 110, 116, 45, 115, 114, 99] : List UInt8) then (ostiaryref10_Chain.j0 k a0 a0 (a0.toList == ([102, 111, 110, 116, 45, 115, 114, 99] : List UInt8))) else (if a0.toList = ([105, 109, 103, 45, 115, 114, 99] : List UInt8) then (ostiaryref10_Chain.j0 k a0 a0 (a0.toList == ([105, 109, 103, 45, 115, 114, 99] : List UInt8))) else (if a0.toList = ([109, 101, 100, 105, 97, 45, 115, 114, 99] : List UInt8) then (ostiaryref10_Chain.j0 k a0 a0 (a0.toList == ([109, 101, 100, 105, 97, 45, 115, 114, 99] : List UInt8))) else (if a0.toList = ([115, 99, 114, 105, 112, 116, 45, 115, 114, 99] : List UInt8) then (ostiaryref10_Chain.j0 k a0 a0 (a0.toList == ([115, 99, 114, 105, 112, 116, 45, 115, 114, 99] : List UInt8))) else (if a0.toList = ([115, 116, 121, 108, 101, 45, 115, 114, 99] : List UInt8) then (ostiaryref10_Chain.j0 k a0 a0 (a0.toList == ([115, 116, 121, 108, 101, 45, 115, 114, 99] : List UInt8))) else (if a0.toList = ([99, 104, 105, 108, 100, 45, 115, 114, 99] : List UInt8) then (ostiaryref10_Chain.j0 k a0 a0 (a0.toList == ([99, 104, 105, 108, 100, 45, 115, 114, 99] : List UInt8))) else (ostiaryref10_Chain.j0 k a0 a0 (a0.toList == ([111, 98, 106, 101, 99, 116, 45, 115, 114, 99] : List UInt8)))))))))))))) = some r := h
  clear h
  by_cases c2 : a0.toList = ([115, 99, 114, 105, 112, 116, 45, 115, 114, 99, 45, 101, 108, 101, 109] : List UInt8)
  · rw [if_pos c2] at H
    have c2b0 : (a0.toList == ([115, 99, 114, 105, 112, 116, 45, 115, 114, 99, 45, 101, 108, 101, 109] : List UInt8)) = true := beq_iff_eq.mpr c2
    have c2b1 : (a0.toList != ([115, 99, 114, 105, 112, 116, 45, 115, 114, 99, 45, 101, 108, 101, 109] : List UInt8)) = false := bne_eq_false_iff_eq.mpr c2
    clear c2
    obtain ⟨y130, hy130⟩ : ∃ y_ : List ByteArray, y_ = (([a0, (⟨#[115, 99, 114, 105, 112, 116, 45, 115, 114, 99]⟩ : ByteArray), (⟨#[100, 101, 102, 97, 117, 108, 116, 45, 115, 114, 99]⟩ : ByteArray)] : List ByteArray)) := ⟨_, rfl⟩
    replace H : (some y130) = some r := by first | (rw [hy130]; with_reducible exact H) | (have H2_ := (Option.bind_some _ _).symm.trans H; rw [hy130]; with_reducible exact H2_) | (have H2_ := (Option.bind_some _ _).symm.trans H; with_reducible exact H2_) | with_reducible exact H | (rw [hy130]; exact H) | exact H
    have Ny130 := Aside0.mk hy130
    clear hy130
    obtain rfl := Option.some.inj H
    go_enter Tryd.func10, Tryd.ntmps10
    go_wp2_with (first | ((with_reducible refine gate_dst (N := 7) rfl ?_); refine Kd.R_lit Kd.string _ 9 ?hg (N := 7) ?hd (xs := ([a0, (⟨#[115, 99, 114, 105, 112, 116, 45, 115, 114, 99]⟩ : ByteArray), (⟨#[100, 101, 102, 97, 117, 108, 116, 45, 115, 114, 99]⟩ : ByteArray)] : List ByteArray)) (inner := [.string a0, .string (⟨#[115, 99, 114, 105, 112, 116, 45, 115, 114, 99]⟩ : ByteArray), .string (⟨#[100, 101, 102, 97, 117, 108, 116, 45, 115, 114, 99]⟩ : ByteArray)]) (ok := fun _ => True) (okp := fun _ => True) ?hr ?hp (fun _ hk => hk) trivial (Below.refl _ _) (Nat.le_refl _) (by simp) ?_; ((case hd => rfl); (case hg => rfl); (case hr => first | (go_simp; done) | (go_simp; rfl))); (case hp => exact (Reps.one (show Kd.M Kd.string _ _ _ a0 [.string a0] from rfl) (Reps.one (show Kd.M Kd.string _ _ _ (⟨#[115, 99, 114, 105, 112, 116, 45, 115, 114, 99]⟩ : ByteArray) [.string (⟨#[115, 99, 114, 105, 112, 116, 45, 115, 114, 99]⟩ : ByteArray)] from rfl) (Reps.one (show Kd.M Kd.string _ _ _ (⟨#[100, 101, 102, 97, 117, 108, 116, 45, 115, 114, 99]⟩ : ByteArray) [.string (⟨#[100, 101, 102, 97, 117, 108, 116, 45, 115, 114, 99]⟩ : ByteArray)] from rfl) (Reps.none _ _))))); intro v131 w3 ho4 hb hg_ hnew_; clear hg_ hnew_; (first | rw [← Ny130.out] at ho4 | (simp only [Int.reduceToNat] at ho4; rw [← Ny130.out] at ho4)); have n0_ := Am (Kd.R_lower ho4 (below_size (by (repeat (first | (with_reducible first | exact HB.out | apply below_alloc | apply pw_below_drewN | apply below_drew1) | exact HB.out))))); have n1_ := Am (below_step (by (repeat (first | (with_reducible first | exact HB.out | apply below_alloc | apply pw_below_drewN | apply below_drew1) | exact HB.out))) hb); clear HB; have HO132 := n0_; have HB := n1_; clear n0_ n1_; clear hb ho4))
    go_ret
    exact ⟨_, by (first | rfl | (simp [errW_none, errW_some] <;> rfl) | (simp [*, errW_none, errW_some] <;> rfl)), by (with_reducible repeat (first | apply Kd.R_alloc | apply Kd.R_drewN | apply Kd.R_drew)); exact HO132.out, by (repeat (first | (with_reducible first | exact HB.out | apply below_alloc | apply pw_below_drewN | apply below_drew1) | exact HB.out))⟩
  · rw [if_neg c2] at H
    have c2b0 : (a0.toList == ([115, 99, 114, 105, 112, 116, 45, 115, 114, 99, 45, 101, 108, 101, 109] : List UInt8)) = false := beq_eq_false_iff_ne.mpr c2
    have c2b1 : (a0.toList != ([115, 99, 114, 105, 112, 116, 45, 115, 114, 99, 45, 101, 108, 101, 109] : List UInt8)) = true := bne_iff_ne.mpr c2
    by_cases c5 : a0.toList = ([115, 116, 121, 108, 101, 45, 115, 114, 99, 45, 101, 108, 101, 109] : List UInt8)
    · rw [if_pos c5] at H
      have c5b0 : (a0.toList == ([115, 116, 121, 108, 101, 45, 115, 114, 99, 45, 101, 108, 101, 109] : List UInt8)) = true := beq_iff_eq.mpr c5
      have c5b1 : (a0.toList != ([115, 116, 121, 108, 101, 45, 115, 114, 99, 45, 101, 108, 101, 109] : List UInt8)) = false := bne_eq_false_iff_eq.mpr c5
      clear c5
      obtain ⟨y133, hy133⟩ : ∃ y_ : List ByteArray, y_ = (([a0, (⟨#[115, 116, 121, 108, 101, 45, 115, 114, 99]⟩ : ByteArray), (⟨#[100, 101, 102, 97, 117, 108, 116, 45, 115, 114, 99]⟩ : ByteArray)] : List ByteArray)) := ⟨_, rfl⟩
      replace H : (some y133) = some r := by first | (rw [hy133]; with_reducible exact H) | (have H2_ := (Option.bind_some _ _).symm.trans H; rw [hy133]; with_reducible exact H2_) | (have H2_ := (Option.bind_some _ _).symm.trans H; with_reducible exact H2_) | with_reducible exact H | (rw [hy133]; exact H) | exact H
      have Ny133 := Aside0.mk hy133
      clear hy133
      obtain rfl := Option.some.inj H
      go_enter Tryd.func10, Tryd.ntmps10
      go_wp2_with (first | ((with_reducible refine gate_dst (N := 11) rfl ?_); refine Kd.R_lit Kd.string _ 9 ?hg (N := 11) ?hd (xs := ([a0, (⟨#[115, 116, 121, 108, 101, 45, 115, 114, 99]⟩ : ByteArray), (⟨#[100, 101, 102, 97, 117, 108, 116, 45, 115, 114, 99]⟩ : ByteArray)] : List ByteArray)) (inner := [.string a0, .string (⟨#[115, 116, 121, 108, 101, 45, 115, 114, 99]⟩ : ByteArray), .string (⟨#[100, 101, 102, 97, 117, 108, 116, 45, 115, 114, 99]⟩ : ByteArray)]) (ok := fun _ => True) (okp := fun _ => True) ?hr ?hp (fun _ hk => hk) trivial (Below.refl _ _) (Nat.le_refl _) (by simp) ?_; ((case hd => rfl); (case hg => rfl); (case hr => first | (go_simp; done) | (go_simp; rfl))); (case hp => exact (Reps.one (show Kd.M Kd.string _ _ _ a0 [.string a0] from rfl) (Reps.one (show Kd.M Kd.string _ _ _ (⟨#[115, 116, 121, 108, 101, 45, 115, 114, 99]⟩ : ByteArray) [.string (⟨#[115, 116, 121, 108, 101, 45, 115, 114, 99]⟩ : ByteArray)] from rfl) (Reps.one (show Kd.M Kd.string _ _ _ (⟨#[100, 101, 102, 97, 117, 108, 116, 45, 115, 114, 99]⟩ : ByteArray) [.string (⟨#[100, 101, 102, 97, 117, 108, 116, 45, 115, 114, 99]⟩ : ByteArray)] from rfl) (Reps.none _ _))))); intro v134 w6 ho7 hb hg_ hnew_; clear hg_ hnew_; (first | rw [← Ny133.out] at ho7 | (simp only [Int.reduceToNat] at ho7; rw [← Ny133.out] at ho7)); have n0_ := Am (Kd.R_lower ho7 (below_size (by (repeat (first | (with_reducible first | exact HB.out | apply below_alloc | apply pw_below_drewN | apply below_drew1) | exact HB.out))))); have n1_ := Am (below_step (by (repeat (first | (with_reducible first | exact HB.out | apply below_alloc | apply pw_below_drewN | apply below_drew1) | exact HB.out))) hb); clear HB; have HO135 := n0_; have HB := n1_; clear n0_ n1_; clear hb ho7))
      go_ret
      exact ⟨_, by (first | rfl | (simp [errW_none, errW_some] <;> rfl) | (simp [*, errW_none, errW_some] <;> rfl)), by (with_reducible repeat (first | apply Kd.R_alloc | apply Kd.R_drewN | apply Kd.R_drew)); exact HO135.out, by (repeat (first | (with_reducible first | exact HB.out | apply below_alloc | apply pw_below_drewN | apply below_drew1) | exact HB.out))⟩
    · rw [if_neg c5] at H
      have c5b0 : (a0.toList == ([115, 116, 121, 108, 101, 45, 115, 114, 99, 45, 101, 108, 101, 109] : List UInt8)) = false := beq_eq_false_iff_ne.mpr c5
      have c5b1 : (a0.toList != ([115, 116, 121, 108, 101, 45, 115, 114, 99, 45, 101, 108, 101, 109] : List UInt8)) = true := bne_iff_ne.mpr c5
      by_cases c8 : a0.toList = ([119, 111, 114, 107, 101, 114, 45, 115, 114, 99] : List UInt8)
      · rw [if_pos c8] at H
        have c8b0 : (a0.toList == ([119, 111, 114, 107, 101, 114, 45, 115, 114, 99] : List UInt8)) = true := beq_iff_eq.mpr c8
        have c8b1 : (a0.toList != ([119, 111, 114, 107, 101, 114, 45, 115, 114, 99] : List UInt8)) = false := bne_eq_false_iff_eq.mpr c8
        clear c8
        obtain ⟨y136, hy136⟩ : ∃ y_ : List ByteArray, y_ = (([a0, (⟨#[99, 104, 105, 108, 100, 45, 115, 114, 99]⟩ : ByteArray), (⟨#[115, 99, 114, 105, 112, 116, 45, 115, 114, 99]⟩ : ByteArray), (⟨#[100, 101, 102, 97, 117, 108, 116, 45, 115, 114, 99]⟩ : ByteArray)] : List ByteArray)) := ⟨_, rfl⟩
        replace H : (some y136) = some r := by first | (rw [hy136]; with_reducible exact H) | (have H2_ := (Option.bind_some _ _).symm.trans H; rw [hy136]; with_reducible exact H2_) | (have H2_ := (Option.bind_some _ _).symm.trans H; with_reducible exact H2_) | with_reducible exact H | (rw [hy136]; exact H) | exact H
        have Ny136 := Aside0.mk hy136
        clear hy136
        obtain rfl := Option.some.inj H
        go_enter Tryd.func10, Tryd.ntmps10
        go_wp2_with (first | ((with_reducible refine gate_dst (N := 15) rfl ?_); refine Kd.R_lit Kd.string _ 9 ?hg (N := 15) ?hd (xs := ([a0, (⟨#[99, 104, 105, 108, 100, 45, 115, 114, 99]⟩ : ByteArray), (⟨#[115, 99, 114, 105, 112, 116, 45, 115, 114, 99]⟩ : ByteArray), (⟨#[100, 101, 102, 97, 117, 108, 116, 45, 115, 114, 99]⟩ : ByteArray)] : List ByteArray)) (inner := [.string a0, .string (⟨#[99, 104, 105, 108, 100, 45, 115, 114, 99]⟩ : ByteArray), .string (⟨#[115, 99, 114, 105, 112, 116, 45, 115, 114, 99]⟩ : ByteArray), .string (⟨#[100, 101, 102, 97, 117, 108, 116, 45, 115, 114, 99]⟩ : ByteArray)]) (ok := fun _ => True) (okp := fun _ => True) ?hr ?hp (fun _ hk => hk) trivial (Below.refl _ _) (Nat.le_refl _) (by simp) ?_; ((case hd => rfl); (case hg => rfl); (case hr => first | (go_simp; done) | (go_simp; rfl))); (case hp => exact (Reps.one (show Kd.M Kd.string _ _ _ a0 [.string a0] from rfl) (Reps.one (show Kd.M Kd.string _ _ _ (⟨#[99, 104, 105, 108, 100, 45, 115, 114, 99]⟩ : ByteArray) [.string (⟨#[99, 104, 105, 108, 100, 45, 115, 114, 99]⟩ : ByteArray)] from rfl) (Reps.one (show Kd.M Kd.string _ _ _ (⟨#[115, 99, 114, 105, 112, 116, 45, 115, 114, 99]⟩ : ByteArray) [.string (⟨#[115, 99, 114, 105, 112, 116, 45, 115, 114, 99]⟩ : ByteArray)] from rfl) (Reps.one (show Kd.M Kd.string _ _ _ (⟨#[100, 101, 102, 97, 117, 108, 116, 45, 115, 114, 99]⟩ : ByteArray) [.string (⟨#[100, 101, 102, 97, 117, 108, 116, 45, 115, 114, 99]⟩ : ByteArray)] from rfl) (Reps.none _ _)))))); intro v137 w9 ho10 hb hg_ hnew_; clear hg_ hnew_; (first | rw [← Ny136.out] at ho10 | (simp only [Int.reduceToNat] at ho10; rw [← Ny136.out] at ho10)); have n0_ := Am (Kd.R_lower ho10 (below_size (by (repeat (first | (with_reducible first | exact HB.out | apply below_alloc | apply pw_below_drewN | apply below_drew1) | exact HB.out))))); have n1_ := Am (below_step (by (repeat (first | (with_reducible first | exact HB.out | apply below_alloc | apply pw_below_drewN | apply below_drew1) | exact HB.out))) hb); clear HB; have HO138 := n0_; have HB := n1_; clear n0_ n1_; clear hb ho10))
        go_ret
        exact ⟨_, by (first | rfl | (simp [errW_none, errW_some] <;> rfl) | (simp [*, errW_none, errW_some] <;> rfl)), by (with_reducible repeat (first | apply Kd.R_alloc | apply Kd.R_drewN | apply Kd.R_drew)); exact HO138.out, by (repeat (first | (with_reducible first | exact HB.out | apply below_alloc | apply pw_below_drewN | apply below_drew1) | exact HB.out))⟩
      · rw [if_neg c8] at H
        have c8b0 : (a0.toList == ([119, 111, 114, 107, 101, 114, 45, 115, 114, 99] : List UInt8)) = false := beq_eq_false_iff_ne.mpr c8
        have c8b1 : (a0.toList != ([119, 111, 114, 107, 101, 114, 45, 115, 114, 99] : List UInt8)) = true := bne_iff_ne.mpr c8
        by_cases c11 : a0.toList = ([102, 114, 97, 109, 101, 45, 115, 114, 99] : List UInt8)
        · rw [if_pos c11] at H
          have c11b0 : (a0.toList == ([102, 114, 97, 109, 101, 45, 115, 114, 99] : List UInt8)) = true := beq_iff_eq.mpr c11
          have c11b1 : (a0.toList != ([102, 114, 97, 109, 101, 45, 115, 114, 99] : List UInt8)) = false := bne_eq_false_iff_eq.mpr c11
          clear c11
          obtain ⟨y139, hy139⟩ : ∃ y_ : List ByteArray, y_ = (([a0, (⟨#[99, 104, 105, 108, 100, 45, 115, 114, 99]⟩ : ByteArray), (⟨#[100, 101, 102, 97, 117, 108, 116, 45, 115, 114, 99]⟩ : ByteArray)] : List ByteArray)) := ⟨_, rfl⟩
          replace H : (some y139) = some r := by first | (rw [hy139]; with_reducible exact H) | (have H2_ := (Option.bind_some _ _).symm.trans H; rw [hy139]; with_reducible exact H2_) | (have H2_ := (Option.bind_some _ _).symm.trans H; with_reducible exact H2_) | with_reducible exact H | (rw [hy139]; exact H) | exact H
          have Ny139 := Aside0.mk hy139
          clear hy139
          obtain rfl := Option.some.inj H
          go_enter Tryd.func10, Tryd.ntmps10
          go_wp2_with (first | ((with_reducible refine gate_dst (N := 19) rfl ?_); refine Kd.R_lit Kd.string _ 9 ?hg (N := 19) ?hd (xs := ([a0, (⟨#[99, 104, 105, 108, 100, 45, 115, 114, 99]⟩ : ByteArray), (⟨#[100, 101, 102, 97, 117, 108, 116, 45, 115, 114, 99]⟩ : ByteArray)] : List ByteArray)) (inner := [.string a0, .string (⟨#[99, 104, 105, 108, 100, 45, 115, 114, 99]⟩ : ByteArray), .string (⟨#[100, 101, 102, 97, 117, 108, 116, 45, 115, 114, 99]⟩ : ByteArray)]) (ok := fun _ => True) (okp := fun _ => True) ?hr ?hp (fun _ hk => hk) trivial (Below.refl _ _) (Nat.le_refl _) (by simp) ?_; ((case hd => rfl); (case hg => rfl); (case hr => first | (go_simp; done) | (go_simp; rfl))); (case hp => exact (Reps.one (show Kd.M Kd.string _ _ _ a0 [.string a0] from rfl) (Reps.one (show Kd.M Kd.string _ _ _ (⟨#[99, 104, 105, 108, 100, 45, 115, 114, 99]⟩ : ByteArray) [.string (⟨#[99, 104, 105, 108, 100, 45, 115, 114, 99]⟩ : ByteArray)] from rfl) (Reps.one (show Kd.M Kd.string _ _ _ (⟨#[100, 101, 102, 97, 117, 108, 116, 45, 115, 114, 99]⟩ : ByteArray) [.string (⟨#[100, 101, 102, 97, 117, 108, 116, 45, 115, 114, 99]⟩ : ByteArray)] from rfl) (Reps.none _ _))))); intro v140 w12 ho13 hb hg_ hnew_; clear hg_ hnew_; (first | rw [← Ny139.out] at ho13 | (simp only [Int.reduceToNat] at ho13; rw [← Ny139.out] at ho13)); have n0_ := Am (Kd.R_lower ho13 (below_size (by (repeat (first | (with_reducible first | exact HB.out | apply below_alloc | apply pw_below_drewN | apply below_drew1) | exact HB.out))))); have n1_ := Am (below_step (by (repeat (first | (with_reducible first | exact HB.out | apply below_alloc | apply pw_below_drewN | apply below_drew1) | exact HB.out))) hb); clear HB; have HO141 := n0_; have HB := n1_; clear n0_ n1_; clear hb ho13))
          go_ret
          exact ⟨_, by (first | rfl | (simp [errW_none, errW_some] <;> rfl) | (simp [*, errW_none, errW_some] <;> rfl)), by (with_reducible repeat (first | apply Kd.R_alloc | apply Kd.R_drewN | apply Kd.R_drew)); exact HO141.out, by (repeat (first | (with_reducible first | exact HB.out | apply below_alloc | apply pw_below_drewN | apply below_drew1) | exact HB.out))⟩
        · rw [if_neg c11] at H
          have c11b0 : (a0.toList == ([102, 114, 97, 109, 101, 45, 115, 114, 99] : List UInt8)) = false := beq_eq_false_iff_ne.mpr c11
          have c11b1 : (a0.toList != ([102, 114, 97, 109, 101, 45, 115, 114, 99] : List UInt8)) = true := bne_iff_ne.mpr c11
          have HC14 := Aside0.mk H
          clear H
          go_enter Tryd.func10, Tryd.ntmps10
          go_upto_if 20 with (fail)
          go_cut [20] (fun v20 wc => ∃ (kq : Nat) (x20_13 : Bool), v20 = .bool x20_13 ∧ Aside0 (ostiaryref10_Chain.j0 kq a0 a0 x20_13 = some r) ∧ Aside0 (kq ≤ k) ∧ Aside0 (Below w.heap.size w wc))
          case first =>
            have H := HC14.out
            clear HC14
            by_cases c15 : a0.toList = ([99, 111, 110, 110, 101, 99, 116, 45, 115, 114, 99] : List UInt8)
            · rw [if_pos c15] at H
              have c15b0 : (a0.toList == ([99, 111, 110, 110, 101, 99, 116, 45, 115, 114, 99] : List UInt8)) = true := beq_iff_eq.mpr c15
              have c15b1 : (a0.toList != ([99, 111, 110, 110, 101, 99, 116, 45, 115, 114, 99] : List UInt8)) = false := bne_eq_false_iff_eq.mpr c15
              clear c15
              (first | rw [c15b0] | (simp only [i64_w, i32_w]; rw [c15b0]) | skip)
              have H' := Aside0.mk H
              clear H
              go_wp2
              go_meet
              case rel => exact ⟨_, ((a0.toList == ([99, 111, 110, 110, 101, 99, 116, 45, 115, 114, 99] : List UInt8))), (by first | rfl | (simp; done) | (simp [*]; done)), H', ⟨by first | omega | exact Nat.le_refl _⟩, ⟨by (repeat (first | (with_reducible first | exact HB.out | apply below_alloc | apply pw_below_drewN | apply below_drew1) | exact HB.out))⟩⟩
            · rw [if_neg c15] at H
              have c15b0 : (a0.toList == ([99, 111, 110, 110, 101, 99, 116, 45, 115, 114, 99] : List UInt8)) = false := beq_eq_false_iff_ne.mpr c15
              have c15b1 : (a0.toList != ([99, 111, 110, 110, 101, 99, 116, 45, 115, 114, 99] : List UInt8)) = true := bne_iff_ne.mpr c15
              (first | rw [c15b0] | (simp only [i64_w, i32_w]; rw [c15b0]) | skip)
              by_cases c16 : a0.toList = ([102, 111, 110, 116, 45, 115, 114, 99] : List UInt8)
              · rw [if_pos c16] at H
                have c16b0 : (a0.toList == ([102, 111, 110, 116, 45, 115, 114, 99] : List UInt8)) = true := beq_iff_eq.mpr c16
                have c16b1 : (a0.toList != ([102, 111, 110, 116, 45, 115, 114, 99] : List UInt8)) = false := bne_eq_false_iff_eq.mpr c16
                clear c16
                have H' := Aside0.mk H
                clear H
                go_wp2
                go_meet
                case rel => exact ⟨_, ((a0.toList == ([102, 111, 110, 116, 45, 115, 114, 99] : List UInt8))), (by first | rfl | (simp; done) | (simp [*]; done)), H', ⟨by first | omega | exact Nat.le_refl _⟩, ⟨by (repeat (first | (with_reducible first | exact HB.out | apply below_alloc | apply pw_below_drewN | apply below_drew1) | exact HB.out))⟩⟩
              · rw [if_neg c16] at H
                have c16b0 : (a0.toList == ([102, 111, 110, 116, 45, 115, 114, 99] : List UInt8)) = false := beq_eq_false_iff_ne.mpr c16
                have c16b1 : (a0.toList != ([102, 111, 110, 116, 45, 115, 114, 99] : List UInt8)) = true := bne_iff_ne.mpr c16
                by_cases c17 : a0.toList = ([105, 109, 103, 45, 115, 114, 99] : List UInt8)
                · rw [if_pos c17] at H
                  have c17b0 : (a0.toList == ([105, 109, 103, 45, 115, 114, 99] : List UInt8)) = true := beq_iff_eq.mpr c17
                  have c17b1 : (a0.toList != ([105, 109, 103, 45, 115, 114, 99] : List UInt8)) = false := bne_eq_false_iff_eq.mpr c17
                  clear c17
                  have H' := Aside0.mk H
                  clear H
                  go_wp2
                  go_meet
                  case rel => exact ⟨_, ((a0.toList == ([105, 109, 103, 45, 115, 114, 99] : List UInt8))), (by first | rfl | (simp; done) | (simp [*]; done)), H', ⟨by first | omega | exact Nat.le_refl _⟩, ⟨by (repeat (first | (with_reducible first | exact HB.out | apply below_alloc | apply pw_below_drewN | apply below_drew1) | exact HB.out))⟩⟩
                · rw [if_neg c17] at H
                  have c17b0 : (a0.toList == ([105, 109, 103, 45, 115, 114, 99] : List UInt8)) = false := beq_eq_false_iff_ne.mpr c17
                  have c17b1 : (a0.toList != ([105, 109, 103, 45, 115, 114, 99] : List UInt8)) = true := bne_iff_ne.mpr c17
                  by_cases c18 : a0.toList = ([109, 101, 100, 105, 97, 45, 115, 114, 99] : List UInt8)
                  · rw [if_pos c18] at H
                    have c18b0 : (a0.toList == ([109, 101, 100, 105, 97, 45, 115, 114, 99] : List UInt8)) = true := beq_iff_eq.mpr c18
                    have c18b1 : (a0.toList != ([109, 101, 100, 105, 97, 45, 115, 114, 99] : List UInt8)) = false := bne_eq_false_iff_eq.mpr c18
                    clear c18
                    have H' := Aside0.mk H
                    clear H
                    go_wp2
                    go_meet
                    case rel => exact ⟨_, ((a0.toList == ([109, 101, 100, 105, 97, 45, 115, 114, 99] : List UInt8))), (by first | rfl | (simp; done) | (simp [*]; done)), H', ⟨by first | omega | exact Nat.le_refl _⟩, ⟨by (repeat (first | (with_reducible first | exact HB.out | apply below_alloc | apply pw_below_drewN | apply below_drew1) | exact HB.out))⟩⟩
                  · rw [if_neg c18] at H
                    have c18b0 : (a0.toList == ([109, 101, 100, 105, 97, 45, 115, 114, 99] : List UInt8)) = false := beq_eq_false_iff_ne.mpr c18
                    have c18b1 : (a0.toList != ([109, 101, 100, 105, 97, 45, 115, 114, 99] : List UInt8)) = true := bne_iff_ne.mpr c18
                    by_cases c19 : a0.toList = ([115, 99, 114, 105, 112, 116, 45, 115, 114, 99] : List UInt8)
                    · rw [if_pos c19] at H
                      have c19b0 : (a0.toList == ([115, 99, 114, 105, 112, 116, 45, 115, 114, 99] : List UInt8)) = true := beq_iff_eq.mpr c19
                      have c19b1 : (a0.toList != ([115, 99, 114, 105, 112, 116, 45, 115, 114, 99] : List UInt8)) = false := bne_eq_false_iff_eq.mpr c19
                      clear c19
                      have H' := Aside0.mk H
                      clear H
                      go_wp2
                      go_meet
                      case rel => exact ⟨_, ((a0.toList == ([115, 99, 114, 105, 112, 116, 45, 115, 114, 99] : List UInt8))), (by first | rfl | (simp; done) | (simp [*]; done)), H', ⟨by first | omega | exact Nat.le_refl _⟩, ⟨by (repeat (first | (with_reducible first | exact HB.out | apply below_alloc | apply pw_below_drewN | apply below_drew1) | exact HB.out))⟩⟩
                    · rw [if_neg c19] at H
                      have c19b0 : (a0.toList == ([115, 99, 114, 105, 112, 116, 45, 115, 114, 99] : List UInt8)) = false := beq_eq_false_iff_ne.mpr c19
                      have c19b1 : (a0.toList != ([115, 99, 114, 105, 112, 116, 45, 115, 114, 99] : List UInt8)) = true := bne_iff_ne.mpr c19
                      by_cases c20 : a0.toList = ([115, 116, 121, 108, 101, 45, 115, 114, 99] : List UInt8)
                      · rw [if_pos c20] at H
                        have c20b0 : (a0.toList == ([115, 116, 121, 108, 101, 45, 115, 114, 99] : List UInt8)) = true := beq_iff_eq.mpr c20
                        have c20b1 : (a0.toList != ([115, 116, 121, 108, 101, 45, 115, 114, 99] : List UInt8)) = false := bne_eq_false_iff_eq.mpr c20
                        clear c20
                        have H' := Aside0.mk H
                        clear H
                        go_wp2
                        go_meet
                        case rel => exact ⟨_, ((a0.toList == ([115, 116, 121, 108, 101, 45, 115, 114, 99] : List UInt8))), (by first | rfl | (simp; done) | (simp [*]; done)), H', ⟨by first | omega | exact Nat.le_refl _⟩, ⟨by (repeat (first | (with_reducible first | exact HB.out | apply below_alloc | apply pw_below_drewN | apply below_drew1) | exact HB.out))⟩⟩
                      · rw [if_neg c20] at H
                        have c20b0 : (a0.toList == ([115, 116, 121, 108, 101, 45, 115, 114, 99] : List UInt8)) = false := beq_eq_false_iff_ne.mpr c20
                        have c20b1 : (a0.toList != ([115, 116, 121, 108, 101, 45, 115, 114, 99] : List UInt8)) = true := bne_iff_ne.mpr c20
                        by_cases c21 : a0.toList = ([99, 104, 105, 108, 100, 45, 115, 114, 99] : List UInt8)
                        · rw [if_pos c21] at H
                          have c21b0 : (a0.toList == ([99, 104, 105, 108, 100, 45, 115, 114, 99] : List UInt8)) = true := beq_iff_eq.mpr c21
                          have c21b1 : (a0.toList != ([99, 104, 105, 108, 100, 45, 115, 114, 99] : List UInt8)) = false := bne_eq_false_iff_eq.mpr c21
                          clear c21
                          have H' := Aside0.mk H
                          clear H
                          go_wp2
                          go_meet
                          case rel => exact ⟨_, ((a0.toList == ([99, 104, 105, 108, 100, 45, 115, 114, 99] : List UInt8))), (by first | rfl | (simp; done) | (simp [*]; done)), H', ⟨by first | omega | exact Nat.le_refl _⟩, ⟨by (repeat (first | (with_reducible first | exact HB.out | apply below_alloc | apply pw_below_drewN | apply below_drew1) | exact HB.out))⟩⟩
                        · rw [if_neg c21] at H
                          have c21b0 : (a0.toList == ([99, 104, 105, 108, 100, 45, 115, 114, 99] : List UInt8)) = false := beq_eq_false_iff_ne.mpr c21
                          have c21b1 : (a0.toList != ([99, 104, 105, 108, 100, 45, 115, 114, 99] : List UInt8)) = true := bne_iff_ne.mpr c21
                          have H' := Aside0.mk H
                          clear H
                          go_wp2
                          go_meet
                          case rel => exact ⟨_, ((a0.toList == ([111, 98, 106, 101, 99, 116, 45, 115, 114, 99] : List UInt8))), (by first | rfl | (simp; done) | (simp [*]; done)), H', ⟨by first | omega | exact Nat.le_refl _⟩, ⟨by (repeat (first | (with_reducible first | exact HB.out | apply below_alloc | apply pw_below_drewN | apply below_drew1) | exact HB.out))⟩⟩
          case rest =>
            clear HC14
            try clear c1
            try clear c2
            try clear c2b0
            try clear c2b1
            try clear p2
            try clear c5
            try clear c5b0
            try clear c5b1
            try clear c8
            try clear c8b0
            try clear c8b1
            try clear c10
            try clear c11
            try clear c11b0
            try clear c11b1
            try clear c15
            try clear c15b0
            try clear c15b1
            try clear c16
            try clear c16b0
            try clear c16b1
            try clear c17
            try clear c17b0
            try clear c17b1
            try clear c18
            try clear c18b0
            try clear c18b1
            try clear c19
            try clear c19b0
            try clear c19b1
            try clear c20
            try clear c20b0
            try clear c20b1
            try clear c21
            try clear c21b0
            try clear c21b1
            obtain ⟨kq, x20_13, rfl, HA, HJ13, HB⟩ := hcut
            cases kq with
            | zero => exact absurd HA.out (by simp [ostiaryref10_Chain.j0])
            | succ kj13 =>
              have H := HA.out
              clear HA
              simp only [ostiaryref10_Chain.j0] at H
              by_cases c22 : x20_13 = true
              · subst c22
                have H1 : (some (([a0, (⟨#[100, 101, 102, 97, 117, 108, 116, 45, 115, 114, 99]⟩ : ByteArray)] : List ByteArray))) = some r := by rw [if_pos rfl] at H; exact H
                clear H
                have H := H1
                clear H1
                obtain ⟨y142, hy142⟩ : ∃ y_ : List ByteArray, y_ = (([a0, (⟨#[100, 101, 102, 97, 117, 108, 116, 45, 115, 114, 99]⟩ : ByteArray)] : List ByteArray)) := ⟨_, rfl⟩
                replace H : (some y142) = some r := by first | (rw [hy142]; with_reducible exact H) | (have H2_ := (Option.bind_some _ _).symm.trans H; rw [hy142]; with_reducible exact H2_) | (have H2_ := (Option.bind_some _ _).symm.trans H; with_reducible exact H2_) | with_reducible exact H | (rw [hy142]; exact H) | exact H
                have Ny142 := Aside0.mk hy142
                clear hy142
                obtain rfl := Option.some.inj H
                go_wp2_with (first | ((with_reducible refine gate_dst (N := 30) rfl ?_); refine Kd.R_lit Kd.string _ 9 ?hg (N := 30) ?hd (xs := ([a0, (⟨#[100, 101, 102, 97, 117, 108, 116, 45, 115, 114, 99]⟩ : ByteArray)] : List ByteArray)) (inner := [.string a0, .string (⟨#[100, 101, 102, 97, 117, 108, 116, 45, 115, 114, 99]⟩ : ByteArray)]) (ok := fun _ => True) (okp := fun _ => True) ?hr ?hp (fun _ hk => hk) trivial (Below.refl _ _) (Nat.le_refl _) (by simp) ?_; ((case hd => rfl); (case hg => rfl); (case hr => first | (go_simp; done) | (go_simp; rfl))); (case hp => exact (Reps.one (show Kd.M Kd.string _ _ _ a0 [.string a0] from rfl) (Reps.one (show Kd.M Kd.string _ _ _ (⟨#[100, 101, 102, 97, 117, 108, 116, 45, 115, 114, 99]⟩ : ByteArray) [.string (⟨#[100, 101, 102, 97, 117, 108, 116, 45, 115, 114, 99]⟩ : ByteArray)] from rfl) (Reps.none _ _)))); intro v143 w23 ho24 hb hg_ hnew_; clear hg_ hnew_; (first | rw [← Ny142.out] at ho24 | (simp only [Int.reduceToNat] at ho24; rw [← Ny142.out] at ho24)); have n0_ := Am (Kd.R_lower ho24 (below_size (by (repeat (first | (with_reducible first | exact HB.out | apply below_alloc | apply pw_below_drewN | apply below_drew1) | exact HB.out))))); have n1_ := Am (below_step (by (repeat (first | (with_reducible first | exact HB.out | apply below_alloc | apply pw_below_drewN | apply below_drew1) | exact HB.out))) hb); clear HB; have HO144 := n0_; have HB := n1_; clear n0_ n1_; clear hb ho24))
                go_ret
                exact ⟨_, by (first | rfl | (simp [errW_none, errW_some] <;> rfl) | (simp [*, errW_none, errW_some] <;> rfl)), by (with_reducible repeat (first | apply Kd.R_alloc | apply Kd.R_drewN | apply Kd.R_drew)); exact HO144.out, by (repeat (first | (with_reducible first | exact HB.out | apply below_alloc | apply pw_below_drewN | apply below_drew1) | exact HB.out))⟩
              · replace c22 := Bool.eq_false_iff.mpr c22
                subst c22
                have H1 : (if a0.toList = ([100, 101, 102, 97, 117, 108, 116, 45, 115, 114, 99] : List UInt8) then (some (([a0] : List ByteArray))) else (some ([] : List ByteArray))) = some r := by rw [if_neg (show ¬ (false = true) by decide)] at H; exact H
                clear H
                have H := H1
                clear H1
                by_cases c25 : a0.toList = ([100, 101, 102, 97, 117, 108, 116, 45, 115, 114, 99] : List UInt8)
                · rw [if_pos c25] at H
                  have c25b0 : (a0.toList == ([100, 101, 102, 97, 117, 108, 116, 45, 115, 114, 99] : List UInt8)) = true := beq_iff_eq.mpr c25
                  have c25b1 : (a0.toList != ([100, 101, 102, 97, 117, 108, 116, 45, 115, 114, 99] : List UInt8)) = false := bne_eq_false_iff_eq.mpr c25
                  clear c25
                  obtain ⟨y145, hy145⟩ : ∃ y_ : List ByteArray, y_ = (([a0] : List ByteArray)) := ⟨_, rfl⟩
                  replace H : (some y145) = some r := by first | (rw [hy145]; with_reducible exact H) | (have H2_ := (Option.bind_some _ _).symm.trans H; rw [hy145]; with_reducible exact H2_) | (have H2_ := (Option.bind_some _ _).symm.trans H; with_reducible exact H2_) | with_reducible exact H | (rw [hy145]; exact H) | exact H
                  have Ny145 := Aside0.mk hy145
                  clear hy145
                  obtain rfl := Option.some.inj H
                  go_wp2_with (first | ((with_reducible refine gate_dst (N := 34) rfl ?_); refine Kd.R_lit Kd.string _ 9 ?hg (N := 34) ?hd (xs := ([a0] : List ByteArray)) (inner := [.string a0]) (ok := fun _ => True) (okp := fun _ => True) ?hr ?hp (fun _ hk => hk) trivial (Below.refl _ _) (Nat.le_refl _) (by simp) ?_; ((case hd => rfl); (case hg => rfl); (case hr => first | (go_simp; done) | (go_simp; rfl))); (case hp => exact (Reps.one (show Kd.M Kd.string _ _ _ a0 [.string a0] from rfl) (Reps.none _ _))); intro v146 w26 ho27 hb hg_ hnew_; clear hg_ hnew_; (first | rw [← Ny145.out] at ho27 | (simp only [Int.reduceToNat] at ho27; rw [← Ny145.out] at ho27)); have n0_ := Am (Kd.R_lower ho27 (below_size (by (repeat (first | (with_reducible first | exact HB.out | apply below_alloc | apply pw_below_drewN | apply below_drew1) | exact HB.out))))); have n1_ := Am (below_step (by (repeat (first | (with_reducible first | exact HB.out | apply below_alloc | apply pw_below_drewN | apply below_drew1) | exact HB.out))) hb); clear HB; have HO147 := n0_; have HB := n1_; clear n0_ n1_; clear hb ho27))
                  go_ret
                  exact ⟨_, by (first | rfl | (simp [errW_none, errW_some] <;> rfl) | (simp [*, errW_none, errW_some] <;> rfl)), by (with_reducible repeat (first | apply Kd.R_alloc | apply Kd.R_drewN | apply Kd.R_drew)); exact HO147.out, by (repeat (first | (with_reducible first | exact HB.out | apply below_alloc | apply pw_below_drewN | apply below_drew1) | exact HB.out))⟩
                · rw [if_neg c25] at H
                  have c25b0 : (a0.toList == ([100, 101, 102, 97, 117, 108, 116, 45, 115, 114, 99] : List UInt8)) = false := beq_eq_false_iff_ne.mpr c25
                  have c25b1 : (a0.toList != ([100, 101, 102, 97, 117, 108, 116, 45, 115, 114, 99] : List UInt8)) = true := bne_iff_ne.mpr c25
                  obtain rfl := Option.some.inj H
                  go_wp2
                  go_ret
                  exact ⟨_, by (first | rfl | (simp [errW_none, errW_some] <;> rfl) | (simp [*, errW_none, errW_some] <;> rfl)), by first | exact Kd.R_nil _ _ _ _ _ | exact Kd.N_nil _ _ _ _ _ | exact Kd.V_nil _ _ _ _ _ | exact Kd.Q_nil _ _ _ _ _ | exact Kd.S_nil _ _ _ _ _, by (repeat (first | (with_reducible first | exact HB.out | apply below_alloc | apply pw_below_drewN | apply below_drew1) | exact HB.out))⟩

/-! ### policy_For: function 11 -/
def policy_For.f (a0 : Int) : Option (ByteArray) := if a0 = 1 then (some (⟨#[99, 111, 110, 110, 101, 99, 116, 45, 115, 114, 99]⟩ : ByteArray)) else (if a0 = 2 then (some (⟨#[115, 99, 114, 105, 112, 116, 45, 115, 114, 99, 45, 101, 108, 101, 109]⟩ : ByteArray)) else (if a0 = 3 then (some (⟨#[115, 116, 121, 108, 101, 45, 115, 114, 99, 45, 101, 108, 101, 109]⟩ : ByteArray)) else (if a0 = 4 then (some (⟨#[105, 109, 103, 45, 115, 114, 99]⟩ : ByteArray)) else (if a0 = 5 then (some (⟨#[102, 111, 110, 116, 45, 115, 114, 99]⟩ : ByteArray)) else (if a0 = 6 then (some (⟨#[102, 114, 97, 109, 101, 45, 115, 114, 99]⟩ : ByteArray)) else (some (⟨#[]⟩ : ByteArray)))))))
set_option maxHeartbeats 8000000 in
set_option maxRecDepth 100000 in
theorem policy_For.calls (a0 : Int) (r : ByteArray) (w : World) (h : policy_For.f a0 = some r) :
    Calls Tryd.prog 11 #[.int .i64 a0] w fun e w' => e = .returned (.string r) ∧ Drawn0 w w' := by
  have H : (if a0 = 1 then (some (⟨#[99, 111, 110, 110, 101, 99, 116, 45, 115, 114, 99]⟩ : ByteArray)) else (if a0 = 2 then (some (⟨#[115, 99, 114, 105, 112, 116, 45, 115, 114, 99, 45, 101, 108, 101, 109]⟩ : ByteArray)) else (if a0 = 3 then (some (⟨#[115, 116, 121, 108, 101, 45, 115, 114, 99, 45, 101, 108, 101, 109]⟩ : ByteArray)) else (if a0 = 4 then (some (⟨#[105, 109, 103, 45, 115, 114, 99]⟩ : ByteArray)) else (if a0 = 5 then (some (⟨#[102, 111, 110, 116, 45, 115, 114, 99]⟩ : ByteArray)) else (if a0 = 6 then (some (⟨#[102, 114, 97, 109, 101, 45, 115, 114, 99]⟩ : ByteArray)) else (some (⟨#[]⟩ : ByteArray)))))))) = some r := h
  clear h
  by_cases c2 : a0 = 1
  · rw [if_pos c2] at H
    have c2b0 : (a0 == 1) = true := beq_iff_eq.mpr c2
    have c2b1 : (a0 != 1) = false := bne_eq_false_iff_eq.mpr c2
    clear c2
    obtain rfl := Option.some.inj H
    go_enter Tryd.func11, Tryd.ntmps11
    go_wp2
    go_ret
    exact ⟨by first | rfl | (simp; done) | (simp [*]; done) | (congr 2; generalize ByteArray.toList _ = l; cases l <;> rfl), by repeat (first | exact Drawn0.refl _ | apply Drawn0.step)⟩
  · rw [if_neg c2] at H
    have c2b0 : (a0 == 1) = false := beq_eq_false_iff_ne.mpr c2
    have c2b1 : (a0 != 1) = true := bne_iff_ne.mpr c2
    by_cases c3 : a0 = 2
    · rw [if_pos c3] at H
      have c3b0 : (a0 == 2) = true := beq_iff_eq.mpr c3
      have c3b1 : (a0 != 2) = false := bne_eq_false_iff_eq.mpr c3
      clear c3
      obtain rfl := Option.some.inj H
      go_enter Tryd.func11, Tryd.ntmps11
      go_wp2
      go_ret
      exact ⟨by first | rfl | (simp; done) | (simp [*]; done) | (congr 2; generalize ByteArray.toList _ = l; cases l <;> rfl), by repeat (first | exact Drawn0.refl _ | apply Drawn0.step)⟩
    · rw [if_neg c3] at H
      have c3b0 : (a0 == 2) = false := beq_eq_false_iff_ne.mpr c3
      have c3b1 : (a0 != 2) = true := bne_iff_ne.mpr c3
      by_cases c4 : a0 = 3
      · rw [if_pos c4] at H
        have c4b0 : (a0 == 3) = true := beq_iff_eq.mpr c4
        have c4b1 : (a0 != 3) = false := bne_eq_false_iff_eq.mpr c4
        clear c4
        obtain rfl := Option.some.inj H
        go_enter Tryd.func11, Tryd.ntmps11
        go_wp2
        go_ret
        exact ⟨by first | rfl | (simp; done) | (simp [*]; done) | (congr 2; generalize ByteArray.toList _ = l; cases l <;> rfl), by repeat (first | exact Drawn0.refl _ | apply Drawn0.step)⟩
      · rw [if_neg c4] at H
        have c4b0 : (a0 == 3) = false := beq_eq_false_iff_ne.mpr c4
        have c4b1 : (a0 != 3) = true := bne_iff_ne.mpr c4
        by_cases c5 : a0 = 4
        · rw [if_pos c5] at H
          have c5b0 : (a0 == 4) = true := beq_iff_eq.mpr c5
          have c5b1 : (a0 != 4) = false := bne_eq_false_iff_eq.mpr c5
          clear c5
          obtain rfl := Option.some.inj H
          go_enter Tryd.func11, Tryd.ntmps11
          go_wp2
          go_ret
          exact ⟨by first | rfl | (simp; done) | (simp [*]; done) | (congr 2; generalize ByteArray.toList _ = l; cases l <;> rfl), by repeat (first | exact Drawn0.refl _ | apply Drawn0.step)⟩
        · rw [if_neg c5] at H
          have c5b0 : (a0 == 4) = false := beq_eq_false_iff_ne.mpr c5
          have c5b1 : (a0 != 4) = true := bne_iff_ne.mpr c5
          by_cases c6 : a0 = 5
          · rw [if_pos c6] at H
            have c6b0 : (a0 == 5) = true := beq_iff_eq.mpr c6
            have c6b1 : (a0 != 5) = false := bne_eq_false_iff_eq.mpr c6
            clear c6
            obtain rfl := Option.some.inj H
            go_enter Tryd.func11, Tryd.ntmps11
            go_wp2
            go_ret
            exact ⟨by first | rfl | (simp; done) | (simp [*]; done) | (congr 2; generalize ByteArray.toList _ = l; cases l <;> rfl), by repeat (first | exact Drawn0.refl _ | apply Drawn0.step)⟩
          · rw [if_neg c6] at H
            have c6b0 : (a0 == 5) = false := beq_eq_false_iff_ne.mpr c6
            have c6b1 : (a0 != 5) = true := bne_iff_ne.mpr c6
            by_cases c7 : a0 = 6
            · rw [if_pos c7] at H
              have c7b0 : (a0 == 6) = true := beq_iff_eq.mpr c7
              have c7b1 : (a0 != 6) = false := bne_eq_false_iff_eq.mpr c7
              clear c7
              obtain rfl := Option.some.inj H
              go_enter Tryd.func11, Tryd.ntmps11
              go_wp2
              go_ret
              exact ⟨by first | rfl | (simp; done) | (simp [*]; done) | (congr 2; generalize ByteArray.toList _ = l; cases l <;> rfl), by repeat (first | exact Drawn0.refl _ | apply Drawn0.step)⟩
            · rw [if_neg c7] at H
              have c7b0 : (a0 == 6) = false := beq_eq_false_iff_ne.mpr c7
              have c7b1 : (a0 != 6) = true := bne_iff_ne.mpr c7
              obtain rfl := Option.some.inj H
              go_enter Tryd.func11, Tryd.ntmps11
              go_wp2
              go_ret
              exact ⟨by first | rfl | (simp; done) | (simp [*]; done) | (congr 2; generalize ByteArray.toList _ = l; cases l <;> rfl), by repeat (first | exact Drawn0.refl _ | apply Drawn0.step)⟩

end Go.Proofs.YtohcjdninpjpgaaDoor.PX
