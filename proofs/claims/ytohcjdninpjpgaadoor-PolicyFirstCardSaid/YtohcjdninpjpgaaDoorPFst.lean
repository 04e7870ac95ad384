/- PolicyFirst: the walk, printed by a program, cut to the leaf that answers true. -/
import Derived.Test.YtohcjdninpjpgaaDoorPXx1
import Derived.Test.YtohcjdninpjpgaaDoorPXx2
import Derived.Test.YtohcjdninpjpgaaDoorPXx3
import Derived.Test.YtohcjdninpjpgaaDoorPWord
namespace Go.Proofs.YtohcjdninpjpgaaDoor.PX
open Go.Proofs.YtohcjdninpjpgaaDoor.Own
open Go.RowKit Go.Proofs.YtohcjdninpjpgaaDoorW.PrintWords Go.Proofs.YtohcjdninpjpgaaDoorW.PrintLast Go.Proofs.YtohcjdninpjpgaaDoorW.PrintMore
attribute [local go_sem] max2_int min2_int max_two min_two max_three min_three max_four min_four   -- for this text's walks alone
set_option linter.unusedVariables false
set_option linter.unusedSimpArgs false

/-! ### ostiarylaw10_PolicyFirst: function 7 -/
def ostiarylaw10_PolicyFirst.f (k : Nat) (a0 : ByteArray) (a1 : ByteArray) : Option (Bool) := (ostiarylaw10_word.f k a0).bind fun t223 => ((ostiarylaw10_word.f k a1).bind fun t224 => (if 12 + t223.size ≤ 9223372036854775807 then (if ((⟨#[100, 101, 102, 97, 117, 108, 116, 45, 115, 114, 99, 32]⟩ : ByteArray) ++ t223).size + 10 ≤ 9223372036854775807 then (if (((⟨#[100, 101, 102, 97, 117, 108, 116, 45, 115, 114, 99, 32]⟩ : ByteArray) ++ t223) ++ (⟨#[59, 32, 105, 109, 103, 45, 115, 114, 99, 32]⟩ : ByteArray)).size + t224.size ≤ 9223372036854775807 then (if ((((⟨#[100, 101, 102, 97, 117, 108, 116, 45, 115, 114, 99, 32]⟩ : ByteArray) ++ t223) ++ (⟨#[59, 32, 105, 109, 103, 45, 115, 114, 99, 32]⟩ : ByteArray)) ++ t224).size + 15 ≤ 9223372036854775807 then ((policy_Parse.f k (((((⟨#[100, 101, 102, 97, 117, 108, 116, 45, 115, 114, 99, 32]⟩ : ByteArray) ++ t223) ++ (⟨#[59, 32, 105, 109, 103, 45, 115, 114, 99, 32]⟩ : ByteArray)) ++ t224) ++ (⟨#[59, 32, 73, 109, 103, 45, 83, 114, 99, 32, 111, 116, 104, 101, 114]⟩ : ByteArray)) false).bind fun bt225 => ((policy_Values.f k bt225.1 bt225.2 (⟨#[105, 109, 103, 45, 115, 114, 99]⟩ : ByteArray)).bind fun bt230 => ((policy_Values.f k bt225.1 bt225.2 (⟨#[102, 111, 110, 116, 45, 115, 114, 99]⟩ : ByteArray)).bind fun bt235 => (if 11 + t223.size ≤ 9223372036854775807 then ((policy_Parse.f k ((⟨#[115, 99, 114, 105, 112, 116, 45, 115, 114, 99, 32]⟩ : ByteArray) ++ t223) false).bind fun bt240 => ((policy_Values.f k bt240.1 bt240.2 (⟨#[105, 109, 103, 45, 115, 114, 99]⟩ : ByteArray)).bind fun bt244 => (if 26 + t223.size ≤ 9223372036854775807 then ((policy_Parse.f k ((⟨#[100, 101, 102, 97, 117, 108, 116, 45, 115, 114, 99, 32, 97, 59, 32, 115, 99, 114, 105, 112, 116, 45, 115, 114, 99, 32]⟩ : ByteArray) ++ t223) false).bind fun bt249 => ((policy_For.f 2).bind fun t254 => ((policy_Values.f k bt249.1 bt249.2 t254).bind fun bt255 => (if bt230.2.2 = true then (if bt230.2.1.toList = ([105, 109, 103, 45, 115, 114, 99] : List UInt8) then ((ostiarybook_Same_string.f k bt230.1 (([t224] : List ByteArray))).bind fun t263 => (if t263 = true then (if bt235.2.2 = true then (if bt235.2.1.toList = ([100, 101, 102, 97, 117, 108, 116, 45, 115, 114, 99] : List UInt8) then ((ostiarybook_Same_string.f k bt235.1 (([t223] : List ByteArray))).bind fun t267 => (if t267 = true then (if bt244.2.2 = true then (some false) else (if bt255.2.2 = true then (if bt255.2.1.toList = ([115, 99, 114, 105, 112, 116, 45, 115, 114, 99] : List UInt8) then ((ostiarybook_Same_string.f k bt255.1 (([t223] : List ByteArray))).bind fun t271 => (if t271 = true then ((ostiarylaw10_known.f k).bind fun t272 => (some t272)) else (some false))) else (some false)) else (some false))) else (some false))) else (some false)) else (some false)) else (some false))) else (some false)) else (some false))))) else (none)))) else (none))))) else (none)) else (none)) else (none)) else (none)))
theorem ostiarylaw10_PolicyFirst.mono : ∀ a0 a1 k, LeO (ostiarylaw10_PolicyFirst.f k a0 a1) (ostiarylaw10_PolicyFirst.f (k + 1) a0 a1) := by
  intro a0 a1 k
  unfold ostiarylaw10_PolicyFirst.f
  repeat' first
      | (with_reducible exact ostiarybook_Same_string.mono _ _ _)
      | (with_reducible exact ostiarylaw10_known.mono _)
      | (with_reducible exact ostiarylaw10_word.mono _ _)
      | (with_reducible exact policy_Parse.mono _ _ _)
      | (with_reducible exact policy_Values.mono _ _ _ _)
      | (with_reducible exact LeO.refl _)
      | (with_reducible exact LeO.none _)
      | (with_reducible refine LeO.ite ?_ ?_)
      | (with_reducible refine LeO.bind ?_ (fun _ => ?_))
      | exact ostiarybook_Same_string.mono _ _ _
      | exact ostiarylaw10_known.mono _
      | exact ostiarylaw10_word.mono _ _
      | exact policy_Parse.mono _ _ _
      | exact policy_Values.mono _ _ _ _
      | exact LeO.none _
      | refine LeO.ite ?_ ?_
      | refine LeO.bind ?_ (fun _ => ?_)
def ostiarylaw10_PolicyFirst.T8 : Bool × List (List Nat × List Nat) := (true, [([], []), ([], []), ([0, 1, 1], [0, 1]), ([2], [2]), ([3], [3]), ([3], [3]), ([3], [3]), ([4, 2, 0, 1, 2, 3, 4], [4]), ([5, 7, 0, 1, 2, 3, 4, 5, 7], [5]), ([6, 8, 0, 1, 2, 3, 4, 5, 6, 7, 8], [6])])
def ostiarylaw10_PolicyFirst.B8 : List Nat := [0, 0, 3, 7, 15, 15, 15, 31, 191, 511]
theorem ostiarylaw10_PolicyFirst.tab8 : rtab .any (opsOf Tryd.f7 8) = ostiarylaw10_PolicyFirst.T8 := by kernel_rfl
theorem ostiarylaw10_PolicyFirst.bits8 : waitsOk ostiarylaw10_PolicyFirst.T8.2 ostiarylaw10_PolicyFirst.B8 = true := by kernel_rfl
set_option maxHeartbeats 8000000 in
set_option maxRecDepth 100000 in
theorem ostiarylaw10_PolicyFirst.calls (k : Nat) (a0 : ByteArray) (a1 : ByteArray) (r : Bool) (w : World) (h : ostiarylaw10_PolicyFirst.f k a0 a1 = some r) (hrt : r = true) :
    Calls Tryd.prog 7 #[.string a0, .string a1] w fun e w' => e = .returned (.bool r) ∧ Below w.heap.size w w' := by
  have hu33 := Tryd.underlying33
  have HB := Am (Below.refl w.heap.size w)
  have H : ((ostiarylaw10_word.f k a0).bind fun t223 => ((ostiarylaw10_word.f k a1).bind fun t224 => (if 12 + t223.size ≤ 9223372036854775807 then (if ((⟨#[100, 101, 102, 97, 117, 108, 116, 45, 115, 114, 99, 32]⟩ : ByteArray) ++ t223).size + 10 ≤ 9223372036854775807 then (if (((⟨#[100, 101, 102, 97, 117, 108, 116, 45, 115, 114, 99, 32]⟩ : ByteArray) ++ t223) ++ (⟨#[59, 32, 105, 109, 103, 45, 115, 114, 99, 32]⟩ : ByteArray)).size + t224.size ≤ 9223372036854775807 then (if ((((⟨#[100, 101, 102, 97, 117, 108, 116, 45, 115, 114, 99, 32]⟩ : ByteArray) ++ t223) ++ (⟨#[59, 32, 105, 109, 103, 45, 115, 114, 99, 32]⟩ : ByteArray)) ++ t224).size + 15 ≤ 9223372036854775807 then ((policy_Parse.f k (((((⟨#[100, 101, 102, 97, 117, 108, 116, 45, 115, 114, 99, 32]⟩ : ByteArray) ++ t223) ++ (⟨#[59, 32, 105, 109, 103, 45, 115, 114, 99, 32]⟩ : ByteArray)) ++ t224) ++ (⟨#[59, 32, 73, 109, 103, 45, 83, 114, 99, 32, 111, 116, 104, 101, 114]⟩ : ByteArray)) false).bind fun bt225 => ((policy_Values.f k bt225.1 bt225.2 (⟨#[105, 109, 103, 45, 115, 114, 99]⟩ : ByteArray)).bind fun bt230 => ((policy_Values.f k bt225.1 bt225.2 (⟨#[102, 111, 110, 116, 45, 115, 114, 99]⟩ : ByteArray)).bind fun bt235 => (if 11 + t223.size ≤ 9223372036854775807 then ((policy_Parse.f k ((⟨#[115, 99, 114, 105, 112, 116, 45, 115, 114, 99, 32]⟩ : ByteArray) ++ t223) false).bind fun bt240 => ((policy_Values.f k bt240.1 bt240.2 (⟨#[105, 109, 103, 45, 115, 114, 99]⟩ : ByteArray)).bind fun bt244 => (if 26 + t223.size ≤ 9223372036854775807 then ((policy_Parse.f k ((⟨#[100, 101, 102, 97, 117, 108, 116, 45, 115, 114, 99, 32, 97, 59, 32, 115, 99, 114, 105, 112, 116, 45, 115, 114, 99, 32]⟩ : ByteArray) ++ t223) false).bind fun bt249 => ((policy_For.f 2).bind fun t254 => ((policy_Values.f k bt249.1 bt249.2 t254).bind fun bt255 => (if bt230.2.2 = true then (if bt230.2.1.toList = ([105, 109, 103, 45, 115, 114, 99] : List UInt8) then ((ostiarybook_Same_string.f k bt230.1 (([t224] : List ByteArray))).bind fun t263 => (if t263 = true then (if bt235.2.2 = true then (if bt235.2.1.toList = ([100, 101, 102, 97, 117, 108, 116, 45, 115, 114, 99] : List UInt8) then ((ostiarybook_Same_string.f k bt235.1 (([t223] : List ByteArray))).bind fun t267 => (if t267 = true then (if bt244.2.2 = true then (some false) else (if bt255.2.2 = true then (if bt255.2.1.toList = ([115, 99, 114, 105, 112, 116, 45, 115, 114, 99] : List UInt8) then ((ostiarybook_Same_string.f k bt255.1 (([t223] : List ByteArray))).bind fun t271 => (if t271 = true then ((ostiarylaw10_known.f k).bind fun t272 => (some t272)) else (some false))) else (some false)) else (some false))) else (some false))) else (some false)) else (some false)) else (some false))) else (some false)) else (some false))))) else (none)))) else (none))))) else (none)) else (none)) else (none)) else (none)))) = some r := h
  clear h
  replace H := Option.bind_eq_some_iff.mp H
  obtain ⟨t223, A30, H⟩ := H
  replace H : ((ostiarylaw10_word.f k a1).bind fun t224 => (if 12 + t223.size ≤ 9223372036854775807 then (if ((⟨#[100, 101, 102, 97, 117, 108, 116, 45, 115, 114, 99, 32]⟩ : ByteArray) ++ t223).size + 10 ≤ 9223372036854775807 then (if (((⟨#[100, 101, 102, 97, 117, 108, 116, 45, 115, 114, 99, 32]⟩ : ByteArray) ++ t223) ++ (⟨#[59, 32, 105, 109, 103, 45, 115, 114, 99, 32]⟩ : ByteArray)).size + t224.size ≤ 9223372036854775807 then (if ((((⟨#[100, 101, 102, 97, 117, 108, 116, 45, 115, 114, 99, 32]⟩ : ByteArray) ++ t223) ++ (⟨#[59, 32, 105, 109, 103, 45, 115, 114, 99, 32]⟩ : ByteArray)) ++ t224).size + 15 ≤ 9223372036854775807 then ((policy_Parse.f k (((((⟨#[100, 101, 102, 97, 117, 108, 116, 45, 115, 114, 99, 32]⟩ : ByteArray) ++ t223) ++ (⟨#[59, 32, 105, 109, 103, 45, 115, 114, 99, 32]⟩ : ByteArray)) ++ t224) ++ (⟨#[59, 32, 73, 109, 103, 45, 83, 114, 99, 32, 111, 116, 104, 101, 114]⟩ : ByteArray)) false).bind fun bt225 => ((policy_Values.f k bt225.1 bt225.2 (⟨#[105, 109, 103, 45, 115, 114, 99]⟩ : ByteArray)).bind fun bt230 => ((policy_Values.f k bt225.1 bt225.2 (⟨#[102, 111, 110, 116, 45, 115, 114, 99]⟩ : ByteArray)).bind fun bt235 => (if 11 + t223.size ≤ 9223372036854775807 then ((policy_Parse.f k ((⟨#[115, 99, 114, 105, 112, 116, 45, 115, 114, 99, 32]⟩ : ByteArray) ++ t223) false).bind fun bt240 => ((policy_Values.f k bt240.1 bt240.2 (⟨#[105, 109, 103, 45, 115, 114, 99]⟩ : ByteArray)).bind fun bt244 => (if 26 + t223.size ≤ 9223372036854775807 then ((policy_Parse.f k ((⟨#[100, 101, 102, 97, 117, 108, 116, 45, 115, 114, 99, 32, 97, 59, 32, 115, 99, 114, 105, 112, 116, 45, 115, 114, 99, 32]⟩ : ByteArray) ++ t223) false).bind fun bt249 => ((policy_For.f 2).bind fun t254 => ((policy_Values.f k bt249.1 bt249.2 t254).bind fun bt255 => (if bt230.2.2 = true then (if bt230.2.1.toList = ([105, 109, 103, 45, 115, 114, 99] : List UInt8) then ((ostiarybook_Same_string.f k bt230.1 (([t224] : List ByteArray))).bind fun t263 => (if t263 = true then (if bt235.2.2 = true then (if bt235.2.1.toList = ([100, 101, 102, 97, 117, 108, 116, 45, 115, 114, 99] : List UInt8) then ((ostiarybook_Same_string.f k bt235.1 (([t223] : List ByteArray))).bind fun t267 => (if t267 = true then (if bt244.2.2 = true then (some false) else (if bt255.2.2 = true then (if bt255.2.1.toList = ([115, 99, 114, 105, 112, 116, 45, 115, 114, 99] : List UInt8) then ((ostiarybook_Same_string.f k bt255.1 (([t223] : List ByteArray))).bind fun t271 => (if t271 = true then ((ostiarylaw10_known.f k).bind fun t272 => (some t272)) else (some false))) else (some false)) else (some false))) else (some false))) else (some false)) else (some false)) else (some false))) else (some false)) else (some false))))) else (none)))) else (none))))) else (none)) else (none)) else (none)) else (none))) = some r := H
  have A3 := Aside0.mk A30
  clear A30
  replace H := Option.bind_eq_some_iff.mp H
  obtain ⟨t224, A40, H⟩ := H
  replace H : (if 12 + t223.size ≤ 9223372036854775807 then (if ((⟨#[100, 101, 102, 97, 117, 108, 116, 45, 115, 114, 99, 32]⟩ : ByteArray) ++ t223).size + 10 ≤ 9223372036854775807 then (if (((⟨#[100, 101, 102, 97, 117, 108, 116, 45, 115, 114, 99, 32]⟩ : ByteArray) ++ t223) ++ (⟨#[59, 32, 105, 109, 103, 45, 115, 114, 99, 32]⟩ : ByteArray)).size + t224.size ≤ 9223372036854775807 then (if ((((⟨#[100, 101, 102, 97, 117, 108, 116, 45, 115, 114, 99, 32]⟩ : ByteArray) ++ t223) ++ (⟨#[59, 32, 105, 109, 103, 45, 115, 114, 99, 32]⟩ : ByteArray)) ++ t224).size + 15 ≤ 9223372036854775807 then ((policy_Parse.f k (((((⟨#[100, 101, 102, 97, 117, 108, 116, 45, 115, 114, 99, 32]⟩ : ByteArray) ++ t223) ++ (⟨#[59, 32, 105, 109, 103, 45, 115, 114, 99, 32]⟩ : ByteArray)) ++ t224) ++ (⟨#[59, 32, 73, 109, 103, 45, 83, 114, 99, 32, 111, 116, 104, 101, 114]⟩ : ByteArray)) false).bind fun bt225 => ((policy_Values.f k bt225.1 bt225.2 (⟨#[105, 109, 103, 45, 115, 114, 99]⟩ : ByteArray)).bind fun bt230 => ((policy_Values.f k bt225.1 bt225.2 (⟨#[102, 111, 110, 116, 45, 115, 114, 99]⟩ : ByteArray)).bind fun bt235 => (if 11 + t223.size ≤ 9223372036854775807 then ((policy_Parse.f k ((⟨#[115, 99, 114, 105, 112, 116, 45, 115, 114, 99, 32]⟩ : ByteArray) ++ t223) false).bind fun bt240 => ((policy_Values.f k bt240.1 bt240.2 (⟨#[105, 109, 103, 45, 115, 114, 99]⟩ : ByteArray)).bind fun bt244 => (if 26 + t223.size ≤ 9223372036854775807 then ((policy_Parse.f k ((⟨#[100, 101, 102, 97, 117, 108, 116, 45, 115, 114, 99, 32, 97, 59, 32, 115, 99, 114, 105, 112, 116, 45, 115, 114, 99, 32]⟩ : ByteArray) ++ t223) false).bind fun bt249 => ((policy_For.f 2).bind fun t254 => ((policy_Values.f k bt249.1 bt249.2 t254).bind fun bt255 => (if bt230.2.2 = true then (if bt230.2.1.toList = ([105, 109, 103, 45, 115, 114, 99] : List UInt8) then ((ostiarybook_Same_string.f k bt230.1 (([t224] : List ByteArray))).bind fun t263 => (if t263 = true then (if bt235.2.2 = true then (if bt235.2.1.toList = ([100, 101, 102, 97, 117, 108, 116, 45, 115, 114, 99] : List UInt8) then ((ostiarybook_Same_string.f k bt235.1 (([t223] : List ByteArray))).bind fun t267 => (if t267 = true then (if bt244.2.2 = true then (some false) else (if bt255.2.2 = true then (if bt255.2.1.toList = ([115, 99, 114, 105, 112, 116, 45, 115, 114, 99] : List UInt8) then ((ostiarybook_Same_string.f k bt255.1 (([t223] : List ByteArray))).bind fun t271 => (if t271 = true then ((ostiarylaw10_known.f k).bind fun t272 => (some t272)) else (some false))) else (some false)) else (some false))) else (some false))) else (some false)) else (some false)) else (some false))) else (some false)) else (some false))))) else (none)))) else (none))))) else (none)) else (none)) else (none)) else (none)) = some r := H
  have A4 := Aside0.mk A40
  clear A40
  by_cases c5 : 12 + t223.size ≤ 9223372036854775807
  · rw [if_pos c5] at H
    have c5b0 := eq_true c5
    have c5b1 : decide (12 + t223.size ≤ 9223372036854775807) = true := decide_eq_true c5
    try have c5b2 : (9223372036854775807 < 12 + t223.size) = False := eq_false (Nat.not_lt.2 c5)
    by_cases c6 : ((⟨#[100, 101, 102, 97, 117, 108, 116, 45, 115, 114, 99, 32]⟩ : ByteArray) ++ t223).size + 10 ≤ 9223372036854775807
    · rw [if_pos c6] at H
      have c6b0 := eq_true c6
      have c6b1 : decide (((⟨#[100, 101, 102, 97, 117, 108, 116, 45, 115, 114, 99, 32]⟩ : ByteArray) ++ t223).size + 10 ≤ 9223372036854775807) = true := decide_eq_true c6
      try have c6b2 : (9223372036854775807 < ((⟨#[100, 101, 102, 97, 117, 108, 116, 45, 115, 114, 99, 32]⟩ : ByteArray) ++ t223).size + 10) = False := eq_false (Nat.not_lt.2 c6)
      by_cases c7 : (((⟨#[100, 101, 102, 97, 117, 108, 116, 45, 115, 114, 99, 32]⟩ : ByteArray) ++ t223) ++ (⟨#[59, 32, 105, 109, 103, 45, 115, 114, 99, 32]⟩ : ByteArray)).size + t224.size ≤ 9223372036854775807
      · rw [if_pos c7] at H
        have c7b0 := eq_true c7
        have c7b1 : decide ((((⟨#[100, 101, 102, 97, 117, 108, 116, 45, 115, 114, 99, 32]⟩ : ByteArray) ++ t223) ++ (⟨#[59, 32, 105, 109, 103, 45, 115, 114, 99, 32]⟩ : ByteArray)).size + t224.size ≤ 9223372036854775807) = true := decide_eq_true c7
        try have c7b2 : (9223372036854775807 < (((⟨#[100, 101, 102, 97, 117, 108, 116, 45, 115, 114, 99, 32]⟩ : ByteArray) ++ t223) ++ (⟨#[59, 32, 105, 109, 103, 45, 115, 114, 99, 32]⟩ : ByteArray)).size + t224.size) = False := eq_false (Nat.not_lt.2 c7)
        by_cases c8 : ((((⟨#[100, 101, 102, 97, 117, 108, 116, 45, 115, 114, 99, 32]⟩ : ByteArray) ++ t223) ++ (⟨#[59, 32, 105, 109, 103, 45, 115, 114, 99, 32]⟩ : ByteArray)) ++ t224).size + 15 ≤ 9223372036854775807
        · rw [if_pos c8] at H
          have c8b0 := eq_true c8
          have c8b1 : decide (((((⟨#[100, 101, 102, 97, 117, 108, 116, 45, 115, 114, 99, 32]⟩ : ByteArray) ++ t223) ++ (⟨#[59, 32, 105, 109, 103, 45, 115, 114, 99, 32]⟩ : ByteArray)) ++ t224).size + 15 ≤ 9223372036854775807) = true := decide_eq_true c8
          try have c8b2 : (9223372036854775807 < ((((⟨#[100, 101, 102, 97, 117, 108, 116, 45, 115, 114, 99, 32]⟩ : ByteArray) ++ t223) ++ (⟨#[59, 32, 105, 109, 103, 45, 115, 114, 99, 32]⟩ : ByteArray)) ++ t224).size + 15) = False := eq_false (Nat.not_lt.2 c8)
          replace H := Option.bind_eq_some_iff.mp H
          obtain ⟨⟨t225, t228⟩, A90, H⟩ := H
          replace H : ((policy_Values.f k t225 t228 (⟨#[105, 109, 103, 45, 115, 114, 99]⟩ : ByteArray)).bind fun bt230 => ((policy_Values.f k t225 t228 (⟨#[102, 111, 110, 116, 45, 115, 114, 99]⟩ : ByteArray)).bind fun bt235 => (if 11 + t223.size ≤ 9223372036854775807 then ((policy_Parse.f k ((⟨#[115, 99, 114, 105, 112, 116, 45, 115, 114, 99, 32]⟩ : ByteArray) ++ t223) false).bind fun bt240 => ((policy_Values.f k bt240.1 bt240.2 (⟨#[105, 109, 103, 45, 115, 114, 99]⟩ : ByteArray)).bind fun bt244 => (if 26 + t223.size ≤ 9223372036854775807 then ((policy_Parse.f k ((⟨#[100, 101, 102, 97, 117, 108, 116, 45, 115, 114, 99, 32, 97, 59, 32, 115, 99, 114, 105, 112, 116, 45, 115, 114, 99, 32]⟩ : ByteArray) ++ t223) false).bind fun bt249 => ((policy_For.f 2).bind fun t254 => ((policy_Values.f k bt249.1 bt249.2 t254).bind fun bt255 => (if bt230.2.2 = true then (if bt230.2.1.toList = ([105, 109, 103, 45, 115, 114, 99] : List UInt8) then ((ostiarybook_Same_string.f k bt230.1 (([t224] : List ByteArray))).bind fun t263 => (if t263 = true then (if bt235.2.2 = true then (if bt235.2.1.toList = ([100, 101, 102, 97, 117, 108, 116, 45, 115, 114, 99] : List UInt8) then ((ostiarybook_Same_string.f k bt235.1 (([t223] : List ByteArray))).bind fun t267 => (if t267 = true then (if bt244.2.2 = true then (some false) else (if bt255.2.2 = true then (if bt255.2.1.toList = ([115, 99, 114, 105, 112, 116, 45, 115, 114, 99] : List UInt8) then ((ostiarybook_Same_string.f k bt255.1 (([t223] : List ByteArray))).bind fun t271 => (if t271 = true then ((ostiarylaw10_known.f k).bind fun t272 => (some t272)) else (some false))) else (some false)) else (some false))) else (some false))) else (some false)) else (some false)) else (some false))) else (some false)) else (some false))))) else (none)))) else (none)))) = some r := H
          have A9 := Aside0.mk A90
          clear A90
          replace H := Option.bind_eq_some_iff.mp H
          obtain ⟨⟨t230, t233, t234⟩, A100, H⟩ := H
          replace H : ((policy_Values.f k t225 t228 (⟨#[102, 111, 110, 116, 45, 115, 114, 99]⟩ : ByteArray)).bind fun bt235 => (if 11 + t223.size ≤ 9223372036854775807 then ((policy_Parse.f k ((⟨#[115, 99, 114, 105, 112, 116, 45, 115, 114, 99, 32]⟩ : ByteArray) ++ t223) false).bind fun bt240 => ((policy_Values.f k bt240.1 bt240.2 (⟨#[105, 109, 103, 45, 115, 114, 99]⟩ : ByteArray)).bind fun bt244 => (if 26 + t223.size ≤ 9223372036854775807 then ((policy_Parse.f k ((⟨#[100, 101, 102, 97, 117, 108, 116, 45, 115, 114, 99, 32, 97, 59, 32, 115, 99, 114, 105, 112, 116, 45, 115, 114, 99, 32]⟩ : ByteArray) ++ t223) false).bind fun bt249 => ((policy_For.f 2).bind fun t254 => ((policy_Values.f k bt249.1 bt249.2 t254).bind fun bt255 => (if t234 = true then (if t233.toList = ([105, 109, 103, 45, 115, 114, 99] : List UInt8) then ((ostiarybook_Same_string.f k t230 (([t224] : List ByteArray))).bind fun t263 => (if t263 = true then (if bt235.2.2 = true then (if bt235.2.1.toList = ([100, 101, 102, 97, 117, 108, 116, 45, 115, 114, 99] : List UInt8) then ((ostiarybook_Same_string.f k bt235.1 (([t223] : List ByteArray))).bind fun t267 => (if t267 = true then (if bt244.2.2 = true then (some false) else (if bt255.2.2 = true then (if bt255.2.1.toList = ([115, 99, 114, 105, 112, 116, 45, 115, 114, 99] : List UInt8) then ((ostiarybook_Same_string.f k bt255.1 (([t223] : List ByteArray))).bind fun t271 => (if t271 = true then ((ostiarylaw10_known.f k).bind fun t272 => (some t272)) else (some false))) else (some false)) else (some false))) else (some false))) else (some false)) else (some false)) else (some false))) else (some false)) else (some false))))) else (none)))) else (none))) = some r := H
          have A10 := Aside0.mk A100
          clear A100
          replace H := Option.bind_eq_some_iff.mp H
          obtain ⟨⟨t235, t238, t239⟩, A110, H⟩ := H
          replace H : (if 11 + t223.size ≤ 9223372036854775807 then ((policy_Parse.f k ((⟨#[115, 99, 114, 105, 112, 116, 45, 115, 114, 99, 32]⟩ : ByteArray) ++ t223) false).bind fun bt240 => ((policy_Values.f k bt240.1 bt240.2 (⟨#[105, 109, 103, 45, 115, 114, 99]⟩ : ByteArray)).bind fun bt244 => (if 26 + t223.size ≤ 9223372036854775807 then ((policy_Parse.f k ((⟨#[100, 101, 102, 97, 117, 108, 116, 45, 115, 114, 99, 32, 97, 59, 32, 115, 99, 114, 105, 112, 116, 45, 115, 114, 99, 32]⟩ : ByteArray) ++ t223) false).bind fun bt249 => ((policy_For.f 2).bind fun t254 => ((policy_Values.f k bt249.1 bt249.2 t254).bind fun bt255 => (if t234 = true then (if t233.toList = ([105, 109, 103, 45, 115, 114, 99] : List UInt8) then ((ostiarybook_Same_string.f k t230 (([t224] : List ByteArray))).bind fun t263 => (if t263 = true then (if t239 = true then (if t238.toList = ([100, 101, 102, 97, 117, 108, 116, 45, 115, 114, 99] : List UInt8) then ((ostiarybook_Same_string.f k t235 (([t223] : List ByteArray))).bind fun t267 => (if t267 = true then (if bt244.2.2 = true then (some false) else (if bt255.2.2 = true then (if bt255.2.1.toList = ([115, 99, 114, 105, 112, 116, 45, 115, 114, 99] : List UInt8) then ((ostiarybook_Same_string.f k bt255.1 (([t223] : List ByteArray))).bind fun t271 => (if t271 = true then ((ostiarylaw10_known.f k).bind fun t272 => (some t272)) else (some false))) else (some false)) else (some false))) else (some false))) else (some false)) else (some false)) else (some false))) else (some false)) else (some false))))) else (none)))) else (none)) = some r := H
          have A11 := Aside0.mk A110
          clear A110
          by_cases c12 : 11 + t223.size ≤ 9223372036854775807
          · rw [if_pos c12] at H
            have c12b0 := eq_true c12
            have c12b1 : decide (11 + t223.size ≤ 9223372036854775807) = true := decide_eq_true c12
            try have c12b2 : (9223372036854775807 < 11 + t223.size) = False := eq_false (Nat.not_lt.2 c12)
            replace H := Option.bind_eq_some_iff.mp H
            obtain ⟨⟨t240, t243⟩, A130, H⟩ := H
            replace H : ((policy_Values.f k t240 t243 (⟨#[105, 109, 103, 45, 115, 114, 99]⟩ : ByteArray)).bind fun bt244 => (if 26 + t223.size ≤ 9223372036854775807 then ((policy_Parse.f k ((⟨#[100, 101, 102, 97, 117, 108, 116, 45, 115, 114, 99, 32, 97, 59, 32, 115, 99, 114, 105, 112, 116, 45, 115, 114, 99, 32]⟩ : ByteArray) ++ t223) false).bind fun bt249 => ((policy_For.f 2).bind fun t254 => ((policy_Values.f k bt249.1 bt249.2 t254).bind fun bt255 => (if t234 = true then (if t233.toList = ([105, 109, 103, 45, 115, 114, 99] : List UInt8) then ((ostiarybook_Same_string.f k t230 (([t224] : List ByteArray))).bind fun t263 => (if t263 = true then (if t239 = true then (if t238.toList = ([100, 101, 102, 97, 117, 108, 116, 45, 115, 114, 99] : List UInt8) then ((ostiarybook_Same_string.f k t235 (([t223] : List ByteArray))).bind fun t267 => (if t267 = true then (if bt244.2.2 = true then (some false) else (if bt255.2.2 = true then (if bt255.2.1.toList = ([115, 99, 114, 105, 112, 116, 45, 115, 114, 99] : List UInt8) then ((ostiarybook_Same_string.f k bt255.1 (([t223] : List ByteArray))).bind fun t271 => (if t271 = true then ((ostiarylaw10_known.f k).bind fun t272 => (some t272)) else (some false))) else (some false)) else (some false))) else (some false))) else (some false)) else (some false)) else (some false))) else (some false)) else (some false))))) else (none))) = some r := H
            have A13 := Aside0.mk A130
            clear A130
            replace H := Option.bind_eq_some_iff.mp H
            obtain ⟨⟨t244, t247, t248⟩, A140, H⟩ := H
            replace H : (if 26 + t223.size ≤ 9223372036854775807 then ((policy_Parse.f k ((⟨#[100, 101, 102, 97, 117, 108, 116, 45, 115, 114, 99, 32, 97, 59, 32, 115, 99, 114, 105, 112, 116, 45, 115, 114, 99, 32]⟩ : ByteArray) ++ t223) false).bind fun bt249 => ((policy_For.f 2).bind fun t254 => ((policy_Values.f k bt249.1 bt249.2 t254).bind fun bt255 => (if t234 = true then (if t233.toList = ([105, 109, 103, 45, 115, 114, 99] : List UInt8) then ((ostiarybook_Same_string.f k t230 (([t224] : List ByteArray))).bind fun t263 => (if t263 = true then (if t239 = true then (if t238.toList = ([100, 101, 102, 97, 117, 108, 116, 45, 115, 114, 99] : List UInt8) then ((ostiarybook_Same_string.f k t235 (([t223] : List ByteArray))).bind fun t267 => (if t267 = true then (if t248 = true then (some false) else (if bt255.2.2 = true then (if bt255.2.1.toList = ([115, 99, 114, 105, 112, 116, 45, 115, 114, 99] : List UInt8) then ((ostiarybook_Same_string.f k bt255.1 (([t223] : List ByteArray))).bind fun t271 => (if t271 = true then ((ostiarylaw10_known.f k).bind fun t272 => (some t272)) else (some false))) else (some false)) else (some false))) else (some false))) else (some false)) else (some false)) else (some false))) else (some false)) else (some false))))) else (none)) = some r := H
            have A14 := Aside0.mk A140
            clear A140
            by_cases c15 : 26 + t223.size ≤ 9223372036854775807
            · rw [if_pos c15] at H
              have c15b0 := eq_true c15
              have c15b1 : decide (26 + t223.size ≤ 9223372036854775807) = true := decide_eq_true c15
              try have c15b2 : (9223372036854775807 < 26 + t223.size) = False := eq_false (Nat.not_lt.2 c15)
              replace H := Option.bind_eq_some_iff.mp H
              obtain ⟨⟨t249, t252⟩, A160, H⟩ := H
              replace H : ((policy_For.f 2).bind fun t254 => ((policy_Values.f k t249 t252 t254).bind fun bt255 => (if t234 = true then (if t233.toList = ([105, 109, 103, 45, 115, 114, 99] : List UInt8) then ((ostiarybook_Same_string.f k t230 (([t224] : List ByteArray))).bind fun t263 => (if t263 = true then (if t239 = true then (if t238.toList = ([100, 101, 102, 97, 117, 108, 116, 45, 115, 114, 99] : List UInt8) then ((ostiarybook_Same_string.f k t235 (([t223] : List ByteArray))).bind fun t267 => (if t267 = true then (if t248 = true then (some false) else (if bt255.2.2 = true then (if bt255.2.1.toList = ([115, 99, 114, 105, 112, 116, 45, 115, 114, 99] : List UInt8) then ((ostiarybook_Same_string.f k bt255.1 (([t223] : List ByteArray))).bind fun t271 => (if t271 = true then ((ostiarylaw10_known.f k).bind fun t272 => (some t272)) else (some false))) else (some false)) else (some false))) else (some false))) else (some false)) else (some false)) else (some false))) else (some false)) else (some false)))) = some r := H
              have A16 := Aside0.mk A160
              clear A160
              replace H := Option.bind_eq_some_iff.mp H
              obtain ⟨t254, A170, H⟩ := H
              replace H : ((policy_Values.f k t249 t252 t254).bind fun bt255 => (if t234 = true then (if t233.toList = ([105, 109, 103, 45, 115, 114, 99] : List UInt8) then ((ostiarybook_Same_string.f k t230 (([t224] : List ByteArray))).bind fun t263 => (if t263 = true then (if t239 = true then (if t238.toList = ([100, 101, 102, 97, 117, 108, 116, 45, 115, 114, 99] : List UInt8) then ((ostiarybook_Same_string.f k t235 (([t223] : List ByteArray))).bind fun t267 => (if t267 = true then (if t248 = true then (some false) else (if bt255.2.2 = true then (if bt255.2.1.toList = ([115, 99, 114, 105, 112, 116, 45, 115, 114, 99] : List UInt8) then ((ostiarybook_Same_string.f k bt255.1 (([t223] : List ByteArray))).bind fun t271 => (if t271 = true then ((ostiarylaw10_known.f k).bind fun t272 => (some t272)) else (some false))) else (some false)) else (some false))) else (some false))) else (some false)) else (some false)) else (some false))) else (some false)) else (some false))) = some r := H
              have A17 := Aside0.mk A170
              clear A170
              replace H := Option.bind_eq_some_iff.mp H
              obtain ⟨⟨t255, t258, t259⟩, A180, H⟩ := H
              replace H : (if t234 = true then (if t233.toList = ([105, 109, 103, 45, 115, 114, 99] : List UInt8) then ((ostiarybook_Same_string.f k t230 (([t224] : List ByteArray))).bind fun t263 => (if t263 = true then (if t239 = true then (if t238.toList = ([100, 101, 102, 97, 117, 108, 116, 45, 115, 114, 99] : List UInt8) then ((ostiarybook_Same_string.f k t235 (([t223] : List ByteArray))).bind fun t267 => (if t267 = true then (if t248 = true then (some false) else (if t259 = true then (if t258.toList = ([115, 99, 114, 105, 112, 116, 45, 115, 114, 99] : List UInt8) then ((ostiarybook_Same_string.f k t255 (([t223] : List ByteArray))).bind fun t271 => (if t271 = true then ((ostiarylaw10_known.f k).bind fun t272 => (some t272)) else (some false))) else (some false)) else (some false))) else (some false))) else (some false)) else (some false)) else (some false))) else (some false)) else (some false)) = some r := H
              have A18 := Aside0.mk A180
              clear A180
              by_cases c19 : t234 = true
              · subst c19
                have H1 : (if t233.toList = ([105, 109, 103, 45, 115, 114, 99] : List UInt8) then ((ostiarybook_Same_string.f k t230 (([t224] : List ByteArray))).bind fun t263 => (if t263 = true then (if t239 = true then (if t238.toList = ([100, 101, 102, 97, 117, 108, 116, 45, 115, 114, 99] : List UInt8) then ((ostiarybook_Same_string.f k t235 (([t223] : List ByteArray))).bind fun t267 => (if t267 = true then (if t248 = true then (some false) else (if t259 = true then (if t258.toList = ([115, 99, 114, 105, 112, 116, 45, 115, 114, 99] : List UInt8) then ((ostiarybook_Same_string.f k t255 (([t223] : List ByteArray))).bind fun t271 => (if t271 = true then ((ostiarylaw10_known.f k).bind fun t272 => (some t272)) else (some false))) else (some false)) else (some false))) else (some false))) else (some false)) else (some false)) else (some false))) else (some false)) = some r := by rw [if_pos rfl] at H; exact H
                clear H
                have H := H1
                clear H1
                by_cases c20 : t233.toList = ([105, 109, 103, 45, 115, 114, 99] : List UInt8)
                · rw [if_pos c20] at H
                  have c20b0 : (t233.toList == ([105, 109, 103, 45, 115, 114, 99] : List UInt8)) = true := beq_iff_eq.mpr c20
                  have c20b1 : (t233.toList != ([105, 109, 103, 45, 115, 114, 99] : List UInt8)) = false := bne_eq_false_iff_eq.mpr c20
                  clear c20
                  obtain ⟨y260, hy260⟩ : ∃ y_ : List ByteArray, y_ = (([t224] : List ByteArray)) := ⟨_, rfl⟩
                  replace H : ((ostiarybook_Same_string.f k t230 y260).bind fun t263 => (if t263 = true then (if t239 = true then (if t238.toList = ([100, 101, 102, 97, 117, 108, 116, 45, 115, 114, 99] : List UInt8) then ((ostiarybook_Same_string.f k t235 (([t223] : List ByteArray))).bind fun t267 => (if t267 = true then (if t248 = true then (some false) else (if t259 = true then (if t258.toList = ([115, 99, 114, 105, 112, 116, 45, 115, 114, 99] : List UInt8) then ((ostiarybook_Same_string.f k t255 (([t223] : List ByteArray))).bind fun t271 => (if t271 = true then ((ostiarylaw10_known.f k).bind fun t272 => (some t272)) else (some false))) else (some false)) else (some false))) else (some false))) else (some false)) else (some false)) else (some false))) = some r := by first | (rw [hy260]; with_reducible exact H) | (have H2_ := (Option.bind_some _ _).symm.trans H; rw [hy260]; with_reducible exact H2_) | (have H2_ := (Option.bind_some _ _).symm.trans H; with_reducible exact H2_) | with_reducible exact H | (rw [hy260]; exact H) | exact H
                  have Ny260 := Aside0.mk hy260
                  clear hy260
                  replace H := Option.bind_eq_some_iff.mp H
                  obtain ⟨t263, A210, H⟩ := H
                  replace H : (if t263 = true then (if t239 = true then (if t238.toList = ([100, 101, 102, 97, 117, 108, 116, 45, 115, 114, 99] : List UInt8) then ((ostiarybook_Same_string.f k t235 (([t223] : List ByteArray))).bind fun t267 => (if t267 = true then (if t248 = true then (some false) else (if t259 = true then (if t258.toList = ([115, 99, 114, 105, 112, 116, 45, 115, 114, 99] : List UInt8) then ((ostiarybook_Same_string.f k t255 (([t223] : List ByteArray))).bind fun t271 => (if t271 = true then ((ostiarylaw10_known.f k).bind fun t272 => (some t272)) else (some false))) else (some false)) else (some false))) else (some false))) else (some false)) else (some false)) else (some false)) = some r := H
                  have A21 := Aside0.mk A210
                  clear A210
                  by_cases c22 : t263 = true
                  · subst c22
                    have H1 : (if t239 = true then (if t238.toList = ([100, 101, 102, 97, 117, 108, 116, 45, 115, 114, 99] : List UInt8) then ((ostiarybook_Same_string.f k t235 (([t223] : List ByteArray))).bind fun t267 => (if t267 = true then (if t248 = true then (some false) else (if t259 = true then (if t258.toList = ([115, 99, 114, 105, 112, 116, 45, 115, 114, 99] : List UInt8) then ((ostiarybook_Same_string.f k t255 (([t223] : List ByteArray))).bind fun t271 => (if t271 = true then ((ostiarylaw10_known.f k).bind fun t272 => (some t272)) else (some false))) else (some false)) else (some false))) else (some false))) else (some false)) else (some false)) = some r := by rw [if_pos rfl] at H; exact H
                    clear H
                    have H := H1
                    clear H1
                    by_cases c23 : t239 = true
                    · subst c23
                      have H1 : (if t238.toList = ([100, 101, 102, 97, 117, 108, 116, 45, 115, 114, 99] : List UInt8) then ((ostiarybook_Same_string.f k t235 (([t223] : List ByteArray))).bind fun t267 => (if t267 = true then (if t248 = true then (some false) else (if t259 = true then (if t258.toList = ([115, 99, 114, 105, 112, 116, 45, 115, 114, 99] : List UInt8) then ((ostiarybook_Same_string.f k t255 (([t223] : List ByteArray))).bind fun t271 => (if t271 = true then ((ostiarylaw10_known.f k).bind fun t272 => (some t272)) else (some false))) else (some false)) else (some false))) else (some false))) else (some false)) = some r := by rw [if_pos rfl] at H; exact H
                      clear H
                      have H := H1
                      clear H1
                      by_cases c24 : t238.toList = ([100, 101, 102, 97, 117, 108, 116, 45, 115, 114, 99] : List UInt8)
                      · rw [if_pos c24] at H
                        have c24b0 : (t238.toList == ([100, 101, 102, 97, 117, 108, 116, 45, 115, 114, 99] : List UInt8)) = true := beq_iff_eq.mpr c24
                        have c24b1 : (t238.toList != ([100, 101, 102, 97, 117, 108, 116, 45, 115, 114, 99] : List UInt8)) = false := bne_eq_false_iff_eq.mpr c24
                        clear c24
                        obtain ⟨y264, hy264⟩ : ∃ y_ : List ByteArray, y_ = (([t223] : List ByteArray)) := ⟨_, rfl⟩
                        replace H : ((ostiarybook_Same_string.f k t235 y264).bind fun t267 => (if t267 = true then (if t248 = true then (some false) else (if t259 = true then (if t258.toList = ([115, 99, 114, 105, 112, 116, 45, 115, 114, 99] : List UInt8) then ((ostiarybook_Same_string.f k t255 (([t223] : List ByteArray))).bind fun t271 => (if t271 = true then ((ostiarylaw10_known.f k).bind fun t272 => (some t272)) else (some false))) else (some false)) else (some false))) else (some false))) = some r := by first | (rw [hy264]; with_reducible exact H) | (have H2_ := (Option.bind_some _ _).symm.trans H; rw [hy264]; with_reducible exact H2_) | (have H2_ := (Option.bind_some _ _).symm.trans H; with_reducible exact H2_) | with_reducible exact H | (rw [hy264]; exact H) | exact H
                        have Ny264 := Aside0.mk hy264
                        clear hy264
                        replace H := Option.bind_eq_some_iff.mp H
                        obtain ⟨t267, A250, H⟩ := H
                        replace H : (if t267 = true then (if t248 = true then (some false) else (if t259 = true then (if t258.toList = ([115, 99, 114, 105, 112, 116, 45, 115, 114, 99] : List UInt8) then ((ostiarybook_Same_string.f k t255 (([t223] : List ByteArray))).bind fun t271 => (if t271 = true then ((ostiarylaw10_known.f k).bind fun t272 => (some t272)) else (some false))) else (some false)) else (some false))) else (some false)) = some r := H
                        have A25 := Aside0.mk A250
                        clear A250
                        by_cases c26 : t267 = true
                        · subst c26
                          have H1 : (if t248 = true then (some false) else (if t259 = true then (if t258.toList = ([115, 99, 114, 105, 112, 116, 45, 115, 114, 99] : List UInt8) then ((ostiarybook_Same_string.f k t255 (([t223] : List ByteArray))).bind fun t271 => (if t271 = true then ((ostiarylaw10_known.f k).bind fun t272 => (some t272)) else (some false))) else (some false)) else (some false))) = some r := by rw [if_pos rfl] at H; exact H
                          clear H
                          have H := H1
                          clear H1
                          by_cases c27 : t248 = true
                          · subst c27
                            have H1 : (some false) = some r := by rw [if_pos rfl] at H; exact H
                            clear H
                            have H := H1
                            clear H1
                            exact absurd ((Option.some.inj H).trans hrt) (by decide)
                          · replace c27 := Bool.eq_false_iff.mpr c27
                            subst c27
                            have H1 : (if t259 = true then (if t258.toList = ([115, 99, 114, 105, 112, 116, 45, 115, 114, 99] : List UInt8) then ((ostiarybook_Same_string.f k t255 (([t223] : List ByteArray))).bind fun t271 => (if t271 = true then ((ostiarylaw10_known.f k).bind fun t272 => (some t272)) else (some false))) else (some false)) else (some false)) = some r := by rw [if_neg (show ¬ (false = true) by decide)] at H; exact H
                            clear H
                            have H := H1
                            clear H1
                            by_cases c54 : t259 = true
                            · subst c54
                              have H1 : (if t258.toList = ([115, 99, 114, 105, 112, 116, 45, 115, 114, 99] : List UInt8) then ((ostiarybook_Same_string.f k t255 (([t223] : List ByteArray))).bind fun t271 => (if t271 = true then ((ostiarylaw10_known.f k).bind fun t272 => (some t272)) else (some false))) else (some false)) = some r := by rw [if_pos rfl] at H; exact H
                              clear H
                              have H := H1
                              clear H1
                              by_cases c55 : t258.toList = ([115, 99, 114, 105, 112, 116, 45, 115, 114, 99] : List UInt8)
                              · rw [if_pos c55] at H
                                have c55b0 : (t258.toList == ([115, 99, 114, 105, 112, 116, 45, 115, 114, 99] : List UInt8)) = true := beq_iff_eq.mpr c55
                                have c55b1 : (t258.toList != ([115, 99, 114, 105, 112, 116, 45, 115, 114, 99] : List UInt8)) = false := bne_eq_false_iff_eq.mpr c55
                                clear c55
                                obtain ⟨y268, hy268⟩ : ∃ y_ : List ByteArray, y_ = (([t223] : List ByteArray)) := ⟨_, rfl⟩
                                replace H : ((ostiarybook_Same_string.f k t255 y268).bind fun t271 => (if t271 = true then ((ostiarylaw10_known.f k).bind fun t272 => (some t272)) else (some false))) = some r := by first | (rw [hy268]; with_reducible exact H) | (have H2_ := (Option.bind_some _ _).symm.trans H; rw [hy268]; with_reducible exact H2_) | (have H2_ := (Option.bind_some _ _).symm.trans H; with_reducible exact H2_) | with_reducible exact H | (rw [hy268]; exact H) | exact H
                                have Ny268 := Aside0.mk hy268
                                clear hy268
                                replace H := Option.bind_eq_some_iff.mp H
                                obtain ⟨t271, A560, H⟩ := H
                                replace H : (if t271 = true then ((ostiarylaw10_known.f k).bind fun t272 => (some t272)) else (some false)) = some r := H
                                have A56 := Aside0.mk A560
                                clear A560
                                by_cases c57 : t271 = true
                                · subst c57
                                  have H1 : ((ostiarylaw10_known.f k).bind fun t272 => (some t272)) = some r := by rw [if_pos rfl] at H; exact H
                                  clear H
                                  have H := H1
                                  clear H1
                                  replace H := Option.bind_eq_some_iff.mp H
                                  obtain ⟨t272, A580, H⟩ := H
                                  replace H : (some t272) = some r := H
                                  have A58 := Aside0.mk A580
                                  clear A580
                                  obtain rfl := Option.some.inj H
                                  clear hrt
                                  have s12 : (⟨#[100, 101, 102, 97, 117, 108, 116, 45, 115, 114, 99, 32]⟩ : ByteArray).size = 12 := rfl
                                  have s10 : (⟨#[59, 32, 105, 109, 103, 45, 115, 114, 99, 32]⟩ : ByteArray).size = 10 := rfl
                                  have hq1 : (9223372036854775807 < 12 + t223.size + 10) = False := eq_false (by have h := c6; rw [ByteArray.size_append, s12] at h; omega)
                                  have hq2 : (9223372036854775807 < 12 + t223.size + 10 + t224.size) = False := eq_false (by have h := c7; rw [ByteArray.size_append, ByteArray.size_append, s12, s10] at h; omega)
                                  have hq3 : (9223372036854775807 < 12 + t223.size + 10 + t224.size + 15) = False := eq_false (by have h := c8; rw [ByteArray.size_append, ByteArray.size_append, ByteArray.size_append, s12, s10] at h; omega)
                                  clear s12 s10
                                  go_enter Tryd.func7, Tryd.ntmps7
                                  try go_wp2_with (first | ((with_reducible refine gate_callee (f := 28) rfl ?_); refine goesL_ (some 22) rfl rfl Tryd.func28 (by kernel_rfl) rfl #[.string a0] rfl (by xmp_) ?_; (with_reducible refine (ostiarylaw10_word.calls k a0 t223 _ A3.out).mono ?_); rintro e w' ⟨rfl, ⟨nd, rfl⟩⟩; refine ⟨_, rfl, ?_⟩) | ((with_reducible refine gate_callee (f := 28) rfl ?_); refine goesL_ (some 24) rfl rfl Tryd.func28 (by kernel_rfl) rfl #[.string a1] rfl (by xmp_) ?_; (with_reducible refine (ostiarylaw10_word.calls k a1 t224 _ A4.out).mono ?_); rintro e w' ⟨rfl, ⟨nd, rfl⟩⟩; refine ⟨_, rfl, ?_⟩) | ((with_reducible refine gate_callee (f := 14) rfl ?_); refine goesL_ (some 31) rfl rfl Tryd.func14 (by kernel_rfl) rfl #[.string (((((⟨#[100, 101, 102, 97, 117, 108, 116, 45, 115, 114, 99, 32]⟩ : ByteArray) ++ t223) ++ (⟨#[59, 32, 105, 109, 103, 45, 115, 114, 99, 32]⟩ : ByteArray)) ++ t224) ++ (⟨#[59, 32, 73, 109, 103, 45, 83, 114, 99, 32, 111, 116, 104, 101, 114]⟩ : ByteArray)), .bool false] rfl (by xmp_) ?_; (with_reducible refine (policy_Parse.calls k (((((⟨#[100, 101, 102, 97, 117, 108, 116, 45, 115, 114, 99, 32]⟩ : ByteArray) ++ t223) ++ (⟨#[59, 32, 105, 109, 103, 45, 115, 114, 99, 32]⟩ : ByteArray)) ++ t224) ++ (⟨#[59, 32, 73, 109, 103, 45, 83, 114, 99, 32, 111, 116, 104, 101, 114]⟩ : ByteArray)) false t225 t228 _ A9.out).mono ?_); rintro e w59 ⟨v226, rfl, ho0, hb⟩; refine ⟨_, rfl, ?_⟩; have n0_ := Am (Kd.S_lower ho0 (below_size (by xhb_))); have n1_ := Am (below_step (by xhb_) hb); clear HB; have HO227 := n0_; have HB := n1_; clear n0_ n1_; xcl_) | ((with_reducible refine gate_dst (N := 7) rfl ?_); (try (refine gate_guard (by rfl) ?_; dsimp only)); refine box_event ?hg (N := 7) ?hd (cs := #[.slice none 0 0, .bool false]) (t := 33) ?hr ?_; xdg_; intro gb229 hg w60 hbox hb; have n0_ := Am (Kd.S_below (by xSd_; exact HO227.out) hb); have n1_ := Am (below_step (by xhb_) hb); have n2_ := Am (hbox); have n3_ := Am ((by rw [hg]; exact (below_size (by xhb_)) : w.heap.size ≤ gb229)); have n4_ := Am ((by rw [hg]; exact (below_size (by xhb_)) : w.heap.size ≤ gb229)); clear HO227; clear HB; have HO227 := n0_; have HB := n1_; have BK229 := n2_; have GW229 := n3_; have GE229 := n4_; clear n0_ n1_ n2_ n3_ n4_; clear hb hbox hg; obtain ⟨Ao61, co61, eo61⟩ := Kd.S_slice HO227.out; subst eo61; have hcz62_0 : w60.cell? ⟨gb229, 0, none⟩ = some (.slice none 0 0) := (blk_cell BK229.out 0).trans rfl; have hcz62_1 : w60.cell? ⟨gb229, 1, none⟩ = some (.bool false) := (blk_cell BK229.out 1).trans rfl; have hfz62_0 := blk_frozen BK229.out 0; have hfz62_1 := blk_frozen BK229.out 1) | ((with_reducible refine gate_callee (f := 22) rfl ?_); refine goesL_ (some 34) rfl rfl Tryd.func22 (by kernel_rfl) rfl #[.agg #[.slice Ao61 t225.length co61, .bool t228], .string (⟨#[105, 109, 103, 45, 115, 114, 99]⟩ : ByteArray)] rfl (by xmp_) ?_; (with_reducible refine (policy_Values.calls k _ _ t225 t228 (⟨#[105, 109, 103, 45, 115, 114, 99]⟩ : ByteArray) t230 t233 true _ ?side1 ?side2 A10.out).mono ?_); (case side1 => refine (Kd.S_reads' (e := 52) (base := w.heap.size) (ok := fun k_ => True) (n := t225.length) (c := co61) ?_).2.2; exact (by xSd_; exact (Kd.S_mono (Kd.S_far (p := ⟨gb229, 1, none⟩) (Kd.S_far (p := ⟨gb229, 0, none⟩) (Kd.S_types HO227.out BK229.out (by decide)) (fun _ hk => hk.2) (.slice Ao61 t225.length co61)) (fun _ hk => hk.2) (.bool t228)) (fun _ h_ => h_.1)))); (case side2 => exact (Kd.S_reads' HO227.out).2.1); rintro e w63 ⟨v231, rfl, ho0, hb⟩; refine ⟨_, rfl, ?_⟩; have n0_ := Am (Kd.S_elder' (by xSd_; exact (Kd.S_mono (Kd.S_far (p := ⟨gb229, 1, none⟩) (Kd.S_far (p := ⟨gb229, 0, none⟩) (Kd.S_types HO227.out BK229.out (by decide)) (fun _ hk => hk.2) (.slice Ao61 t225.length co61)) (fun _ hk => hk.2) (.bool t228)) (fun _ h_ => h_.1))) (Kd.R_base ho0) hb); have n1_ := Am (Kd.R_lower ho0 (below_size (by xhc_ GE229))); have n2_ := Am (blk_below (g := gb229) (o := .cells #[.slice Ao61 t225.length co61, .bool t228] 33 (0, 0)) (by xbk_; refine blk_put (cs := #[.slice Ao61 t225.length co61, .bool false]) ?_ 1 _ rfl; xbk_; refine blk_put (cs := #[.slice none 0 0, .bool false]) ?_ 0 _ rfl; xbk_; exact BK229.out) hb); have n3_ := Am (below_step (by xhc_ GE229) hb); clear HO227; clear BK229; clear HB; have HO227 := n0_; have HO232 := n1_; have BK229 := n2_; have HB := n3_; clear n0_ n1_ n2_ n3_; xcl_; have hcz64_0 : w63.cell? ⟨gb229, 0, none⟩ = some (.slice Ao61 t225.length co61) := (blk_cell BK229.out 0).trans rfl; have hcz64_1 : w63.cell? ⟨gb229, 1, none⟩ = some (.bool t228) := (blk_cell BK229.out 1).trans rfl; have hfz64_0 := blk_frozen BK229.out 0; have hfz64_1 := blk_frozen BK229.out 1) | ((with_reducible refine gate_callee (f := 22) rfl ?_); refine goesL_ (some 40) rfl rfl Tryd.func22 (by kernel_rfl) rfl #[.agg #[.slice Ao61 t225.length co61, .bool t228], .string (⟨#[102, 111, 110, 116, 45, 115, 114, 99]⟩ : ByteArray)] rfl (by xmp_) ?_; (with_reducible refine (policy_Values.calls k _ _ t225 t228 (⟨#[102, 111, 110, 116, 45, 115, 114, 99]⟩ : ByteArray) t235 t238 true _ ?side1 ?side2 A11.out).mono ?_); (case side1 => repeat (first | exact (Kd.S_reads' HO227.out).2.2 | xcd_)); (case side2 => exact (Kd.S_reads' HO227.out).2.1); rintro e w65 ⟨v236, rfl, ho0, hb⟩; refine ⟨_, rfl, ?_⟩; have n0_ := Am (Kd.S_elder' (by xSd_; exact HO227.out) (Kd.R_base ho0) hb); have n1_ := Am (Kd.R_elder' (by xRd_; exact HO232.out) (Kd.R_base ho0) hb); have n2_ := Am (Kd.R_lower (Kd.R_new' ho0 (Kd.R_lt (by xRd_; exact HO232.out))) (below_size (by xhc_ GE229))); have n3_ := Am (blk_below (g := gb229) (o := .cells #[.slice Ao61 t225.length co61, .bool t228] 33 (0, 0)) (by xbk_; exact BK229.out) hb); have n4_ := Am (below_step (by xhc_ GE229) hb); clear HO227; clear HO232; clear BK229; clear HB; have HO227 := n0_; have HO232 := n1_; have HO237 := n2_; have BK229 := n3_; have HB := n4_; clear n0_ n1_ n2_ n3_ n4_; xcl_) | ((with_reducible refine gate_callee (f := 14) rfl ?_); refine goesL_ (some 47) rfl rfl Tryd.func14 (by kernel_rfl) rfl #[.string ((⟨#[115, 99, 114, 105, 112, 116, 45, 115, 114, 99, 32]⟩ : ByteArray) ++ t223), .bool false] rfl (by xmp_) ?_; (with_reducible refine (policy_Parse.calls k ((⟨#[115, 99, 114, 105, 112, 116, 45, 115, 114, 99, 32]⟩ : ByteArray) ++ t223) false t240 t243 _ A13.out).mono ?_); rintro e w66 ⟨v241, rfl, ho0, hb⟩; refine ⟨_, rfl, ?_⟩; have n0_ := Am (Kd.S_elder' (by xSd_; exact HO227.out) (Kd.S_base ho0) hb); have n1_ := Am (Kd.R_below (by xRd_; exact HO232.out) hb); have n2_ := Am (Kd.R_below (by xRd_; exact HO237.out) hb); have n3_ := Am (Kd.S_lower (Kd.S_new' (Kd.S_new' (Kd.S_new' ho0 (Kd.S_lt (by xSd_; exact HO227.out))) (Kd.R_lt (by xRd_; exact HO232.out))) (Kd.R_lt (by xRd_; exact HO237.out))) (below_size (by xhc_ GE229))); have n4_ := Am (blk_below (g := gb229) (o := .cells #[.slice Ao61 t225.length co61, .bool t228] 33 (0, 0)) (by xbk_; exact BK229.out) hb); have n5_ := Am (below_step (by xhc_ GE229) hb); clear HO227; clear HO232; clear HO237; clear BK229; clear HB; have HO227 := n0_; have HO232 := n1_; have HO237 := n2_; have HO242 := n3_; have BK229 := n4_; have HB := n5_; clear n0_ n1_ n2_ n3_ n4_ n5_; xcl_; obtain ⟨Ao67, co67, eo67⟩ := Kd.S_slice HO242.out; subst eo67) | ((with_reducible refine gate_callee (f := 22) rfl ?_); refine goesL_ (some 48) rfl rfl Tryd.func22 (by kernel_rfl) rfl #[.agg #[.slice Ao67 t240.length co67, .bool t243], .string (⟨#[105, 109, 103, 45, 115, 114, 99]⟩ : ByteArray)] rfl (by xmp_) ?_; (with_reducible refine (policy_Values.calls k _ _ t240 t243 (⟨#[105, 109, 103, 45, 115, 114, 99]⟩ : ByteArray) t244 t247 false _ ?side1 ?side2 A14.out).mono ?_); (case side1 => repeat (first | exact (Kd.S_reads' HO242.out).2.2 | xcd_)); (case side2 => exact (Kd.S_reads' HO242.out).2.1); rintro e w68 ⟨v245, rfl, ho0, hb⟩; refine ⟨_, rfl, ?_⟩; have n0_ := Am (Kd.S_elder' (by xSd_; exact HO227.out) (Kd.R_base ho0) hb); have n1_ := Am (Kd.R_elder' (by xRd_; exact HO232.out) (Kd.R_base ho0) hb); have n2_ := Am (Kd.R_elder' (by xRd_; exact HO237.out) (Kd.R_base ho0) hb); have n3_ := Am (Kd.S_elder' (by xSd_; exact HO242.out) (Kd.R_base ho0) hb); have n4_ := Am (Kd.R_lower (Kd.R_new' (Kd.R_new' ho0 (Kd.R_lt (by xRd_; exact HO232.out))) (Kd.R_lt (by xRd_; exact HO237.out))) (below_size (by xhc_ GE229))); have n5_ := Am (blk_below (g := gb229) (o := .cells #[.slice Ao61 t225.length co61, .bool t228] 33 (0, 0)) (by xbk_; exact BK229.out) hb); have n6_ := Am (below_step (by xhc_ GE229) hb); clear HO227; clear HO232; clear HO237; clear HO242; clear BK229; clear HB; have HO227 := n0_; have HO232 := n1_; have HO237 := n2_; have HO242 := n3_; have HO246 := n4_; have BK229 := n5_; have HB := n6_; clear n0_ n1_ n2_ n3_ n4_ n5_ n6_; xcl_) | ((with_reducible refine gate_callee (f := 14) rfl ?_); refine goesL_ (some 54) rfl rfl Tryd.func14 (by kernel_rfl) rfl #[.string ((⟨#[100, 101, 102, 97, 117, 108, 116, 45, 115, 114, 99, 32, 97, 59, 32, 115, 99, 114, 105, 112, 116, 45, 115, 114, 99, 32]⟩ : ByteArray) ++ t223), .bool false] rfl (by xmp_) ?_; (with_reducible refine (policy_Parse.calls k ((⟨#[100, 101, 102, 97, 117, 108, 116, 45, 115, 114, 99, 32, 97, 59, 32, 115, 99, 114, 105, 112, 116, 45, 115, 114, 99, 32]⟩ : ByteArray) ++ t223) false t249 t252 _ A16.out).mono ?_); rintro e w69 ⟨v250, rfl, ho0, hb⟩; refine ⟨_, rfl, ?_⟩; have n0_ := Am (Kd.S_elder' (by xSd_; exact HO227.out) (Kd.S_base ho0) hb); have n1_ := Am (Kd.R_below (by xRd_; exact HO232.out) hb); have n2_ := Am (Kd.R_below (by xRd_; exact HO237.out) hb); have n3_ := Am (Kd.S_elder' (by xSd_; exact HO242.out) (Kd.S_base ho0) hb); have n4_ := Am (Kd.R_below (by xRd_; exact HO246.out) hb); have n5_ := Am (Kd.S_lower (Kd.S_new' (Kd.S_new' (Kd.S_new' (Kd.S_new' (Kd.S_new' ho0 (Kd.S_lt (by xSd_; exact HO227.out))) (Kd.R_lt (by xRd_; exact HO232.out))) (Kd.R_lt (by xRd_; exact HO237.out))) (Kd.S_lt (by xSd_; exact HO242.out))) (Kd.R_lt (by xRd_; exact HO246.out))) (below_size (by xhc_ GE229))); have n6_ := Am (blk_below (g := gb229) (o := .cells #[.slice Ao61 t225.length co61, .bool t228] 33 (0, 0)) (by xbk_; exact BK229.out) hb); have n7_ := Am (below_step (by xhc_ GE229) hb); clear HO227; clear HO232; clear HO237; clear HO242; clear HO246; clear BK229; clear HB; have HO227 := n0_; have HO232 := n1_; have HO237 := n2_; have HO242 := n3_; have HO246 := n4_; have HO251 := n5_; have BK229 := n6_; have HB := n7_; clear n0_ n1_ n2_ n3_ n4_ n5_ n6_ n7_; xcl_) | ((with_reducible refine gate_dst (N := 17) rfl ?_); (try (refine gate_guard (by rfl) ?_; dsimp only)); refine box_event ?hg (N := 17) ?hd (cs := #[.slice none 0 0, .bool false]) (t := 33) ?hr ?_; xdg_; intro gb253 hg w70 hbox hb; have n0_ := Am (Kd.S_below (by xSd_; exact HO227.out) hb); have n1_ := Am (Kd.R_below (by xRd_; exact HO232.out) hb); have n2_ := Am (Kd.R_below (by xRd_; exact HO237.out) hb); have n3_ := Am (Kd.S_below (by xSd_; exact HO242.out) hb); have n4_ := Am (Kd.R_below (by xRd_; exact HO246.out) hb); have n5_ := Am (Kd.S_below (by xSd_; exact HO251.out) hb); have n6_ := Am (blk_below (g := gb229) (o := .cells #[.slice Ao61 t225.length co61, .bool t228] 33 (0, 0)) (by xbk_; exact BK229.out) hb); have n7_ := Am (below_step (by xhc_ GE229) hb); have n8_ := Am (hbox); have n9_ := Am ((by rw [hg]; exact (below_size (by xhc_ GE229)) : w.heap.size ≤ gb253)); have n10_ := Am ((by rw [hg]; exact (below_size (by xhc_ GE229)) : w.heap.size ≤ gb253)); have n11_ := Am ((by rw [hg]; exact Nat.ne_of_lt (blk_lt (g := gb229) (o := .cells #[.slice Ao61 t225.length co61, .bool t228] 33 (0, 0)) (by xbk_; exact BK229.out)) : gb229 ≠ gb253)); have n12_ := Am ((by rw [hg]; exact Nat.ne_of_gt (blk_lt (g := gb229) (o := .cells #[.slice Ao61 t225.length co61, .bool t228] 33 (0, 0)) (by xbk_; exact BK229.out)) : gb253 ≠ gb229)); clear HO227; clear HO232; clear HO237; clear HO242; clear HO246; clear HO251; clear BK229; clear HB; have HO227 := n0_; have HO232 := n1_; have HO237 := n2_; have HO242 := n3_; have HO246 := n4_; have HO251 := n5_; have BK229 := n6_; have HB := n7_; have BK253 := n8_; have GW253 := n9_; have GE253 := n10_; have NB229_253 := n11_; have NB253_229 := n12_; clear n0_ n1_ n2_ n3_ n4_ n5_ n6_ n7_ n8_ n9_ n10_ n11_ n12_; clear hb hbox hg; obtain ⟨Ao71, co71, eo71⟩ := Kd.S_slice HO251.out; subst eo71; have hnb72 := NB253_229.out; have hnc72 := NB229_253.out; have hcz73_0 : w70.cell? ⟨gb253, 0, none⟩ = some (.slice none 0 0) := (blk_cell BK253.out 0).trans rfl; have hcz73_1 : w70.cell? ⟨gb253, 1, none⟩ = some (.bool false) := (blk_cell BK253.out 1).trans rfl; have hfz73_0 := blk_frozen BK253.out 0; have hfz73_1 := blk_frozen BK253.out 1))
                                  have n0_ : Aside0 (Kd.S k52 52 ((w70.setCell ⟨gb253, 0, none⟩ (.slice Ao71 t249.length co71)).setCell ⟨gb253, 1, none⟩ (.bool t252)) w.heap.size (fun k_ => some k_ ≠ (v231 : Value).ownBlock ∧ some k_ ≠ (v236 : Value).ownBlock ∧ some k_ ≠ (.slice Ao67 t240.length co67 : Value).ownBlock ∧ some k_ ≠ (v245 : Value).ownBlock ∧ some k_ ≠ (.slice Ao71 t249.length co71 : Value).ownBlock) (.slice Ao61 t225.length co61) t225) := ⟨by xSd_; exact Kd.S_mono (Kd.S_far (p := ⟨gb253, 1, none⟩) (Kd.S_far (p := ⟨gb253, 0, none⟩) (Kd.S_types HO227.out BK253.out (by decide)) (fun _ hk => hk.2) (.slice Ao71 t249.length co71)) (fun _ hk => hk.2) (.bool t252)) (fun _ hk => ⟨hk.1.1.1.1.1.2, ⟨hk.1.1.1.1.2, ⟨hk.1.1.1.2, ⟨hk.1.1.2, hk.1.2⟩⟩⟩⟩)⟩
                                  have n1_ : Aside0 (Kd.R Kd.string 9 ((w70.setCell ⟨gb253, 0, none⟩ (.slice Ao71 t249.length co71)).setCell ⟨gb253, 1, none⟩ (.bool t252)) w.heap.size (fun k_ => some k_ ≠ (v236 : Value).ownBlock ∧ some k_ ≠ (v245 : Value).ownBlock) v231 t230) := ⟨by xRd_; exact Kd.R_mono (Kd.R_far (p := ⟨gb253, 1, none⟩) (Kd.R_far (p := ⟨gb253, 0, none⟩) (Kd.R_types HO232.out BK253.out (by decide)) (fun _ hk => hk.2) (.slice Ao71 t249.length co71)) (fun _ hk => hk.2) (.bool t252)) (fun _ hk => ⟨hk.1.1.2, hk.1.2⟩)⟩
                                  have n2_ : Aside0 (Kd.R Kd.string 9 ((w70.setCell ⟨gb253, 0, none⟩ (.slice Ao71 t249.length co71)).setCell ⟨gb253, 1, none⟩ (.bool t252)) w.heap.size (fun k_ => some k_ ≠ (v231 : Value).ownBlock ∧ some k_ ≠ (v245 : Value).ownBlock) v236 t235) := ⟨by xRd_; exact Kd.R_mono (Kd.R_far (p := ⟨gb253, 1, none⟩) (Kd.R_far (p := ⟨gb253, 0, none⟩) (Kd.R_types HO237.out BK253.out (by decide)) (fun _ hk => hk.2) (.slice Ao71 t249.length co71)) (fun _ hk => hk.2) (.bool t252)) (fun _ hk => ⟨hk.1.1.2, hk.1.2⟩)⟩
                                  have n3_ : Aside0 (Kd.S k52 52 ((w70.setCell ⟨gb253, 0, none⟩ (.slice Ao71 t249.length co71)).setCell ⟨gb253, 1, none⟩ (.bool t252)) w.heap.size (fun k_ => some k_ ≠ (.slice Ao61 t225.length co61 : Value).ownBlock ∧ some k_ ≠ (v231 : Value).ownBlock ∧ some k_ ≠ (v236 : Value).ownBlock ∧ some k_ ≠ (v245 : Value).ownBlock ∧ some k_ ≠ (.slice Ao71 t249.length co71 : Value).ownBlock) (.slice Ao67 t240.length co67) t240) := ⟨by xSd_; exact Kd.S_mono (Kd.S_far (p := ⟨gb253, 1, none⟩) (Kd.S_far (p := ⟨gb253, 0, none⟩) (Kd.S_types HO242.out BK253.out (by decide)) (fun _ hk => hk.2) (.slice Ao71 t249.length co71)) (fun _ hk => hk.2) (.bool t252)) (fun _ hk => ⟨hk.1.1.1.1.1.2, ⟨hk.1.1.1.1.2, ⟨hk.1.1.1.2, ⟨hk.1.1.2, hk.1.2⟩⟩⟩⟩)⟩
                                  have n4_ : Aside0 (Kd.R Kd.string 9 ((w70.setCell ⟨gb253, 0, none⟩ (.slice Ao71 t249.length co71)).setCell ⟨gb253, 1, none⟩ (.bool t252)) w.heap.size (fun k_ => some k_ ≠ (v231 : Value).ownBlock ∧ some k_ ≠ (v236 : Value).ownBlock) v245 t244) := ⟨by xRd_; exact Kd.R_mono (Kd.R_far (p := ⟨gb253, 1, none⟩) (Kd.R_far (p := ⟨gb253, 0, none⟩) (Kd.R_types HO246.out BK253.out (by decide)) (fun _ hk => hk.2) (.slice Ao71 t249.length co71)) (fun _ hk => hk.2) (.bool t252)) (fun _ hk => ⟨hk.1.1.2, hk.1.2⟩)⟩
                                  have n5_ : Aside0 (Kd.S k52 52 ((w70.setCell ⟨gb253, 0, none⟩ (.slice Ao71 t249.length co71)).setCell ⟨gb253, 1, none⟩ (.bool t252)) w.heap.size (fun k_ => some k_ ≠ (.slice Ao61 t225.length co61 : Value).ownBlock ∧ some k_ ≠ (v231 : Value).ownBlock ∧ some k_ ≠ (v236 : Value).ownBlock ∧ some k_ ≠ (.slice Ao67 t240.length co67 : Value).ownBlock ∧ some k_ ≠ (v245 : Value).ownBlock) (.slice Ao71 t249.length co71) t249) := ⟨by xSd_; exact Kd.S_mono (Kd.S_far (p := ⟨gb253, 1, none⟩) (Kd.S_far (p := ⟨gb253, 0, none⟩) (Kd.S_types HO251.out BK253.out (by decide)) (fun _ hk => hk.2) (.slice Ao71 t249.length co71)) (fun _ hk => hk.2) (.bool t252)) (fun _ hk => ⟨hk.1.1.1.1.1.2, ⟨hk.1.1.1.1.2, ⟨hk.1.1.1.2, ⟨hk.1.1.2, hk.1.2⟩⟩⟩⟩)⟩
                                  have n6_ : Aside0 (((w70.setCell ⟨gb253, 0, none⟩ (.slice Ao71 t249.length co71)).setCell ⟨gb253, 1, none⟩ (.bool t252)).heap[gb229]? = some (.cells #[.slice Ao61 t225.length co61, .bool t228] 33 (0, 0))) := ⟨by xbk_; refine blk_far ?_ NB229_253.out _; xbk_; refine blk_far ?_ NB229_253.out _; xbk_; exact BK229.out⟩
                                  have n7_ : Aside0 (((w70.setCell ⟨gb253, 0, none⟩ (.slice Ao71 t249.length co71)).setCell ⟨gb253, 1, none⟩ (.bool t252)).heap[gb253]? = some (.cells #[.slice Ao71 t249.length co71, .bool t252] 33 (0, 0))) := ⟨by xbk_; refine blk_put (cs := #[.slice Ao71 t249.length co71, .bool false]) ?_ 1 _ rfl; xbk_; refine blk_put (cs := #[.slice none 0 0, .bool false]) ?_ 0 _ rfl; xbk_; exact BK253.out⟩
                                  have n8_ : Aside0 (Below w.heap.size w ((w70.setCell ⟨gb253, 0, none⟩ (.slice Ao71 t249.length co71)).setCell ⟨gb253, 1, none⟩ (.bool t252))) := ⟨by xhd_ GE229 GE253⟩
                                  (try clear HO227)
                                  (try clear HO232)
                                  (try clear HO237)
                                  (try clear HO242)
                                  (try clear HO246)
                                  (try clear HO251)
                                  (try clear BK229)
                                  (try clear BK253)
                                  (try clear HB)
                                  generalize ((w70.setCell ⟨gb253, 0, none⟩ (.slice Ao71 t249.length co71)).setCell ⟨gb253, 1, none⟩ (.bool t252)) = w74 at n0_ n1_ n2_ n3_ n4_ n5_ n6_ n7_ n8_ ⊢
                                  have HO227 := n0_
                                  have HO232 := n1_
                                  have HO237 := n2_
                                  have HO242 := n3_
                                  have HO246 := n4_
                                  have HO251 := n5_
                                  have BK229 := n6_
                                  have BK253 := n7_
                                  have HB := n8_
                                  clear n0_ n1_ n2_ n3_ n4_ n5_ n6_ n7_ n8_
                                  have n0_ := Am (Kd.S_drew HO227.out)
                                  have n1_ := Am (Kd.R_drew HO232.out)
                                  have n2_ := Am (Kd.R_drew HO237.out)
                                  have n3_ := Am (Kd.S_drew HO242.out)
                                  have n4_ := Am (Kd.R_drew HO246.out)
                                  have n5_ := Am (Kd.S_drew HO251.out)
                                  have n6_ := Am (blk_drew BK229.out)
                                  have n7_ := Am (blk_drew BK253.out)
                                  have n8_ := Am (below_drew1 HB.out)
                                  clear HO227
                                  clear HO232
                                  clear HO237
                                  clear HO242
                                  clear HO246
                                  clear HO251
                                  clear BK229
                                  clear BK253
                                  clear HB
                                  have HO227 := n0_
                                  have HO232 := n1_
                                  have HO237 := n2_
                                  have HO242 := n3_
                                  have HO246 := n4_
                                  have HO251 := n5_
                                  have BK229 := n6_
                                  have BK253 := n7_
                                  have HB := n8_
                                  clear n0_ n1_ n2_ n3_ n4_ n5_ n6_ n7_ n8_
                                  refine start_ (n := 10) (S := fun w' => w'.cell? ⟨gb253, 0, none⟩ = some (.slice Ao71 t249.length co71) ∧ w'.cell? ⟨gb253, 1, none⟩ = some (.bool t252)) (ds := []) #[false, false, false, false, false, false, false, false, false, false] (by kernel_rfl) rfl rfl ⟨(blk_cell BK253.out 0).trans rfl, (blk_cell BK253.out 1).trans rfl⟩ (fun hHeld => ?_); refine with_tabW ostiarylaw10_PolicyFirst.tab8 ostiarylaw10_PolicyFirst.bits8 (fun HT_ HW_ => ?_)
                                  generalize w74.drew = w75 at HO227 HO232 HO237 HO242 HO246 HO251 BK229 BK253 HB hHeld ⊢
                                  refine take_ (i := 0) (N := some 56) (v := ?_) (a' := ?_) #[true, false, false, false, false, false, false, false, false, false] rfl rfl (take_ofW HT_.out HW_.out (by kernel_rfl)) (fun _ _ _ h => h) (Or.inl ⟨by rfl, ?_⟩) hHeld ?_ ?_
                                  rotate_left
                                  · rintro w' ⟨s0, s1⟩
                                    go_simp
                                    with_reducible rfl
                                  rotate_left
                                  · simp only [Act.put, List.setIfInBounds_toArray, List.set_cons_zero, List.set_cons_succ, i64_w, i32_w]
                                    rfl
                                  refine one_ (i := 1) (N := some 57) #[true, true, false, false, false, false, false, false, false, false] rfl rfl (one_of HT_.out (by kernel_rfl)) (by decide) (fun K hK => ?_)
                                  refine goes_ Tryd.func11 (by kernel_rfl) rfl #[.int .i64 2] (by rfl) rfl rfl (by xmp_) ?_
                                  with_reducible refine (policy_For.calls 2 t254 _ A17.out).mono ?_
                                  rintro e w' ⟨rfl, ⟨nd, rfl⟩⟩
                                  refine ⟨_, rfl, ?_⟩
                                  refine hK.out _ _ ⟨(blk_cell BK253.out 0).trans rfl, (blk_cell BK253.out 1).trans rfl⟩ (fun hHeld => ?_)
                                  clear hK K
                                  refine norm_ (a' := ?_) ?_ ?_
                                  rotate_left
                                  · show Act.put _ (some 57) _ = _
                                    simp only [Act.put, List.setIfInBounds_toArray, List.set_cons_zero, List.set_cons_succ, i64_w, i32_w]
                                    rfl
                                  refine one_ (i := 2) (N := some 58) #[true, true, true, false, false, false, false, false, false, false] rfl rfl (one_of HT_.out (by kernel_rfl)) (by decide) (fun K hK => ?_)
                                  refine goes_ Tryd.func22 (by kernel_rfl) rfl #[.agg #[.slice Ao71 t249.length co71, .bool t252], .string t254] (by rfl) rfl rfl (by xmp_) ?_
                                  with_reducible refine (policy_Values.calls k _ _ t249 t252 t254 t255 t258 true _ ?side1 ?side2 A18.out).mono ?_
                                  (case side1 => repeat (first | exact (Kd.S_reads' HO251.out).2.2 | xcd_))
                                  (case side2 => exact (Kd.S_reads' HO251.out).2.1)
                                  rintro e w76 ⟨v256, rfl, ho0, hb⟩
                                  refine ⟨_, rfl, ?_⟩
                                  have n0_ := Am (Kd.S_elder' (by xSd_; exact HO227.out) (Kd.R_base ho0) hb)
                                  have n1_ := Am (Kd.R_elder' (by xRd_; exact HO232.out) (Kd.R_base ho0) hb)
                                  have n2_ := Am (Kd.R_elder' (by xRd_; exact HO237.out) (Kd.R_base ho0) hb)
                                  have n3_ := Am (Kd.S_elder' (by xSd_; exact HO242.out) (Kd.R_base ho0) hb)
                                  have n4_ := Am (Kd.R_elder' (by xRd_; exact HO246.out) (Kd.R_base ho0) hb)
                                  have n5_ := Am (Kd.S_elder' (by xSd_; exact HO251.out) (Kd.R_base ho0) hb)
                                  have n6_ := Am (Kd.R_lower (Kd.R_new' (Kd.R_new' (Kd.R_new' ho0 (Kd.R_lt (by xRd_; exact HO232.out))) (Kd.R_lt (by xRd_; exact HO237.out))) (Kd.R_lt (by xRd_; exact HO246.out))) (below_size (by xhd_ GE229 GE253)))
                                  have n7_ := Am (blk_below (g := gb229) (o := .cells #[.slice Ao61 t225.length co61, .bool t228] 33 (0, 0)) (by xbk_; exact BK229.out) hb)
                                  have n8_ := Am (blk_below (g := gb253) (o := .cells #[.slice Ao71 t249.length co71, .bool t252] 33 (0, 0)) (by xbk_; exact BK253.out) hb)
                                  have n9_ := Am (below_step (by xhd_ GE229 GE253) hb)
                                  clear HO227
                                  clear HO232
                                  clear HO237
                                  clear HO242
                                  clear HO246
                                  clear HO251
                                  clear BK229
                                  clear BK253
                                  clear HB
                                  have HO227 := n0_
                                  have HO232 := n1_
                                  have HO237 := n2_
                                  have HO242 := n3_
                                  have HO246 := n4_
                                  have HO251 := n5_
                                  have HO257 := n6_
                                  have BK229 := n7_
                                  have BK253 := n8_
                                  have HB := n9_
                                  clear n0_ n1_ n2_ n3_ n4_ n5_ n6_ n7_ n8_ n9_
                                  (try clear hb)
                                  (try clear hb2)
                                  (try clear hk)
                                  (try clear hi)
                                  (try clear ho0)
                                  refine hK.out _ _ ⟨(blk_cell BK253.out 0).trans rfl, (blk_cell BK253.out 1).trans rfl⟩ (fun hHeld => ?_)
                                  clear hK K
                                  refine norm_ (a' := ?_) ?_ ?_
                                  rotate_left
                                  · show Act.put _ (some 58) _ = _
                                    simp only [Act.put, List.setIfInBounds_toArray, List.set_cons_zero, List.set_cons_succ, i64_w, i32_w]
                                    rfl
                                  refine pure_ (i := 3) (N := some 55) (v := ?_) (a' := ?_) #[true, true, true, true, false, false, false, false, false, false] rfl rfl (any_of HT_.out (by kernel_rfl)) (fun _ _ _ h => h) (Or.inl ⟨by rfl, ?_⟩) ?_ ?_
                                  rotate_left
                                  · intro w'
                                    go_simp
                                    with_reducible rfl
                                  rotate_left
                                  · simp only [Act.put, List.setIfInBounds_toArray, List.set_cons_zero, List.set_cons_succ, i64_w, i32_w]
                                    rfl
                                  refine pure_ (i := 4) (N := some 59) (v := ?_) (a' := ?_) #[true, true, true, true, true, false, false, false, false, false] rfl rfl (any_of HT_.out (by kernel_rfl)) (fun _ _ _ h => h) (Or.inl ⟨by rfl, ?_⟩) ?_ ?_
                                  rotate_left
                                  · intro w'
                                    go_simp
                                    with_reducible rfl
                                  rotate_left
                                  · simp only [Act.put, List.setIfInBounds_toArray, List.set_cons_zero, List.set_cons_succ, i64_w, i32_w]
                                    rfl
                                  refine pure_ (i := 5) (N := some 60) (v := ?_) (a' := ?_) #[true, true, true, true, true, true, false, false, false, false] rfl rfl (any_of HT_.out (by kernel_rfl)) (fun _ _ _ h => h) (Or.inl ⟨by rfl, ?_⟩) ?_ ?_
                                  rotate_left
                                  · intro w'
                                    go_simp
                                    with_reducible rfl
                                  rotate_left
                                  · simp only [Act.put, List.setIfInBounds_toArray, List.set_cons_zero, List.set_cons_succ, i64_w, i32_w]
                                    rfl
                                  refine pure_ (i := 6) (N := some 61) (v := ?_) (a' := ?_) #[true, true, true, true, true, true, true, false, false, false] rfl rfl (any_of HT_.out (by kernel_rfl)) (fun _ _ _ h => h) (Or.inl ⟨by rfl, ?_⟩) ?_ ?_
                                  rotate_left
                                  · intro w'
                                    go_simp
                                    with_reducible rfl
                                  rotate_left
                                  · simp only [Act.put, List.setIfInBounds_toArray, List.set_cons_zero, List.set_cons_succ, i64_w, i32_w]
                                    rfl
                                  refine pure_ (i := 7) (N := some 18) (v := ?_) (a' := ?_) #[true, true, true, true, true, true, true, true, false, false] rfl rfl (any_of HT_.out (by kernel_rfl)) (fun _ _ _ h => h) (Or.inl ⟨by rfl, ?_⟩) ?_ ?_
                                  rotate_left
                                  · intro w'
                                    go_simp
                                    with_reducible rfl
                                  rotate_left
                                  · simp only [Act.put, List.setIfInBounds_toArray, List.set_cons_zero, List.set_cons_succ, i64_w, i32_w]
                                    rfl
                                  refine pure_ (i := 8) (N := some 19) (v := ?_) (a' := ?_) #[true, true, true, true, true, true, true, true, true, false] rfl rfl (any_of HT_.out (by kernel_rfl)) (fun _ _ _ h => h) (Or.inl ⟨by rfl, ?_⟩) ?_ ?_
                                  rotate_left
                                  · intro w'
                                    go_simp
                                    with_reducible rfl
                                  rotate_left
                                  · simp only [Act.put, List.setIfInBounds_toArray, List.set_cons_zero, List.set_cons_succ, i64_w, i32_w]
                                    rfl
                                  refine pure_ (i := 9) (N := some 20) (v := ?_) (a' := ?_) #[true, true, true, true, true, true, true, true, true, true] rfl rfl (any_of HT_.out (by kernel_rfl)) (fun _ _ _ h => h) (Or.inl ⟨by rfl, ?_⟩) ?_ ?_
                                  rotate_left
                                  · intro w'
                                    go_simp
                                    with_reducible rfl
                                  rotate_left
                                  · simp only [Act.put, List.setIfInBounds_toArray, List.set_cons_zero, List.set_cons_succ, i64_w, i32_w]
                                    rfl
                                  refine done_ (done_of HT_.out (by kernel_rfl)) ?_
                                  try go_wp2_with (first | ((with_reducible refine gate_dst (N := 70) rfl ?_); (try (refine gate_guard (by rfl) ?_; dsimp only)); refine Kd.R_lit Kd.string _ 9 ?hg (N := 70) ?hd (xs := ([t224] : List ByteArray)) (inner := [.string t224]) (ok := fun _ => True) (okp := fun _ => True) ?hr ?hp (fun _ hk => hk) trivial (Below.refl _ _) (Nat.le_refl _) (by simp) ?_; xdg_; (case hp => exact (Reps.one (show Kd.M Kd.string _ _ _ t224 [.string t224] from rfl) (Reps.none _ _))); intro v261 w77 ho78 hb hg_ hnew_; clear hg_ hnew_; (first | rw [← Ny260.out] at ho78 | (simp only [Int.reduceToNat] at ho78; rw [← Ny260.out] at ho78)); have n0_ := Am (Kd.S_elder' (by xSd_; exact HO227.out) (Kd.R_base ho78) hb); have n1_ := Am (Kd.R_elder' (by xRd_; exact HO232.out) (Kd.R_base ho78) hb); have n2_ := Am (Kd.R_elder' (by xRd_; exact HO237.out) (Kd.R_base ho78) hb); have n3_ := Am (Kd.S_elder' (by xSd_; exact HO242.out) (Kd.R_base ho78) hb); have n4_ := Am (Kd.R_elder' (by xRd_; exact HO246.out) (Kd.R_base ho78) hb); have n5_ := Am (Kd.S_elder' (by xSd_; exact HO251.out) (Kd.R_base ho78) hb); have n6_ := Am (Kd.R_elder' (by xRd_; exact HO257.out) (Kd.R_base ho78) hb); have n7_ := Am (Kd.R_lower (Kd.R_new' (Kd.R_new' (Kd.R_new' (Kd.R_new' ho78 (Kd.R_lt (by xRd_; exact HO232.out))) (Kd.R_lt (by xRd_; exact HO237.out))) (Kd.R_lt (by xRd_; exact HO246.out))) (Kd.R_lt (by xRd_; exact HO257.out))) (below_size (by xhd_ GE229 GE253))); have n8_ := Am (blk_below (g := gb229) (o := .cells #[.slice Ao61 t225.length co61, .bool t228] 33 (0, 0)) (by xbk_; exact BK229.out) hb); have n9_ := Am (blk_below (g := gb253) (o := .cells #[.slice Ao71 t249.length co71, .bool t252] 33 (0, 0)) (by xbk_; exact BK253.out) hb); have n10_ := Am (below_step (by xhd_ GE229 GE253) hb); clear HO227; clear HO232; clear HO237; clear HO242; clear HO246; clear HO251; clear HO257; clear BK229; clear BK253; clear HB; have HO227 := n0_; have HO232 := n1_; have HO237 := n2_; have HO242 := n3_; have HO246 := n4_; have HO251 := n5_; have HO257 := n6_; have HO262 := n7_; have BK229 := n8_; have BK253 := n9_; have HB := n10_; clear n0_ n1_ n2_ n3_ n4_ n5_ n6_ n7_ n8_ n9_ n10_; clear hb ho78; obtain ⟨Ao79, co79, eo79⟩ := Kd.R_slice HO232.out; subst eo79; obtain ⟨Ao80, co80, eo80⟩ := Kd.R_slice HO262.out; subst eo80) | (go_at_call 8; (with_reducible refine (ostiarybook_Same_string.calls k _ _ t230 _ _ y260 true _ ?side1 ?side2 ?side3 ?side4 A21.out).mono ?_); (case side1 => repeat (first | exact (Kd.R_reads' HO232.out).2.2 | xcd_)); (case side2 => exact (Kd.R_reads' HO232.out).2.1); (case side3 => repeat (first | exact (Kd.R_reads' HO262.out).2.2 | xcd_)); (case side4 => exact (Kd.R_reads' HO262.out).2.1); rintro e w' ⟨rfl, ⟨nd, rfl⟩⟩) | ((with_reducible refine gate_dst (N := 83) rfl ?_); (try (refine gate_guard (by rfl) ?_; dsimp only)); refine Kd.R_lit Kd.string _ 9 ?hg (N := 83) ?hd (xs := ([t223] : List ByteArray)) (inner := [.string t223]) (ok := fun _ => True) (okp := fun _ => True) ?hr ?hp (fun _ hk => hk) trivial (Below.refl _ _) (Nat.le_refl _) (by simp) ?_; xdg_; (case hp => exact (Reps.one (show Kd.M Kd.string _ _ _ t223 [.string t223] from rfl) (Reps.none _ _))); intro v265 w81 ho82 hb hg_ hnew_; clear hg_ hnew_; (first | rw [← Ny264.out] at ho82 | (simp only [Int.reduceToNat] at ho82; rw [← Ny264.out] at ho82)); have n0_ := Am (Kd.S_elder' (by xSd_; exact HO227.out) (Kd.R_base ho82) hb); have n1_ := Am (Kd.R_elder' (by xRd_; exact HO232.out) (Kd.R_base ho82) hb); have n2_ := Am (Kd.R_elder' (by xRd_; exact HO237.out) (Kd.R_base ho82) hb); have n3_ := Am (Kd.S_elder' (by xSd_; exact HO242.out) (Kd.R_base ho82) hb); have n4_ := Am (Kd.R_elder' (by xRd_; exact HO246.out) (Kd.R_base ho82) hb); have n5_ := Am (Kd.S_elder' (by xSd_; exact HO251.out) (Kd.R_base ho82) hb); have n6_ := Am (Kd.R_elder' (by xRd_; exact HO257.out) (Kd.R_base ho82) hb); have n7_ := Am (Kd.R_elder' (by xRd_; exact HO262.out) (Kd.R_base ho82) hb); have n8_ := Am (Kd.R_lower (Kd.R_new' (Kd.R_new' (Kd.R_new' (Kd.R_new' (Kd.R_new' ho82 (Kd.R_lt (by xRd_; exact HO232.out))) (Kd.R_lt (by xRd_; exact HO237.out))) (Kd.R_lt (by xRd_; exact HO246.out))) (Kd.R_lt (by xRd_; exact HO257.out))) (Kd.R_lt (by xRd_; exact HO262.out))) (below_size (by xhd_ GE229 GE253))); have n9_ := Am (blk_below (g := gb229) (o := .cells #[.slice Ao61 t225.length co61, .bool t228] 33 (0, 0)) (by xbk_; exact BK229.out) hb); have n10_ := Am (blk_below (g := gb253) (o := .cells #[.slice Ao71 t249.length co71, .bool t252] 33 (0, 0)) (by xbk_; exact BK253.out) hb); have n11_ := Am (below_step (by xhd_ GE229 GE253) hb); clear HO227; clear HO232; clear HO237; clear HO242; clear HO246; clear HO251; clear HO257; clear HO262; clear BK229; clear BK253; clear HB; have HO227 := n0_; have HO232 := n1_; have HO237 := n2_; have HO242 := n3_; have HO246 := n4_; have HO251 := n5_; have HO257 := n6_; have HO262 := n7_; have HO266 := n8_; have BK229 := n9_; have BK253 := n10_; have HB := n11_; clear n0_ n1_ n2_ n3_ n4_ n5_ n6_ n7_ n8_ n9_ n10_ n11_; clear hb ho82; obtain ⟨Ao83, co83, eo83⟩ := Kd.R_slice HO237.out; subst eo83; obtain ⟨Ao84, co84, eo84⟩ := Kd.R_slice HO266.out; subst eo84) | (go_at_call 8; (with_reducible refine (ostiarybook_Same_string.calls k _ _ t235 _ _ y264 true _ ?side1 ?side2 ?side3 ?side4 A25.out).mono ?_); (case side1 => repeat (first | exact (Kd.R_reads' HO237.out).2.2 | xcd_)); (case side2 => exact (Kd.R_reads' HO237.out).2.1); (case side3 => repeat (first | exact (Kd.R_reads' HO266.out).2.2 | xcd_)); (case side4 => exact (Kd.R_reads' HO266.out).2.1); rintro e w' ⟨rfl, ⟨nd, rfl⟩⟩) | ((with_reducible refine gate_dst (N := 100) rfl ?_); (try (refine gate_guard (by rfl) ?_; dsimp only)); refine Kd.R_lit Kd.string _ 9 ?hg (N := 100) ?hd (xs := ([t223] : List ByteArray)) (inner := [.string t223]) (ok := fun _ => True) (okp := fun _ => True) ?hr ?hp (fun _ hk => hk) trivial (Below.refl _ _) (Nat.le_refl _) (by simp) ?_; xdg_; (case hp => exact (Reps.one (show Kd.M Kd.string _ _ _ t223 [.string t223] from rfl) (Reps.none _ _))); intro v269 w85 ho86 hb hg_ hnew_; clear hg_ hnew_; (first | rw [← Ny268.out] at ho86 | (simp only [Int.reduceToNat] at ho86; rw [← Ny268.out] at ho86)); have n0_ := Am (Kd.S_elder' (by xSd_; exact HO227.out) (Kd.R_base ho86) hb); have n1_ := Am (Kd.R_elder' (by xRd_; exact HO232.out) (Kd.R_base ho86) hb); have n2_ := Am (Kd.R_elder' (by xRd_; exact HO237.out) (Kd.R_base ho86) hb); have n3_ := Am (Kd.S_elder' (by xSd_; exact HO242.out) (Kd.R_base ho86) hb); have n4_ := Am (Kd.R_elder' (by xRd_; exact HO246.out) (Kd.R_base ho86) hb); have n5_ := Am (Kd.S_elder' (by xSd_; exact HO251.out) (Kd.R_base ho86) hb); have n6_ := Am (Kd.R_elder' (by xRd_; exact HO257.out) (Kd.R_base ho86) hb); have n7_ := Am (Kd.R_elder' (by xRd_; exact HO262.out) (Kd.R_base ho86) hb); have n8_ := Am (Kd.R_elder' (by xRd_; exact HO266.out) (Kd.R_base ho86) hb); have n9_ := Am (Kd.R_lower (Kd.R_new' (Kd.R_new' (Kd.R_new' (Kd.R_new' (Kd.R_new' (Kd.R_new' ho86 (Kd.R_lt (by xRd_; exact HO232.out))) (Kd.R_lt (by xRd_; exact HO237.out))) (Kd.R_lt (by xRd_; exact HO246.out))) (Kd.R_lt (by xRd_; exact HO257.out))) (Kd.R_lt (by xRd_; exact HO262.out))) (Kd.R_lt (by xRd_; exact HO266.out))) (below_size (by xhd_ GE229 GE253))); have n10_ := Am (blk_below (g := gb229) (o := .cells #[.slice Ao61 t225.length co61, .bool t228] 33 (0, 0)) (by xbk_; exact BK229.out) hb); have n11_ := Am (blk_below (g := gb253) (o := .cells #[.slice Ao71 t249.length co71, .bool t252] 33 (0, 0)) (by xbk_; exact BK253.out) hb); have n12_ := Am (below_step (by xhd_ GE229 GE253) hb); clear HO227; clear HO232; clear HO237; clear HO242; clear HO246; clear HO251; clear HO257; clear HO262; clear HO266; clear BK229; clear BK253; clear HB; have HO227 := n0_; have HO232 := n1_; have HO237 := n2_; have HO242 := n3_; have HO246 := n4_; have HO251 := n5_; have HO257 := n6_; have HO262 := n7_; have HO266 := n8_; have HO270 := n9_; have BK229 := n10_; have BK253 := n11_; have HB := n12_; clear n0_ n1_ n2_ n3_ n4_ n5_ n6_ n7_ n8_ n9_ n10_ n11_ n12_; clear hb ho86; obtain ⟨Ao87, co87, eo87⟩ := Kd.R_slice HO257.out; subst eo87; obtain ⟨Ao88, co88, eo88⟩ := Kd.R_slice HO270.out; subst eo88) | (go_at_call 8; (with_reducible refine (ostiarybook_Same_string.calls k _ _ t255 _ _ y268 true _ ?side1 ?side2 ?side3 ?side4 A56.out).mono ?_); (case side1 => repeat (first | exact (Kd.R_reads' HO257.out).2.2 | xcd_)); (case side2 => exact (Kd.R_reads' HO257.out).2.1); (case side3 => repeat (first | exact (Kd.R_reads' HO270.out).2.2 | xcd_)); (case side4 => exact (Kd.R_reads' HO270.out).2.1); rintro e w' ⟨rfl, ⟨nd, rfl⟩⟩) | (go_at_call 16; (with_reducible refine (ostiarylaw10_known.calls k  t272 _ A58.out).mono ?_); rintro e w89 ⟨rfl, hb⟩; have n0_ := Am (Kd.S_below (by xSd_; exact HO227.out) hb); have n1_ := Am (Kd.R_below (by xRd_; exact HO232.out) hb); have n2_ := Am (Kd.R_below (by xRd_; exact HO237.out) hb); have n3_ := Am (Kd.S_below (by xSd_; exact HO242.out) hb); have n4_ := Am (Kd.R_below (by xRd_; exact HO246.out) hb); have n5_ := Am (Kd.S_below (by xSd_; exact HO251.out) hb); have n6_ := Am (Kd.R_below (by xRd_; exact HO257.out) hb); have n7_ := Am (Kd.R_below (by xRd_; exact HO262.out) hb); have n8_ := Am (Kd.R_below (by xRd_; exact HO266.out) hb); have n9_ := Am (Kd.R_below (by xRd_; exact HO270.out) hb); have n10_ := Am (blk_below (g := gb229) (o := .cells #[.slice Ao61 t225.length co61, .bool t228] 33 (0, 0)) (by xbk_; exact BK229.out) hb); have n11_ := Am (blk_below (g := gb253) (o := .cells #[.slice Ao71 t249.length co71, .bool t252] 33 (0, 0)) (by xbk_; exact BK253.out) hb); have n12_ := Am (below_step (by xhd_ GE229 GE253) hb); clear HO227; clear HO232; clear HO237; clear HO242; clear HO246; clear HO251; clear HO257; clear HO262; clear HO266; clear HO270; clear BK229; clear BK253; clear HB; have HO227 := n0_; have HO232 := n1_; have HO237 := n2_; have HO242 := n3_; have HO246 := n4_; have HO251 := n5_; have HO257 := n6_; have HO262 := n7_; have HO266 := n8_; have HO270 := n9_; have BK229 := n10_; have BK253 := n11_; have HB := n12_; clear n0_ n1_ n2_ n3_ n4_ n5_ n6_ n7_ n8_ n9_ n10_ n11_ n12_; (try clear hb); (try clear hb2); (try clear hk); (try clear hi)))
                                  go_ret
                                  exact ⟨by xfr_, by xhd_ GE229 GE253⟩
                                · replace c57 := Bool.eq_false_iff.mpr c57
                                  subst c57
                                  have H1 : (some false) = some r := by rw [if_neg (show ¬ (false = true) by decide)] at H; exact H
                                  clear H
                                  have H := H1
                                  clear H1
                                  exact absurd ((Option.some.inj H).trans hrt) (by decide)
                              · rw [if_neg c55] at H
                                have c55b0 : (t258.toList == ([115, 99, 114, 105, 112, 116, 45, 115, 114, 99] : List UInt8)) = false := beq_eq_false_iff_ne.mpr c55
                                have c55b1 : (t258.toList != ([115, 99, 114, 105, 112, 116, 45, 115, 114, 99] : List UInt8)) = true := bne_iff_ne.mpr c55
                                exact absurd ((Option.some.inj H).trans hrt) (by decide)
                            · replace c54 := Bool.eq_false_iff.mpr c54
                              subst c54
                              have H1 : (some false) = some r := by rw [if_neg (show ¬ (false = true) by decide)] at H; exact H
                              clear H
                              have H := H1
                              clear H1
                              exact absurd ((Option.some.inj H).trans hrt) (by decide)
                        · replace c26 := Bool.eq_false_iff.mpr c26
                          subst c26
                          have H1 : (some false) = some r := by rw [if_neg (show ¬ (false = true) by decide)] at H; exact H
                          clear H
                          have H := H1
                          clear H1
                          exact absurd ((Option.some.inj H).trans hrt) (by decide)
                      · rw [if_neg c24] at H
                        have c24b0 : (t238.toList == ([100, 101, 102, 97, 117, 108, 116, 45, 115, 114, 99] : List UInt8)) = false := beq_eq_false_iff_ne.mpr c24
                        have c24b1 : (t238.toList != ([100, 101, 102, 97, 117, 108, 116, 45, 115, 114, 99] : List UInt8)) = true := bne_iff_ne.mpr c24
                        exact absurd ((Option.some.inj H).trans hrt) (by decide)
                    · replace c23 := Bool.eq_false_iff.mpr c23
                      subst c23
                      have H1 : (some false) = some r := by rw [if_neg (show ¬ (false = true) by decide)] at H; exact H
                      clear H
                      have H := H1
                      clear H1
                      exact absurd ((Option.some.inj H).trans hrt) (by decide)
                  · replace c22 := Bool.eq_false_iff.mpr c22
                    subst c22
                    have H1 : (some false) = some r := by rw [if_neg (show ¬ (false = true) by decide)] at H; exact H
                    clear H
                    have H := H1
                    clear H1
                    exact absurd ((Option.some.inj H).trans hrt) (by decide)
                · rw [if_neg c20] at H
                  have c20b0 : (t233.toList == ([105, 109, 103, 45, 115, 114, 99] : List UInt8)) = false := beq_eq_false_iff_ne.mpr c20
                  have c20b1 : (t233.toList != ([105, 109, 103, 45, 115, 114, 99] : List UInt8)) = true := bne_iff_ne.mpr c20
                  exact absurd ((Option.some.inj H).trans hrt) (by decide)
              · replace c19 := Bool.eq_false_iff.mpr c19
                subst c19
                have H1 : (some false) = some r := by rw [if_neg (show ¬ (false = true) by decide)] at H; exact H
                clear H
                have H := H1
                clear H1
                exact absurd ((Option.some.inj H).trans hrt) (by decide)
            · rw [if_neg c15] at H
              exact absurd H (by simp)
          · rw [if_neg c12] at H
            exact absurd H (by simp)
        · rw [if_neg c8] at H
          exact absurd H (by simp)
      · rw [if_neg c7] at H
        exact absurd H (by simp)
    · rw [if_neg c6] at H
      exact absurd H (by simp)
  · rw [if_neg c5] at H
    exact absurd H (by simp)

/-- THE ONE PURE STATEMENT of ostiarylaw10_PolicyFirst: yours. -/
def ostiarylaw10_PolicyFirst.Pure : Prop := ∀ (a0 : ByteArray) (a1 : ByteArray), a0.size ≤ 140737488351232 → a1.size ≤ 140737488351232 → ∃ k, ostiarylaw10_PolicyFirst.f k a0 a1 = some true
theorem ostiarylaw10_PolicyFirst.walk (P : ostiarylaw10_PolicyFirst.Pure) (a0 : ByteArray) (a1 : ByteArray) (w : World) (w0 : a0.size ≤ 140737488351232) (w1 : a1.size ≤ 140737488351232) :
    Calls Tryd.prog 7 #[.string a0, .string a1] w fun e w' => e = .returned (.bool true) ∧ Below w.heap.size w w' := by
  obtain ⟨k, h⟩ := P a0 a1 w0 w1
  refine (ostiarylaw10_PolicyFirst.calls k a0 a1 true w h rfl).mono ?_
  rintro e w' ⟨rfl, hd⟩
  exact ⟨rfl, hd⟩

end Go.Proofs.YtohcjdninpjpgaaDoor.PX
