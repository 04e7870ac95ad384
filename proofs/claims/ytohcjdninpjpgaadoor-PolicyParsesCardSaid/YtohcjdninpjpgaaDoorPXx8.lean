/- Functions of the program and their walks, printed by a program. -/
import Derived.Test.YtohcjdninpjpgaaDoorCpolicyPolicyrule
import Derived.Test.YtohcjdninpjpgaaDoorCpolicyRule
import Derived.Test.YtohcjdninpjpgaaDoorCstringsJoin
import Derived.Test.YtohcjdninpjpgaaDoorCslicesClonestringstring
import Derived.Test.YtohcjdninpjpgaaDoorCpolicywords
import Derived.Test.YtohcjdninpjpgaaDoorCstringsSplit
import Derived.Test.YtohcjdninpjpgaaDoorCostiaryref1Lower
import Derived.Test.YtohcjdninpjpgaaDoorCinfraLower
import Derived.Test.YtohcjdninpjpgaaDoorPXx0
import Derived.Test.YtohcjdninpjpgaaDoorPXx1
import Derived.Test.YtohcjdninpjpgaaDoorPXx2
import Derived.Test.YtohcjdninpjpgaaDoorPXx3
import Derived.Test.YtohcjdninpjpgaaDoorPXx4
import Derived.Test.YtohcjdninpjpgaaDoorPXx5
import Derived.Test.YtohcjdninpjpgaaDoorPXx6
import Derived.Test.YtohcjdninpjpgaaDoorPXx7
namespace Go.Proofs.YtohcjdninpjpgaaDoor.PX
open Go.Proofs.YtohcjdninpjpgaaDoor.Own
open Go.RowKit Go.Proofs.YtohcjdninpjpgaaDoorW.PrintWords Go.Proofs.YtohcjdninpjpgaaDoorW.PrintLast Go.Proofs.YtohcjdninpjpgaaDoorW.PrintMore
attribute [local go_sem] max2_int min2_int max_two min_two max_three min_three max_four min_four   -- for this text's walks alone
set_option linter.unusedVariables false
set_option linter.unusedSimpArgs false

/-! ### ostiarylaw10_PolicyParses: function 4 -/
mutual
def ostiarylaw10_PolicyParses.j0 : Nat → List (S29) → ByteArray → Bool → List (S52) → Bool → List (S69) → Bool → Option (Bool)
  | 0, _, _, _, _, _, _, _ => none
  | k + 1, x2, x3, x42, x367000, x367001, x372000, x372001 => if x42 = true then (some false) else ((policy_For.f 2).bind fun t375 => ((policy_For.f 6).bind fun t376 => ((policy_For.f 4).bind fun t377 => (ostiarylaw10_PolicyParses.l0 k x2 (([x3, t375, t376, t377] : List ByteArray)) 0 x367000 x367001 x372000 x372001))))
def ostiarylaw10_PolicyParses.l0 : Nat → List (S29) → List ByteArray → Int → List (S52) → Bool → List (S69) → Bool → Option (Bool)
  | 0, _, _, _, _, _, _, _ => none
  | k + 1, x2, x11, x12, x367000, x367001, x372000, x372001 => if x12 < (x11.length : Int) then (if 0 ≤ x12 then ((policy_Values.f k x367000 x367001 (rdOf ByteArray.empty x11 x12)).bind fun bt382 => ((ostiaryref10_Values.f k x372000 x372001 (rdOf ByteArray.empty x11 x12)).bind fun bt388 => ((ostiarybook_Same_string.f k bt382.1 bt388.1).bind fun t393 => (if t393 = true then (if bt382.2.1.toList = bt388.2.1.toList then (if (bt382.2.2 != bt388.2.2) = true then (some false) else (ostiarylaw10_PolicyParses.l0 k x2 x11 (wrap64 (x12 + 1)) x367000 x367001 x372000 x372001)) else (some false)) else (some false))))) else (none)) else ((policy_From.f k x2).bind fun t394 => ((ostiaryref10_From.f k x2).bind fun t397 => (if (t394.length : Int) = (t397.length : Int) then (ostiarylaw10_PolicyParses.l1 k t394 t397 0) else (some false))))
def ostiarylaw10_PolicyParses.l1 : Nat → List (S33) → List (S41) → Int → Option (Bool)
  | 0, _, _, _ => none
  | k + 1, x19, x20, x21 => if x21 < (x19.length : Int) then (if 0 ≤ x21 then (if x21 < (x20.length : Int) then ((ostiarylaw10_same.f k ((rd_T33 x19 x21).f0) ((rd_T33 x19 x21).f1) ((rd_T41 x20 x21).f0) ((rd_T41 x20 x21).f1)).bind fun t402 => (if t402 = true then (ostiarylaw10_PolicyParses.l1 k x19 x20 (wrap64 (x21 + 1))) else (some false))) else (none)) else (none)) else ((ostiarylaw10_known.f k).bind fun t403 => (some t403))
end
def ostiarylaw10_PolicyParses.f (k : Nat) (a0 : ByteArray) (a1 : Bool) (l2 : List (S29)) (a3 : ByteArray) : Option (Bool) := (ostiarykeep_Few.f a0 800).bind fun t358 => ((ostiarykeep_FewHeaders.f k l2 10 300).bind fun t359 => ((policy_Parse.f k t358 a1).bind fun bt362 => ((ostiaryref10_Parse.f k t358 a1).bind fun bt367 => ((ostiarylaw10_same.f k bt362.1 bt362.2 bt367.1 bt367.2).bind fun t372 => (if t372 = true then ((policy_Text.f k bt362.1 bt362.2).bind fun t373 => ((ostiaryref10_Text.f k bt367.1 bt367.2).bind fun t374 => (ostiarylaw10_PolicyParses.j0 k t359 a3 (t373.toList != t374.toList) bt362.1 bt362.2 bt367.1 bt367.2))) else (ostiarylaw10_PolicyParses.j0 k t359 a3 true bt362.1 bt362.2 bt367.1 bt367.2))))))
theorem ostiarylaw10_PolicyParses.mono_l : ∀ k, (∀ y0 y1 y2 y3 y4 y5 y6, LeO (ostiarylaw10_PolicyParses.j0 k y0 y1 y2 y3 y4 y5 y6) (ostiarylaw10_PolicyParses.j0 (k + 1) y0 y1 y2 y3 y4 y5 y6)) ∧ (∀ y0 y1 y2 y3 y4 y5 y6, LeO (ostiarylaw10_PolicyParses.l0 k y0 y1 y2 y3 y4 y5 y6) (ostiarylaw10_PolicyParses.l0 (k + 1) y0 y1 y2 y3 y4 y5 y6)) ∧ (∀ y0 y1 y2, LeO (ostiarylaw10_PolicyParses.l1 k y0 y1 y2) (ostiarylaw10_PolicyParses.l1 (k + 1) y0 y1 y2))
  | 0 => ⟨fun _ _ _ _ _ _ _ r h => by simp [ostiarylaw10_PolicyParses.j0] at h, fun _ _ _ _ _ _ _ r h => by simp [ostiarylaw10_PolicyParses.l0] at h, fun _ _ _ r h => by simp [ostiarylaw10_PolicyParses.l1] at h⟩
  | k + 1 => by
    obtain ⟨ih0, ih1, ih2⟩ := ostiarylaw10_PolicyParses.mono_l k
    refine ⟨?_, ?_, ?_⟩
    · intro y0 y1 y2 y3 y4 y5 y6
      unfold ostiarylaw10_PolicyParses.j0
      repeat' first
      | (with_reducible exact ih0 _ _ _ _ _ _ _)
      | (with_reducible exact ih1 _ _ _ _ _ _ _)
      | (with_reducible exact ih2 _ _ _)
      | (with_reducible exact ostiarybook_Same_string.mono _ _ _)
      | (with_reducible exact ostiarykeep_FewHeaders.mono _ _ _ _)
      | (with_reducible exact ostiarylaw10_known.mono _)
      | (with_reducible exact ostiarylaw10_same.mono _ _ _ _ _)
      | (with_reducible exact ostiaryref10_From.mono _ _)
      | (with_reducible exact ostiaryref10_Parse.mono _ _ _)
      | (with_reducible exact ostiaryref10_Text.mono _ _ _)
      | (with_reducible exact ostiaryref10_Values.mono _ _ _ _)
      | (with_reducible exact policy_From.mono _ _)
      | (with_reducible exact policy_Parse.mono _ _ _)
      | (with_reducible exact policy_Text.mono _ _ _)
      | (with_reducible exact policy_Values.mono _ _ _ _)
      | (with_reducible exact LeO.refl _)
      | (with_reducible exact LeO.none _)
      | (with_reducible refine LeO.ite ?_ ?_)
      | (with_reducible refine LeO.bind ?_ (fun _ => ?_))
      | exact ih0 _ _ _ _ _ _ _
      | exact ih1 _ _ _ _ _ _ _
      | exact ih2 _ _ _
      | exact ostiarybook_Same_string.mono _ _ _
      | exact ostiarykeep_FewHeaders.mono _ _ _ _
      | exact ostiarylaw10_known.mono _
      | exact ostiarylaw10_same.mono _ _ _ _ _
      | exact ostiaryref10_From.mono _ _
      | exact ostiaryref10_Parse.mono _ _ _
      | exact ostiaryref10_Text.mono _ _ _
      | exact ostiaryref10_Values.mono _ _ _ _
      | exact policy_From.mono _ _
      | exact policy_Parse.mono _ _ _
      | exact policy_Text.mono _ _ _
      | exact policy_Values.mono _ _ _ _
      | exact LeO.none _
      | refine LeO.ite ?_ ?_
      | refine LeO.bind ?_ (fun _ => ?_)
    · intro y0 y1 y2 y3 y4 y5 y6
      unfold ostiarylaw10_PolicyParses.l0
      repeat' first
      | (with_reducible exact ih0 _ _ _ _ _ _ _)
      | (with_reducible exact ih1 _ _ _ _ _ _ _)
      | (with_reducible exact ih2 _ _ _)
      | (with_reducible exact ostiarybook_Same_string.mono _ _ _)
      | (with_reducible exact ostiarykeep_FewHeaders.mono _ _ _ _)
      | (with_reducible exact ostiarylaw10_known.mono _)
      | (with_reducible exact ostiarylaw10_same.mono _ _ _ _ _)
      | (with_reducible exact ostiaryref10_From.mono _ _)
      | (with_reducible exact ostiaryref10_Parse.mono _ _ _)
      | (with_reducible exact ostiaryref10_Text.mono _ _ _)
      | (with_reducible exact ostiaryref10_Values.mono _ _ _ _)
      | (with_reducible exact policy_From.mono _ _)
      | (with_reducible exact policy_Parse.mono _ _ _)
      | (with_reducible exact policy_Text.mono _ _ _)
      | (with_reducible exact policy_Values.mono _ _ _ _)
      | (with_reducible exact LeO.refl _)
      | (with_reducible exact LeO.none _)
      | (with_reducible refine LeO.ite ?_ ?_)
      | (with_reducible refine LeO.bind ?_ (fun _ => ?_))
      | exact ih0 _ _ _ _ _ _ _
      | exact ih1 _ _ _ _ _ _ _
      | exact ih2 _ _ _
      | exact ostiarybook_Same_string.mono _ _ _
      | exact ostiarykeep_FewHeaders.mono _ _ _ _
      | exact ostiarylaw10_known.mono _
      | exact ostiarylaw10_same.mono _ _ _ _ _
      | exact ostiaryref10_From.mono _ _
      | exact ostiaryref10_Parse.mono _ _ _
      | exact ostiaryref10_Text.mono _ _ _
      | exact ostiaryref10_Values.mono _ _ _ _
      | exact policy_From.mono _ _
      | exact policy_Parse.mono _ _ _
      | exact policy_Text.mono _ _ _
      | exact policy_Values.mono _ _ _ _
      | exact LeO.none _
      | refine LeO.ite ?_ ?_
      | refine LeO.bind ?_ (fun _ => ?_)
    · intro y0 y1 y2
      unfold ostiarylaw10_PolicyParses.l1
      repeat' first
      | (with_reducible exact ih0 _ _ _ _ _ _ _)
      | (with_reducible exact ih1 _ _ _ _ _ _ _)
      | (with_reducible exact ih2 _ _ _)
      | (with_reducible exact ostiarybook_Same_string.mono _ _ _)
      | (with_reducible exact ostiarykeep_FewHeaders.mono _ _ _ _)
      | (with_reducible exact ostiarylaw10_known.mono _)
      | (with_reducible exact ostiarylaw10_same.mono _ _ _ _ _)
      | (with_reducible exact ostiaryref10_From.mono _ _)
      | (with_reducible exact ostiaryref10_Parse.mono _ _ _)
      | (with_reducible exact ostiaryref10_Text.mono _ _ _)
      | (with_reducible exact ostiaryref10_Values.mono _ _ _ _)
      | (with_reducible exact policy_From.mono _ _)
      | (with_reducible exact policy_Parse.mono _ _ _)
      | (with_reducible exact policy_Text.mono _ _ _)
      | (with_reducible exact policy_Values.mono _ _ _ _)
      | (with_reducible exact LeO.refl _)
      | (with_reducible exact LeO.none _)
      | (with_reducible refine LeO.ite ?_ ?_)
      | (with_reducible refine LeO.bind ?_ (fun _ => ?_))
      | exact ih0 _ _ _ _ _ _ _
      | exact ih1 _ _ _ _ _ _ _
      | exact ih2 _ _ _
      | exact ostiarybook_Same_string.mono _ _ _
      | exact ostiarykeep_FewHeaders.mono _ _ _ _
      | exact ostiarylaw10_known.mono _
      | exact ostiarylaw10_same.mono _ _ _ _ _
      | exact ostiaryref10_From.mono _ _
      | exact ostiaryref10_Parse.mono _ _ _
      | exact ostiaryref10_Text.mono _ _ _
      | exact ostiaryref10_Values.mono _ _ _ _
      | exact policy_From.mono _ _
      | exact policy_Parse.mono _ _ _
      | exact policy_Text.mono _ _ _
      | exact policy_Values.mono _ _ _ _
      | exact LeO.none _
      | refine LeO.ite ?_ ?_
      | refine LeO.bind ?_ (fun _ => ?_)
theorem ostiarylaw10_PolicyParses.mono : ∀ a0 a1 a2 a3 k, LeO (ostiarylaw10_PolicyParses.f k a0 a1 a2 a3) (ostiarylaw10_PolicyParses.f (k + 1) a0 a1 a2 a3) := by
  intro a0 a1 a2 a3 k
  obtain ⟨ih0, ih1, ih2⟩ := ostiarylaw10_PolicyParses.mono_l k
  unfold ostiarylaw10_PolicyParses.f
  repeat' first
      | (with_reducible exact ih0 _ _ _ _ _ _ _)
      | (with_reducible exact ih1 _ _ _ _ _ _ _)
      | (with_reducible exact ih2 _ _ _)
      | (with_reducible exact ostiarybook_Same_string.mono _ _ _)
      | (with_reducible exact ostiarykeep_FewHeaders.mono _ _ _ _)
      | (with_reducible exact ostiarylaw10_known.mono _)
      | (with_reducible exact ostiarylaw10_same.mono _ _ _ _ _)
      | (with_reducible exact ostiaryref10_From.mono _ _)
      | (with_reducible exact ostiaryref10_Parse.mono _ _ _)
      | (with_reducible exact ostiaryref10_Text.mono _ _ _)
      | (with_reducible exact ostiaryref10_Values.mono _ _ _ _)
      | (with_reducible exact policy_From.mono _ _)
      | (with_reducible exact policy_Parse.mono _ _ _)
      | (with_reducible exact policy_Text.mono _ _ _)
      | (with_reducible exact policy_Values.mono _ _ _ _)
      | (with_reducible exact LeO.refl _)
      | (with_reducible exact LeO.none _)
      | (with_reducible refine LeO.ite ?_ ?_)
      | (with_reducible refine LeO.bind ?_ (fun _ => ?_))
      | exact ih0 _ _ _ _ _ _ _
      | exact ih1 _ _ _ _ _ _ _
      | exact ih2 _ _ _
      | exact ostiarybook_Same_string.mono _ _ _
      | exact ostiarykeep_FewHeaders.mono _ _ _ _
      | exact ostiarylaw10_known.mono _
      | exact ostiarylaw10_same.mono _ _ _ _ _
      | exact ostiaryref10_From.mono _ _
      | exact ostiaryref10_Parse.mono _ _ _
      | exact ostiaryref10_Text.mono _ _ _
      | exact ostiaryref10_Values.mono _ _ _ _
      | exact policy_From.mono _ _
      | exact policy_Parse.mono _ _ _
      | exact policy_Text.mono _ _ _
      | exact policy_Values.mono _ _ _ _
      | exact LeO.none _
      | refine LeO.ite ?_ ?_
      | refine LeO.bind ?_ (fun _ => ?_)
def ostiarylaw10_PolicyParses.T5 : Bool × List (List Nat × List Nat) := (true, [([], []), ([], []), ([0, 1], [0, 1]), ([2], [2]), ([3, 2], [3]), ([4], [4]), ([5, 4, 4], [4, 5]), ([4], [4]), ([7, 6, 4], [4, 7]), ([6, 8, 4], [4, 6, 8]), ([4, 9], [4, 9])])
def ostiarylaw10_PolicyParses.B5 : List Nat := [0, 0, 3, 7, 15, 31, 63, 31, 255, 511, 1023]
theorem ostiarylaw10_PolicyParses.tab5 : rtab .any (opsOf Tryd.f4 5) = ostiarylaw10_PolicyParses.T5 := by kernel_rfl
theorem ostiarylaw10_PolicyParses.bits5 : waitsOk ostiarylaw10_PolicyParses.T5.2 ostiarylaw10_PolicyParses.B5 = true := by kernel_rfl
def ostiarylaw10_PolicyParses.T11 : Bool × List (List Nat × List Nat) := (true, [([], []), ([], []), ([], []), ([1, 2], [1, 2]), ([3], [3]), ([0, 4], [0, 4]), ([5], [5]), ([6], [6]), ([6], [6]), ([6], [6]), ([7, 5, 0, 1, 2, 3, 4, 5, 6, 7], [7]), ([8, 10, 0, 1, 2, 3, 4, 5, 6, 7, 8, 10], [8]), ([9, 11, 0, 1, 2, 3, 4, 5, 6, 7, 8, 9, 10, 11], [9])])
def ostiarylaw10_PolicyParses.B11 : List Nat := [0, 0, 0, 6, 14, 31, 63, 127, 127, 127, 255, 1535, 4095]
theorem ostiarylaw10_PolicyParses.tab11 : rtab .any (opsOf Tryd.f4 11) = ostiarylaw10_PolicyParses.T11 := by kernel_rfl
theorem ostiarylaw10_PolicyParses.bits11 : waitsOk ostiarylaw10_PolicyParses.T11.2 ostiarylaw10_PolicyParses.B11 = true := by kernel_rfl
def ostiarylaw10_PolicyParses.T12 : Bool × List (List Nat × List Nat) := (true, [([], []), ([], []), ([], []), ([1, 2], [1, 2]), ([3], [3]), ([0, 4], [0, 4]), ([5], [5]), ([6], [6]), ([6], [6]), ([6], [6]), ([7, 5, 0, 1, 2, 3, 4, 5, 6, 7], [7]), ([8, 10, 0, 1, 2, 3, 4, 5, 6, 7, 8, 10], [8]), ([9, 11, 0, 1, 2, 3, 4, 5, 6, 7, 8, 9, 10, 11], [9])])
def ostiarylaw10_PolicyParses.B12 : List Nat := [0, 0, 0, 6, 14, 31, 63, 127, 127, 127, 255, 1535, 4095]
theorem ostiarylaw10_PolicyParses.tab12 : rtab .any (opsOf Tryd.f4 12) = ostiarylaw10_PolicyParses.T12 := by kernel_rfl
theorem ostiarylaw10_PolicyParses.bits12 : waitsOk ostiarylaw10_PolicyParses.T12.2 ostiarylaw10_PolicyParses.B12 = true := by kernel_rfl
def ostiarylaw10_PolicyParses.T22 : Bool × List (List Nat × List Nat) := (true, [([], []), ([], []), ([0, 1], [0, 1]), ([2], [2]), ([], []), ([], []), ([4, 5], [4, 5]), ([6], [6]), ([3, 7], [3, 7]), ([8], [8])])
def ostiarylaw10_PolicyParses.B22 : List Nat := [0, 0, 3, 7, 0, 0, 48, 112, 255, 511]
theorem ostiarylaw10_PolicyParses.tab22 : rtab .any (opsOf Tryd.f4 22) = ostiarylaw10_PolicyParses.T22 := by kernel_rfl
theorem ostiarylaw10_PolicyParses.bits22 : waitsOk ostiarylaw10_PolicyParses.T22.2 ostiarylaw10_PolicyParses.B22 = true := by kernel_rfl
set_option maxHeartbeats 8000000 in
set_option maxRecDepth 100000 in
theorem ostiarylaw10_PolicyParses.calls (k : Nat) (a0 : ByteArray) (a1 : Bool) (A2 : Option Addr) (c2 : Nat) (l2 : List (S29)) (a3 : ByteArray) (r : Bool) (w : World) (hr2 : Kd.C k29 w A2 l2.length l2) (hc2 : l2.length ≤ c2) (h : ostiarylaw10_PolicyParses.f k a0 a1 l2 a3 = some r) :
    Calls Tryd.prog 4 #[.string a0, .bool a1, .slice A2 l2.length c2, .string a3] w fun e w' => e = .returned (.bool r) ∧ Below w.heap.size w w' := by
  have hu33 := Tryd.underlying33
  have hu41 := Tryd.underlying41
  have HR2 := Aside0.mk hr2
  have HC2 := Aside0.mk hc2
  clear hr2 hc2
  have HB := Am (Below.refl w.heap.size w)
  have H : ((ostiarykeep_Few.f a0 800).bind fun t358 => ((ostiarykeep_FewHeaders.f k l2 10 300).bind fun t359 => ((policy_Parse.f k t358 a1).bind fun bt362 => ((ostiaryref10_Parse.f k t358 a1).bind fun bt367 => ((ostiarylaw10_same.f k bt362.1 bt362.2 bt367.1 bt367.2).bind fun t372 => (if t372 = true then ((policy_Text.f k bt362.1 bt362.2).bind fun t373 => ((ostiaryref10_Text.f k bt367.1 bt367.2).bind fun t374 => (ostiarylaw10_PolicyParses.j0 k t359 a3 (t373.toList != t374.toList) bt362.1 bt362.2 bt367.1 bt367.2))) else (ostiarylaw10_PolicyParses.j0 k t359 a3 true bt362.1 bt362.2 bt367.1 bt367.2))))))) = some r := h
  clear h
  replace H := Option.bind_eq_some_iff.mp H
  obtain ⟨t358, A50, H⟩ := H
  replace H : ((ostiarykeep_FewHeaders.f k l2 10 300).bind fun t359 => ((policy_Parse.f k t358 a1).bind fun bt362 => ((ostiaryref10_Parse.f k t358 a1).bind fun bt367 => ((ostiarylaw10_same.f k bt362.1 bt362.2 bt367.1 bt367.2).bind fun t372 => (if t372 = true then ((policy_Text.f k bt362.1 bt362.2).bind fun t373 => ((ostiaryref10_Text.f k bt367.1 bt367.2).bind fun t374 => (ostiarylaw10_PolicyParses.j0 k t359 a3 (t373.toList != t374.toList) bt362.1 bt362.2 bt367.1 bt367.2))) else (ostiarylaw10_PolicyParses.j0 k t359 a3 true bt362.1 bt362.2 bt367.1 bt367.2)))))) = some r := H
  have A5 := Aside0.mk A50
  clear A50
  replace H := Option.bind_eq_some_iff.mp H
  obtain ⟨t359, A60, H⟩ := H
  replace H : ((policy_Parse.f k t358 a1).bind fun bt362 => ((ostiaryref10_Parse.f k t358 a1).bind fun bt367 => ((ostiarylaw10_same.f k bt362.1 bt362.2 bt367.1 bt367.2).bind fun t372 => (if t372 = true then ((policy_Text.f k bt362.1 bt362.2).bind fun t373 => ((ostiaryref10_Text.f k bt367.1 bt367.2).bind fun t374 => (ostiarylaw10_PolicyParses.j0 k t359 a3 (t373.toList != t374.toList) bt362.1 bt362.2 bt367.1 bt367.2))) else (ostiarylaw10_PolicyParses.j0 k t359 a3 true bt362.1 bt362.2 bt367.1 bt367.2))))) = some r := H
  have A6 := Aside0.mk A60
  clear A60
  replace H := Option.bind_eq_some_iff.mp H
  obtain ⟨⟨t362, t365⟩, A70, H⟩ := H
  replace H : ((ostiaryref10_Parse.f k t358 a1).bind fun bt367 => ((ostiarylaw10_same.f k t362 t365 bt367.1 bt367.2).bind fun t372 => (if t372 = true then ((policy_Text.f k t362 t365).bind fun t373 => ((ostiaryref10_Text.f k bt367.1 bt367.2).bind fun t374 => (ostiarylaw10_PolicyParses.j0 k t359 a3 (t373.toList != t374.toList) t362 t365 bt367.1 bt367.2))) else (ostiarylaw10_PolicyParses.j0 k t359 a3 true t362 t365 bt367.1 bt367.2)))) = some r := H
  have A7 := Aside0.mk A70
  clear A70
  replace H := Option.bind_eq_some_iff.mp H
  obtain ⟨⟨t367, t370⟩, A80, H⟩ := H
  replace H : ((ostiarylaw10_same.f k t362 t365 t367 t370).bind fun t372 => (if t372 = true then ((policy_Text.f k t362 t365).bind fun t373 => ((ostiaryref10_Text.f k t367 t370).bind fun t374 => (ostiarylaw10_PolicyParses.j0 k t359 a3 (t373.toList != t374.toList) t362 t365 t367 t370))) else (ostiarylaw10_PolicyParses.j0 k t359 a3 true t362 t365 t367 t370))) = some r := H
  have A8 := Aside0.mk A80
  clear A80
  have HC9 := Aside0.mk H
  clear H
  go_enter Tryd.func4, Tryd.ntmps4
  go_upto_region 5 with (first | ((with_reducible refine gate_callee (f := 17) rfl ?_); refine goesL_ (some 23) rfl rfl Tryd.func17 (by kernel_rfl) rfl #[.string a0, .int .i64 800] rfl (by ((try simp only [List.map_toArray, List.map_cons, List.map_nil]); first | done | rfl | (simp only [List.length_drop, List.length_take]; rfl))) ?_; (with_reducible refine (ostiarykeep_Few.calls a0 800 t358 _ A5.out).mono ?_); rintro e w' ⟨rfl, ⟨nd, rfl⟩⟩; refine ⟨_, rfl, ?_⟩) | ((with_reducible refine gate_callee (f := 18) rfl ?_); refine goesL_ (some 25) rfl rfl Tryd.func18 (by kernel_rfl) rfl #[.slice A2 l2.length c2, .int .i64 10, .int .i64 300] rfl (by ((try simp only [List.map_toArray, List.map_cons, List.map_nil]); first | done | rfl | (simp only [List.length_drop, List.length_take]; rfl))) ?_; (with_reducible refine (ostiarykeep_FewHeaders.calls k _ _ l2 10 300 t359 _ ?side1 ?side2 A6.out).mono ?_); (case side1 => repeat (first | exact HR2.out | (first | (with_reducible refine Kd.C_alloc ?_ _) | (with_reducible refine Kd.C_drewN ?_ _) | (with_reducible refine Kd.C_drew ?_)))); (case side2 => exact HC2.out); rintro e w10 ⟨v360, rfl, ho0, hb⟩; refine ⟨_, rfl, ?_⟩; have n0_ := Am (Kd.R_lower ho0 (below_size (by (repeat (first | (with_reducible first | exact HB.out | apply below_alloc | apply pw_below_drewN | apply below_drew1) | exact HB.out))))); have n1_ := Am (below_step (by (repeat (first | (with_reducible first | exact HB.out | apply below_alloc | apply pw_below_drewN | apply below_drew1) | exact HB.out))) hb); clear HB; have HO361 := n0_; have HB := n1_; clear n0_ n1_; ((try clear hb); (try clear hb2); (try clear hk); (try clear hi); (try clear ho0))) | ((with_reducible refine gate_callee (f := 14) rfl ?_); refine goesL_ (some 28) rfl rfl Tryd.func14 (by kernel_rfl) rfl #[.string t358, .bool a1] rfl (by ((try simp only [List.map_toArray, List.map_cons, List.map_nil]); first | done | rfl | (simp only [List.length_drop, List.length_take]; rfl))) ?_; (with_reducible refine (policy_Parse.calls k t358 a1 t362 t365 _ A7.out).mono ?_); rintro e w11 ⟨v363, rfl, ho0, hb⟩; refine ⟨_, rfl, ?_⟩; have n0_ := Am (Kd.R_below (by (with_reducible repeat (first | apply Kd.R_alloc | apply Kd.R_drewN | apply Kd.R_drew)); exact HO361.out) hb); have n1_ := Am (Kd.N_lower (Kd.N_mono (ok' := fun k_ => some k_ ≠ (v360 : Value).ownBlock) (Kd.S_N (Kd.S_bound ho0)) (fun k_ hk_ => (Kd.fresh' (Kd.R_lt (by (with_reducible repeat (first | apply Kd.R_alloc | apply Kd.R_drewN | apply Kd.R_drew)); exact HO361.out)) k_ hk_.2.1))) (below_size (by (repeat (first | (with_reducible first | exact HB.out | apply below_alloc | apply pw_below_drewN | apply below_drew1) | exact HB.out))))); have n2_ := Am (below_step (by (repeat (first | (with_reducible first | exact HB.out | apply below_alloc | apply pw_below_drewN | apply below_drew1) | exact HB.out))) hb); clear HO361; clear HB; have HO361 := n0_; have HO364 := n1_; have HB := n2_; clear n0_ n1_ n2_; ((try clear hb); (try clear hb2); (try clear hk); (try clear hi); (try clear ho0))) | ((with_reducible refine gate_dst (N := 9) rfl ?_); refine box_event ?hg (N := 9) ?hd (cs := #[.slice none 0 0, .bool false]) (t := 33) ?hr ?_; ((case hd => rfl); (case hg => rfl); (case hr => first | (go_simp; done) | (go_simp; rfl))); intro gb366 hg w12 hbox hb; have n0_ := Am (Kd.R_below (by (with_reducible repeat (first | apply Kd.R_alloc | apply Kd.R_drewN | apply Kd.R_drew)); exact HO361.out) hb); have n1_ := Am (Kd.N_below (Kd.N_elderB (by (with_reducible repeat (first | apply Kd.N_alloc | apply Kd.N_drewN | apply Kd.N_drew)); exact HO364.out) gb366 (Nat.le_of_eq hg.symm)) hb); have n2_ := Am (below_step (by (repeat (first | (with_reducible first | exact HB.out | apply below_alloc | apply pw_below_drewN | apply below_drew1) | exact HB.out))) hb); have n3_ := Am (hbox); have n4_ := Am ((by rw [hg]; exact (below_size (by (repeat (first | (with_reducible first | exact HB.out | apply below_alloc | apply pw_below_drewN | apply below_drew1) | exact HB.out)))) : w.heap.size ≤ gb366)); have n5_ := Am ((by rw [hg]; exact (below_size (by (repeat (first | (with_reducible first | exact HB.out | apply below_alloc | apply pw_below_drewN | apply below_drew1) | exact HB.out)))) : w.heap.size ≤ gb366)); clear HO361; clear HO364; clear HB; have HO361 := n0_; have HO364 := n1_; have HB := n2_; have BK366 := n3_; have GW366 := n4_; have GE366 := n5_; clear n0_ n1_ n2_ n3_ n4_ n5_; clear hb hbox hg; obtain ⟨Ao13, co13, eo13⟩ := Kd.N_slice HO364.out; subst eo13; have hcz14_0 : w12.cell? ⟨gb366, 0, none⟩ = some (.slice none 0 0) := (blk_cell BK366.out 0).trans rfl; have hcz14_1 : w12.cell? ⟨gb366, 1, none⟩ = some (.bool false) := (blk_cell BK366.out 1).trans rfl; have hfz14_0 := blk_frozen BK366.out 0; have hfz14_1 := blk_frozen BK366.out 1) | ((with_reducible refine gate_callee (f := 19) rfl ?_); refine goesL_ (some 31) rfl rfl Tryd.func19 (by kernel_rfl) rfl #[.string t358, .bool a1] rfl (by ((try simp only [List.map_toArray, List.map_cons, List.map_nil]); first | done | rfl | (simp only [List.length_drop, List.length_take]; rfl))) ?_; (with_reducible refine (ostiaryref10_Parse.calls k t358 a1 t367 t370 _ A8.out).mono ?_); rintro e w15 ⟨v368, rfl, ho0, hb⟩; refine ⟨_, rfl, ?_⟩; have n0_ := Am (Kd.R_below (by (with_reducible repeat (first | apply Kd.R_alloc | apply Kd.R_drewN | apply Kd.R_drew)); exact (Kd.R_mono (Kd.R_far (p := ⟨gb366, 1, none⟩) (Kd.R_far (p := ⟨gb366, 0, none⟩) (Kd.R_types HO361.out BK366.out (by decide)) (fun _ hk => hk.2) (.slice Ao13 t362.length co13)) (fun _ hk => hk.2) (.bool t365)) (fun _ h_ => h_.1))) hb); have n1_ := Am (Kd.N_elder' (by (with_reducible repeat (first | apply Kd.N_alloc | apply Kd.N_drewN | apply Kd.N_drew)); exact (Kd.N_mono (Kd.N_far (p := ⟨gb366, 1, none⟩) (Kd.N_far (p := ⟨gb366, 0, none⟩) (Kd.N_mono HO364.out (fun k_ hk => (⟨hk, hk.2⟩ : _ ∧ k_ ≠ gb366))) (fun _ hk => hk.2) (.slice Ao13 t362.length co13)) (fun _ hk => hk.2) (.bool t365)) (fun _ h_ => h_.1))) (by first | exact Kd.N_base ho0 | exact Kd.R_base ho0) hb); have n2_ := Am (Kd.N_lower (Kd.N_mono (ok' := fun k_ => some k_ ≠ (v360 : Value).ownBlock ∧ some k_ ≠ (.slice Ao13 t362.length co13 : Value).ownBlock ∧ k_ ≠ gb366) ho0 (fun k_ hk_ => ⟨(Kd.fresh' (Kd.R_lt (by (with_reducible repeat (first | apply Kd.R_alloc | apply Kd.R_drewN | apply Kd.R_drew)); exact (Kd.R_mono (Kd.R_far (p := ⟨gb366, 1, none⟩) (Kd.R_far (p := ⟨gb366, 0, none⟩) (Kd.R_types HO361.out BK366.out (by decide)) (fun _ hk => hk.2) (.slice Ao13 t362.length co13)) (fun _ hk => hk.2) (.bool t365)) (fun _ h_ => h_.1)))) k_ hk_), (Kd.fresh' (Kd.N_lt (by (with_reducible repeat (first | apply Kd.N_alloc | apply Kd.N_drewN | apply Kd.N_drew)); exact (Kd.N_mono (Kd.N_far (p := ⟨gb366, 1, none⟩) (Kd.N_far (p := ⟨gb366, 0, none⟩) (Kd.N_mono HO364.out (fun k_ hk => (⟨hk, hk.2⟩ : _ ∧ k_ ≠ gb366))) (fun _ hk => hk.2) (.slice Ao13 t362.length co13)) (fun _ hk => hk.2) (.bool t365)) (fun _ h_ => h_.1)))) k_ hk_), (Kd.freshB (g := gb366) (o := .cells #[.slice Ao13 t362.length co13, .bool t365] 33 (0, 0)) (by (with_reducible repeat (first | refine blk_drewN ?_ _ | refine blk_drew ?_ | refine blk_alloc ?_ _)); refine blk_put (cs := #[.slice Ao13 t362.length co13, .bool false]) ?_ 1 _ rfl; (with_reducible repeat (first | refine blk_drewN ?_ _ | refine blk_drew ?_ | refine blk_alloc ?_ _)); refine blk_put (cs := #[.slice none 0 0, .bool false]) ?_ 0 _ rfl; (with_reducible repeat (first | refine blk_drewN ?_ _ | refine blk_drew ?_ | refine blk_alloc ?_ _)); exact BK366.out) k_ hk_)⟩)) (below_size (by (repeat (first | (with_reducible first | exact HB.out | apply below_alloc | apply pw_below_drewN | apply below_drew1 | refine below_set ?_ (Aside0.out GE366)) | exact HB.out))))); have n3_ := Am (blk_below (g := gb366) (o := .cells #[.slice Ao13 t362.length co13, .bool t365] 33 (0, 0)) (by (with_reducible repeat (first | refine blk_drewN ?_ _ | refine blk_drew ?_ | refine blk_alloc ?_ _)); refine blk_put (cs := #[.slice Ao13 t362.length co13, .bool false]) ?_ 1 _ rfl; (with_reducible repeat (first | refine blk_drewN ?_ _ | refine blk_drew ?_ | refine blk_alloc ?_ _)); refine blk_put (cs := #[.slice none 0 0, .bool false]) ?_ 0 _ rfl; (with_reducible repeat (first | refine blk_drewN ?_ _ | refine blk_drew ?_ | refine blk_alloc ?_ _)); exact BK366.out) hb); have n4_ := Am (below_step (by (repeat (first | (with_reducible first | exact HB.out | apply below_alloc | apply pw_below_drewN | apply below_drew1 | refine below_set ?_ (Aside0.out GE366)) | exact HB.out))) hb); clear HO361; clear HO364; clear BK366; clear HB; have HO361 := n0_; have HO364 := n1_; have HO369 := n2_; have BK366 := n3_; have HB := n4_; clear n0_ n1_ n2_ n3_ n4_; ((try clear hb); (try clear hb2); (try clear hk); (try clear hi); (try clear ho0))) | ((with_reducible refine gate_dst (N := 10) rfl ?_); refine box_event ?hg (N := 10) ?hd (cs := #[.slice none 0 0, .bool false]) (t := 41) ?hr ?_; ((case hd => rfl); (case hg => rfl); (case hr => first | (go_simp; done) | (go_simp; rfl))); intro gb371 hg w16 hbox hb; have n0_ := Am (Kd.R_below (by (with_reducible repeat (first | apply Kd.R_alloc | apply Kd.R_drewN | apply Kd.R_drew)); exact HO361.out) hb); have n1_ := Am (Kd.N_below (Kd.N_elderB (by (with_reducible repeat (first | apply Kd.N_alloc | apply Kd.N_drewN | apply Kd.N_drew)); exact HO364.out) gb371 (Nat.le_of_eq hg.symm)) hb); have n2_ := Am (Kd.N_below (Kd.N_elderB (by (with_reducible repeat (first | apply Kd.N_alloc | apply Kd.N_drewN | apply Kd.N_drew)); exact HO369.out) gb371 (Nat.le_of_eq hg.symm)) hb); have n3_ := Am (blk_below (g := gb366) (o := .cells #[.slice Ao13 t362.length co13, .bool t365] 33 (0, 0)) (by (with_reducible repeat (first | refine blk_drewN ?_ _ | refine blk_drew ?_ | refine blk_alloc ?_ _)); exact BK366.out) hb); have n4_ := Am (below_step (by (repeat (first | (with_reducible first | exact HB.out | apply below_alloc | apply pw_below_drewN | apply below_drew1 | refine below_set ?_ (Aside0.out GE366)) | exact HB.out))) hb); have n5_ := Am (hbox); have n6_ := Am ((by rw [hg]; exact (below_size (by (repeat (first | (with_reducible first | exact HB.out | apply below_alloc | apply pw_below_drewN | apply below_drew1 | refine below_set ?_ (Aside0.out GE366)) | exact HB.out)))) : w.heap.size ≤ gb371)); have n7_ := Am ((by rw [hg]; exact (below_size (by (repeat (first | (with_reducible first | exact HB.out | apply below_alloc | apply pw_below_drewN | apply below_drew1 | refine below_set ?_ (Aside0.out GE366)) | exact HB.out)))) : w.heap.size ≤ gb371)); have n8_ := Am ((by rw [hg]; exact Nat.ne_of_lt (blk_lt (g := gb366) (o := .cells #[.slice Ao13 t362.length co13, .bool t365] 33 (0, 0)) (by (with_reducible repeat (first | refine blk_drewN ?_ _ | refine blk_drew ?_ | refine blk_alloc ?_ _)); exact BK366.out)) : gb366 ≠ gb371)); have n9_ := Am ((by rw [hg]; exact Nat.ne_of_gt (blk_lt (g := gb366) (o := .cells #[.slice Ao13 t362.length co13, .bool t365] 33 (0, 0)) (by (with_reducible repeat (first | refine blk_drewN ?_ _ | refine blk_drew ?_ | refine blk_alloc ?_ _)); exact BK366.out)) : gb371 ≠ gb366)); clear HO361; clear HO364; clear HO369; clear BK366; clear HB; have HO361 := n0_; have HO364 := n1_; have HO369 := n2_; have BK366 := n3_; have HB := n4_; have BK371 := n5_; have GW371 := n6_; have GE371 := n7_; have NB366_371 := n8_; have NB371_366 := n9_; clear n0_ n1_ n2_ n3_ n4_ n5_ n6_ n7_ n8_ n9_; clear hb hbox hg; obtain ⟨Ao17, co17, eo17⟩ := Kd.N_slice HO369.out; subst eo17; have hnb18 := NB371_366.out; have hnc18 := NB366_371.out; have hcz19_0 : w16.cell? ⟨gb371, 0, none⟩ = some (.slice none 0 0) := (blk_cell BK371.out 0).trans rfl; have hcz19_1 : w16.cell? ⟨gb371, 1, none⟩ = some (.bool false) := (blk_cell BK371.out 1).trans rfl; have hfz19_0 := blk_frozen BK371.out 0; have hfz19_1 := blk_frozen BK371.out 1))
  (try simp only [Act.put, List.setIfInBounds_toArray, List.set_cons_zero, List.set_cons_succ])
  go_cut [42] (fun v42 wc => ∃ (kq : Nat) (x42_8 : Bool), v42 = .bool x42_8 ∧ Aside0 (ostiarylaw10_PolicyParses.j0 kq t359 a3 x42_8 t362 t365 t367 t370 = some r) ∧ Aside0 (kq ≤ k) ∧ Aside0 (Kd.R k29 29 wc w.heap.size (fun _ => True) v360 t359) ∧ Aside0 (Kd.N k52 52 wc w.heap.size (fun k_ => some k_ ≠ (v360 : Value).ownBlock ∧ some k_ ≠ ((.slice Ao17 t367.length co17) : Value).ownBlock ∧ k_ ≠ gb366 ∧ k_ ≠ gb371) (.slice Ao13 t362.length co13) t362) ∧ Aside0 (Kd.N k69 69 wc w.heap.size (fun k_ => some k_ ≠ (v360 : Value).ownBlock ∧ some k_ ≠ ((.slice Ao13 t362.length co13) : Value).ownBlock ∧ k_ ≠ gb366 ∧ k_ ≠ gb371) (.slice Ao17 t367.length co17) t367) ∧ Aside0 (wc.heap[gb366]? = some (.cells #[(.slice Ao13 t362.length co13), .bool t365] 33 (0, 0))) ∧ Aside0 (wc.heap[gb371]? = some (.cells #[(.slice Ao17 t367.length co17), .bool t370] 41 (0, 0))) ∧ Aside0 (Below w.heap.size w wc))
  case first =>
    have H := HC9.out
    clear HC9
    replace H := Option.bind_eq_some_iff.mp H
    obtain ⟨t372, A200, H⟩ := H
    replace H : (if t372 = true then ((policy_Text.f k t362 t365).bind fun t373 => ((ostiaryref10_Text.f k t367 t370).bind fun t374 => (ostiarylaw10_PolicyParses.j0 k t359 a3 (t373.toList != t374.toList) t362 t365 t367 t370))) else (ostiarylaw10_PolicyParses.j0 k t359 a3 true t362 t365 t367 t370)) = some r := H
    have A20 := Aside0.mk A200
    clear A200
    by_cases c21 : t372 = true
    · subst c21
      have H1 : ((policy_Text.f k t362 t365).bind fun t373 => ((ostiaryref10_Text.f k t367 t370).bind fun t374 => (ostiarylaw10_PolicyParses.j0 k t359 a3 (t373.toList != t374.toList) t362 t365 t367 t370))) = some r := by rw [if_pos rfl] at H; exact H
      clear H
      have H := H1
      clear H1
      replace H := Option.bind_eq_some_iff.mp H
      obtain ⟨t373, A220, H⟩ := H
      replace H : ((ostiaryref10_Text.f k t367 t370).bind fun t374 => (ostiarylaw10_PolicyParses.j0 k t359 a3 (t373.toList != t374.toList) t362 t365 t367 t370)) = some r := H
      have A22 := Aside0.mk A220
      clear A220
      replace H := Option.bind_eq_some_iff.mp H
      obtain ⟨t374, A230, H⟩ := H
      replace H : (ostiarylaw10_PolicyParses.j0 k t359 a3 (t373.toList != t374.toList) t362 t365 t367 t370) = some r := H
      have A23 := Aside0.mk A230
      clear A230
      have H' := Aside0.mk H
      clear H
      try go_wp2
      have n0_ : Aside0 (Kd.R k29 29 ((w16.setCell ⟨gb371, 0, none⟩ (.slice Ao17 t367.length co17)).setCell ⟨gb371, 1, none⟩ (.bool t370)) w.heap.size (fun _ => True) v360 t359) := ⟨by (with_reducible repeat (first | apply Kd.R_alloc | apply Kd.R_drewN | apply Kd.R_drew)); exact Kd.R_mono (Kd.R_far (p := ⟨gb371, 1, none⟩) (Kd.R_far (p := ⟨gb371, 0, none⟩) (Kd.R_types HO361.out BK371.out (by decide)) (fun _ hk => hk.2) (.slice Ao17 t367.length co17)) (fun _ hk => hk.2) (.bool t370)) (fun _ hk => trivial)⟩
      have n1_ : Aside0 (Kd.N k52 52 ((w16.setCell ⟨gb371, 0, none⟩ (.slice Ao17 t367.length co17)).setCell ⟨gb371, 1, none⟩ (.bool t370)) w.heap.size (fun k_ => some k_ ≠ (v360 : Value).ownBlock ∧ some k_ ≠ (.slice Ao17 t367.length co17 : Value).ownBlock ∧ k_ ≠ gb366 ∧ k_ ≠ gb371) (.slice Ao13 t362.length co13) t362) := ⟨by (with_reducible repeat (first | apply Kd.N_alloc | apply Kd.N_drewN | apply Kd.N_drew)); exact Kd.N_mono (Kd.N_far (p := ⟨gb371, 1, none⟩) (Kd.N_far (p := ⟨gb371, 0, none⟩) (Kd.N_mono HO364.out (fun k_ hk => (⟨hk, hk.2⟩ : _ ∧ k_ ≠ gb371))) (fun _ hk => hk.2) (.slice Ao17 t367.length co17)) (fun _ hk => hk.2) (.bool t370)) (fun _ hk => ⟨hk.1.1.1.1, ⟨hk.1.1.2, ⟨hk.1.1.1.2, hk.1.2⟩⟩⟩)⟩
      have n2_ : Aside0 (Kd.N k69 69 ((w16.setCell ⟨gb371, 0, none⟩ (.slice Ao17 t367.length co17)).setCell ⟨gb371, 1, none⟩ (.bool t370)) w.heap.size (fun k_ => some k_ ≠ (v360 : Value).ownBlock ∧ some k_ ≠ (.slice Ao13 t362.length co13 : Value).ownBlock ∧ k_ ≠ gb366 ∧ k_ ≠ gb371) (.slice Ao17 t367.length co17) t367) := ⟨by (with_reducible repeat (first | apply Kd.N_alloc | apply Kd.N_drewN | apply Kd.N_drew)); exact Kd.N_mono (Kd.N_far (p := ⟨gb371, 1, none⟩) (Kd.N_far (p := ⟨gb371, 0, none⟩) (Kd.N_mono HO369.out (fun k_ hk => (⟨hk, hk.2⟩ : _ ∧ k_ ≠ gb371))) (fun _ hk => hk.2) (.slice Ao17 t367.length co17)) (fun _ hk => hk.2) (.bool t370)) (fun _ hk => ⟨hk.1.1.1, ⟨hk.1.1.2.1, ⟨hk.1.1.2.2, hk.1.2⟩⟩⟩)⟩
      have n3_ : Aside0 (((w16.setCell ⟨gb371, 0, none⟩ (.slice Ao17 t367.length co17)).setCell ⟨gb371, 1, none⟩ (.bool t370)).heap[gb366]? = some (.cells #[.slice Ao13 t362.length co13, .bool t365] 33 (0, 0))) := ⟨by (with_reducible repeat (first | refine blk_drewN ?_ _ | refine blk_drew ?_ | refine blk_alloc ?_ _)); refine blk_far ?_ NB366_371.out _; (with_reducible repeat (first | refine blk_drewN ?_ _ | refine blk_drew ?_ | refine blk_alloc ?_ _)); refine blk_far ?_ NB366_371.out _; (with_reducible repeat (first | refine blk_drewN ?_ _ | refine blk_drew ?_ | refine blk_alloc ?_ _)); exact BK366.out⟩
      have n4_ : Aside0 (((w16.setCell ⟨gb371, 0, none⟩ (.slice Ao17 t367.length co17)).setCell ⟨gb371, 1, none⟩ (.bool t370)).heap[gb371]? = some (.cells #[.slice Ao17 t367.length co17, .bool t370] 41 (0, 0))) := ⟨by (with_reducible repeat (first | refine blk_drewN ?_ _ | refine blk_drew ?_ | refine blk_alloc ?_ _)); refine blk_put (cs := #[.slice Ao17 t367.length co17, .bool false]) ?_ 1 _ rfl; (with_reducible repeat (first | refine blk_drewN ?_ _ | refine blk_drew ?_ | refine blk_alloc ?_ _)); refine blk_put (cs := #[.slice none 0 0, .bool false]) ?_ 0 _ rfl; (with_reducible repeat (first | refine blk_drewN ?_ _ | refine blk_drew ?_ | refine blk_alloc ?_ _)); exact BK371.out⟩
      have n5_ : Aside0 (Below w.heap.size w ((w16.setCell ⟨gb371, 0, none⟩ (.slice Ao17 t367.length co17)).setCell ⟨gb371, 1, none⟩ (.bool t370))) := ⟨by (repeat (first | (with_reducible first | exact HB.out | apply below_alloc | apply pw_below_drewN | apply below_drew1 | refine below_set ?_ (Aside0.out GE366) | refine below_set ?_ (Aside0.out GE371)) | exact HB.out))⟩
      (try clear HO361)
      (try clear HO364)
      (try clear HO369)
      (try clear BK366)
      (try clear BK371)
      (try clear HB)
      generalize ((w16.setCell ⟨gb371, 0, none⟩ (.slice Ao17 t367.length co17)).setCell ⟨gb371, 1, none⟩ (.bool t370)) = w24 at n0_ n1_ n2_ n3_ n4_ n5_ ⊢
      have HO361 := n0_
      have HO364 := n1_
      have HO369 := n2_
      have BK366 := n3_
      have BK371 := n4_
      have HB := n5_
      clear n0_ n1_ n2_ n3_ n4_ n5_
      have n0_ := Am (Kd.R_drew HO361.out)
      have n1_ := Am (Kd.N_drew HO364.out)
      have n2_ := Am (Kd.N_drew HO369.out)
      have n3_ := Am (blk_drew BK366.out)
      have n4_ := Am (blk_drew BK371.out)
      have n5_ := Am (below_drew1 HB.out)
      clear HO361
      clear HO364
      clear HO369
      clear BK366
      clear BK371
      clear HB
      have HO361 := n0_
      have HO364 := n1_
      have HO369 := n2_
      have BK366 := n3_
      have BK371 := n4_
      have HB := n5_
      clear n0_ n1_ n2_ n3_ n4_ n5_
      refine start_ (n := 11) (S := fun w' => w'.cell? ⟨gb366, 0, none⟩ = some (.slice Ao13 t362.length co13) ∧ w'.cell? ⟨gb366, 1, none⟩ = some (.bool t365) ∧ w'.cell? ⟨gb371, 0, none⟩ = some (.slice Ao17 t367.length co17) ∧ w'.cell? ⟨gb371, 1, none⟩ = some (.bool t370)) (ds := []) #[false, false, false, false, false, false, false, false, false, false, false] (by kernel_rfl) rfl rfl ⟨(blk_cell BK366.out 0).trans rfl, (blk_cell BK366.out 1).trans rfl, (blk_cell BK371.out 0).trans rfl, (blk_cell BK371.out 1).trans rfl⟩ (fun hHeld => ?_); refine with_tabW ostiarylaw10_PolicyParses.tab5 ostiarylaw10_PolicyParses.bits5 (fun HT_ HW_ => ?_)
      generalize w24.drew = w25 at HO361 HO364 HO369 BK366 BK371 HB hHeld ⊢
      refine take_ (i := 0) (N := some 32) (v := ?_) (a' := ?_) #[true, false, false, false, false, false, false, false, false, false, false] rfl rfl (take_ofW HT_.out HW_.out (by kernel_rfl)) (fun _ _ _ h => h) (Or.inl ⟨by rfl, ?_⟩) hHeld ?_ ?_
      rotate_left
      · rintro w' ⟨s0, s1, s2, s3⟩
        go_simp
        with_reducible rfl
      rotate_left
      · simp only [Act.put, List.setIfInBounds_toArray, List.set_cons_zero, List.set_cons_succ, i64_w, i32_w]
        rfl
      refine take_ (i := 1) (N := some 33) (v := ?_) (a' := ?_) #[true, true, false, false, false, false, false, false, false, false, false] rfl rfl (take_ofW HT_.out HW_.out (by kernel_rfl)) (fun _ _ _ h => h) (Or.inl ⟨by rfl, ?_⟩) hHeld ?_ ?_
      rotate_left
      · rintro w' ⟨s0, s1, s2, s3⟩
        go_simp
        with_reducible rfl
      rotate_left
      · simp only [Act.put, List.setIfInBounds_toArray, List.set_cons_zero, List.set_cons_succ, i64_w, i32_w]
        rfl
      refine one_ (i := 2) (N := some 34) #[true, true, true, false, false, false, false, false, false, false, false] rfl rfl (one_of HT_.out (by kernel_rfl)) (by decide) (fun K hK => ?_)
      refine goes_ Tryd.func20 (by kernel_rfl) rfl #[.agg #[.slice Ao13 t362.length co13, .bool t365], .agg #[.slice Ao17 t367.length co17, .bool t370]] (by rfl) rfl rfl (by ((try simp only [List.map_toArray, List.map_cons, List.map_nil]); first | done | rfl | (simp only [List.length_drop, List.length_take]; rfl))) ?_
      with_reducible refine (ostiarylaw10_same.calls k _ _ t362 t365 _ _ t367 t370 true _ ?side1 ?side2 ?side3 ?side4 A20.out).mono ?_
      (case side1 => repeat (first | exact (Kd.N_reads' HO364.out).2.2 | (first | (with_reducible refine Kd.C_alloc ?_ _) | (with_reducible refine Kd.C_drewN ?_ _) | (with_reducible refine Kd.C_drew ?_))))
      (case side2 => exact (Kd.N_reads' HO364.out).2.1)
      (case side3 => repeat (first | exact (Kd.N_reads' HO369.out).2.2 | (first | (with_reducible refine Kd.C_alloc ?_ _) | (with_reducible refine Kd.C_drewN ?_ _) | (with_reducible refine Kd.C_drew ?_))))
      (case side4 => exact (Kd.N_reads' HO369.out).2.1)
      rintro e w26 ⟨rfl, hb⟩
      refine ⟨_, rfl, ?_⟩
      have n0_ := Am (Kd.R_below (by (with_reducible repeat (first | apply Kd.R_alloc | apply Kd.R_drewN | apply Kd.R_drew)); exact HO361.out) hb)
      have n1_ := Am (Kd.N_below (by (with_reducible repeat (first | apply Kd.N_alloc | apply Kd.N_drewN | apply Kd.N_drew)); exact HO364.out) hb)
      have n2_ := Am (Kd.N_below (by (with_reducible repeat (first | apply Kd.N_alloc | apply Kd.N_drewN | apply Kd.N_drew)); exact HO369.out) hb)
      have n3_ := Am (blk_below (g := gb366) (o := .cells #[.slice Ao13 t362.length co13, .bool t365] 33 (0, 0)) (by (with_reducible repeat (first | refine blk_drewN ?_ _ | refine blk_drew ?_ | refine blk_alloc ?_ _)); exact BK366.out) hb)
      have n4_ := Am (blk_below (g := gb371) (o := .cells #[.slice Ao17 t367.length co17, .bool t370] 41 (0, 0)) (by (with_reducible repeat (first | refine blk_drewN ?_ _ | refine blk_drew ?_ | refine blk_alloc ?_ _)); exact BK371.out) hb)
      have n5_ := Am (below_step (by (repeat (first | (with_reducible first | exact HB.out | apply below_alloc | apply pw_below_drewN | apply below_drew1 | refine below_set ?_ (Aside0.out GE366) | refine below_set ?_ (Aside0.out GE371)) | exact HB.out))) hb)
      clear HO361
      clear HO364
      clear HO369
      clear BK366
      clear BK371
      clear HB
      have HO361 := n0_
      have HO364 := n1_
      have HO369 := n2_
      have BK366 := n3_
      have BK371 := n4_
      have HB := n5_
      clear n0_ n1_ n2_ n3_ n4_ n5_
      (try clear hb)
      (try clear hb2)
      (try clear hk)
      (try clear hi)
      refine hK.out _ _ ⟨(blk_cell BK366.out 0).trans rfl, (blk_cell BK366.out 1).trans rfl, (blk_cell BK371.out 0).trans rfl, (blk_cell BK371.out 1).trans rfl⟩ (fun hHeld => ?_)
      clear hK K
      refine norm_ (a' := ?_) ?_ ?_
      rotate_left
      · show Act.put _ (some 34) _ = _
        simp only [Act.put, List.setIfInBounds_toArray, List.set_cons_zero, List.set_cons_succ, i64_w, i32_w]
        rfl
      refine pure_ (i := 3) (N := some 35) (v := ?_) (a' := ?_) #[true, true, true, true, false, false, false, false, false, false, false] rfl rfl (any_of HT_.out (by kernel_rfl)) (fun _ _ _ h => h) (Or.inl ⟨by rfl, ?_⟩) ?_ ?_
      rotate_left
      · intro w'
        go_simp
        with_reducible rfl
      rotate_left
      · simp only [Act.put, List.setIfInBounds_toArray, List.set_cons_zero, List.set_cons_succ, i64_w, i32_w]
        rfl
      refine pure_ (i := 4) (N := some 36) (v := ?_) (a' := ?_) #[true, true, true, true, true, false, false, false, false, false, false] rfl rfl (any_of HT_.out (by kernel_rfl)) (fun _ _ _ h => h) (Or.inl ⟨by rfl, ?_⟩) ?_ ?_
      rotate_left
      · intro w'
        go_simp
        with_reducible rfl
      rotate_left
      · simp only [Act.put, List.setIfInBounds_toArray, List.set_cons_zero, List.set_cons_succ, i64_w, i32_w]
        rfl
      refine take_ (i := 5) (N := some 37) (v := ?_) (a' := ?_) #[true, true, true, true, true, true, false, false, false, false, false] rfl rfl (take_ofW HT_.out HW_.out (by kernel_rfl)) (fun _ _ _ h => h) (Or.inl ⟨by rfl, ?_⟩) hHeld ?_ ?_
      rotate_left
      · rintro w' ⟨s0, s1, s2, s3⟩
        go_simp
        with_reducible rfl
      rotate_left
      · simp only [Act.put, List.setIfInBounds_toArray, List.set_cons_zero, List.set_cons_succ, i64_w, i32_w]
        rfl
      refine take_ (i := 7) (N := some 39) (v := ?_) (a' := ?_) #[true, true, true, true, true, true, false, true, false, false, false] rfl rfl (take_ofW HT_.out HW_.out (by kernel_rfl)) (fun _ _ _ h => h) (Or.inl ⟨by rfl, ?_⟩) hHeld ?_ ?_
      rotate_left
      · rintro w' ⟨s0, s1, s2, s3⟩
        go_simp
        with_reducible rfl
      rotate_left
      · simp only [Act.put, List.setIfInBounds_toArray, List.set_cons_zero, List.set_cons_succ, i64_w, i32_w]
        rfl
      refine one_ (i := 6) (N := some 38) #[true, true, true, true, true, true, true, true, false, false, false] rfl rfl (one_of HT_.out (by kernel_rfl)) (by decide) (fun K hK => ?_)
      refine goes_ Tryd.func15 (by kernel_rfl) rfl #[.agg #[.slice Ao13 t362.length co13, .bool t365]] (by rfl) rfl rfl (by ((try simp only [List.map_toArray, List.map_cons, List.map_nil]); first | done | rfl | (simp only [List.length_drop, List.length_take]; rfl))) ?_
      with_reducible refine (policy_Text.calls k _ _ t362 t365 t373 _ ?side1 ?side2 A22.out).mono ?_
      (case side1 => repeat (first | exact (Kd.N_reads' HO364.out).2.2 | (first | (with_reducible refine Kd.C_alloc ?_ _) | (with_reducible refine Kd.C_drewN ?_ _) | (with_reducible refine Kd.C_drew ?_))))
      (case side2 => exact (Kd.N_reads' HO364.out).2.1)
      rintro e w27 ⟨rfl, hb⟩
      refine ⟨_, rfl, ?_⟩
      have n0_ := Am (Kd.R_below (by (with_reducible repeat (first | apply Kd.R_alloc | apply Kd.R_drewN | apply Kd.R_drew)); exact HO361.out) hb)
      have n1_ := Am (Kd.N_below (by (with_reducible repeat (first | apply Kd.N_alloc | apply Kd.N_drewN | apply Kd.N_drew)); exact HO364.out) hb)
      have n2_ := Am (Kd.N_below (by (with_reducible repeat (first | apply Kd.N_alloc | apply Kd.N_drewN | apply Kd.N_drew)); exact HO369.out) hb)
      have n3_ := Am (blk_below (g := gb366) (o := .cells #[.slice Ao13 t362.length co13, .bool t365] 33 (0, 0)) (by (with_reducible repeat (first | refine blk_drewN ?_ _ | refine blk_drew ?_ | refine blk_alloc ?_ _)); exact BK366.out) hb)
      have n4_ := Am (blk_below (g := gb371) (o := .cells #[.slice Ao17 t367.length co17, .bool t370] 41 (0, 0)) (by (with_reducible repeat (first | refine blk_drewN ?_ _ | refine blk_drew ?_ | refine blk_alloc ?_ _)); exact BK371.out) hb)
      have n5_ := Am (below_step (by (repeat (first | (with_reducible first | exact HB.out | apply below_alloc | apply pw_below_drewN | apply below_drew1 | refine below_set ?_ (Aside0.out GE366) | refine below_set ?_ (Aside0.out GE371)) | exact HB.out))) hb)
      clear HO361
      clear HO364
      clear HO369
      clear BK366
      clear BK371
      clear HB
      have HO361 := n0_
      have HO364 := n1_
      have HO369 := n2_
      have BK366 := n3_
      have BK371 := n4_
      have HB := n5_
      clear n0_ n1_ n2_ n3_ n4_ n5_
      (try clear hb)
      (try clear hb2)
      (try clear hk)
      (try clear hi)
      refine hK.out _ _ ⟨(blk_cell BK366.out 0).trans rfl, (blk_cell BK366.out 1).trans rfl, (blk_cell BK371.out 0).trans rfl, (blk_cell BK371.out 1).trans rfl⟩ (fun hHeld => ?_)
      clear hK K
      refine norm_ (a' := ?_) ?_ ?_
      rotate_left
      · show Act.put _ (some 38) _ = _
        simp only [Act.put, List.setIfInBounds_toArray, List.set_cons_zero, List.set_cons_succ, i64_w, i32_w]
        rfl
      refine one_ (i := 8) (N := some 40) #[true, true, true, true, true, true, true, true, true, false, false] rfl rfl (one_of HT_.out (by kernel_rfl)) (by decide) (fun K hK => ?_)
      refine goes_ Tryd.func21 (by kernel_rfl) rfl #[.agg #[.slice Ao17 t367.length co17, .bool t370]] (by rfl) rfl rfl (by ((try simp only [List.map_toArray, List.map_cons, List.map_nil]); first | done | rfl | (simp only [List.length_drop, List.length_take]; rfl))) ?_
      with_reducible refine (ostiaryref10_Text.calls k _ _ t367 t370 t374 _ ?side1 ?side2 A23.out).mono ?_
      (case side1 => repeat (first | exact (Kd.N_reads' HO369.out).2.2 | (first | (with_reducible refine Kd.C_alloc ?_ _) | (with_reducible refine Kd.C_drewN ?_ _) | (with_reducible refine Kd.C_drew ?_))))
      (case side2 => exact (Kd.N_reads' HO369.out).2.1)
      rintro e w28 ⟨rfl, hb⟩
      refine ⟨_, rfl, ?_⟩
      have n0_ := Am (Kd.R_below (by (with_reducible repeat (first | apply Kd.R_alloc | apply Kd.R_drewN | apply Kd.R_drew)); exact HO361.out) hb)
      have n1_ := Am (Kd.N_below (by (with_reducible repeat (first | apply Kd.N_alloc | apply Kd.N_drewN | apply Kd.N_drew)); exact HO364.out) hb)
      have n2_ := Am (Kd.N_below (by (with_reducible repeat (first | apply Kd.N_alloc | apply Kd.N_drewN | apply Kd.N_drew)); exact HO369.out) hb)
      have n3_ := Am (blk_below (g := gb366) (o := .cells #[.slice Ao13 t362.length co13, .bool t365] 33 (0, 0)) (by (with_reducible repeat (first | refine blk_drewN ?_ _ | refine blk_drew ?_ | refine blk_alloc ?_ _)); exact BK366.out) hb)
      have n4_ := Am (blk_below (g := gb371) (o := .cells #[.slice Ao17 t367.length co17, .bool t370] 41 (0, 0)) (by (with_reducible repeat (first | refine blk_drewN ?_ _ | refine blk_drew ?_ | refine blk_alloc ?_ _)); exact BK371.out) hb)
      have n5_ := Am (below_step (by (repeat (first | (with_reducible first | exact HB.out | apply below_alloc | apply pw_below_drewN | apply below_drew1 | refine below_set ?_ (Aside0.out GE366) | refine below_set ?_ (Aside0.out GE371)) | exact HB.out))) hb)
      clear HO361
      clear HO364
      clear HO369
      clear BK366
      clear BK371
      clear HB
      have HO361 := n0_
      have HO364 := n1_
      have HO369 := n2_
      have BK366 := n3_
      have BK371 := n4_
      have HB := n5_
      clear n0_ n1_ n2_ n3_ n4_ n5_
      (try clear hb)
      (try clear hb2)
      (try clear hk)
      (try clear hi)
      refine hK.out _ _ ⟨(blk_cell BK366.out 0).trans rfl, (blk_cell BK366.out 1).trans rfl, (blk_cell BK371.out 0).trans rfl, (blk_cell BK371.out 1).trans rfl⟩ (fun hHeld => ?_)
      clear hK K
      refine norm_ (a' := ?_) ?_ ?_
      rotate_left
      · show Act.put _ (some 40) _ = _
        simp only [Act.put, List.setIfInBounds_toArray, List.set_cons_zero, List.set_cons_succ, i64_w, i32_w]
        rfl
      refine pure_ (i := 9) (N := some 41) (v := ?_) (a' := ?_) #[true, true, true, true, true, true, true, true, true, true, false] rfl rfl (any_of HT_.out (by kernel_rfl)) (fun _ _ _ h => h) (Or.inl ⟨by rfl, ?_⟩) ?_ ?_
      rotate_left
      · intro w'
        go_simp
        with_reducible rfl
      rotate_left
      · simp only [Act.put, List.setIfInBounds_toArray, List.set_cons_zero, List.set_cons_succ, i64_w, i32_w]
        rfl
      refine pure_ (i := 10) (N := some 42) (v := ?_) (a' := ?_) #[true, true, true, true, true, true, true, true, true, true, true] rfl rfl (any_of HT_.out (by kernel_rfl)) (fun _ _ _ h => h) (Or.inl ⟨by rfl, ?_⟩) ?_ ?_
      rotate_left
      · intro w'
        go_simp
        with_reducible rfl
      rotate_left
      · simp only [Act.put, List.setIfInBounds_toArray, List.set_cons_zero, List.set_cons_succ, i64_w, i32_w]
        rfl
      refine done_ (done_of HT_.out (by kernel_rfl)) ?_
      try go_wp2
      go_meet
      case rel => exact ⟨_, ((t373.toList != t374.toList)), (by first | rfl | (simp; done) | (simp [*]; done)), H', ⟨by first | omega | exact Nat.le_refl _⟩, ⟨by (with_reducible repeat (first | apply Kd.R_alloc | apply Kd.R_drewN | apply Kd.R_drew)); exact HO361.out⟩, ⟨by (with_reducible repeat (first | apply Kd.N_alloc | apply Kd.N_drewN | apply Kd.N_drew)); exact HO364.out⟩, ⟨by (with_reducible repeat (first | apply Kd.N_alloc | apply Kd.N_drewN | apply Kd.N_drew)); exact HO369.out⟩, ⟨by (with_reducible repeat (first | refine blk_drewN ?_ _ | refine blk_drew ?_ | refine blk_alloc ?_ _)); exact BK366.out⟩, ⟨by (with_reducible repeat (first | refine blk_drewN ?_ _ | refine blk_drew ?_ | refine blk_alloc ?_ _)); exact BK371.out⟩, ⟨by (repeat (first | (with_reducible first | exact HB.out | apply below_alloc | apply pw_below_drewN | apply below_drew1 | refine below_set ?_ (Aside0.out GE366) | refine below_set ?_ (Aside0.out GE371)) | exact HB.out))⟩⟩
    · replace c21 := Bool.eq_false_iff.mpr c21
      subst c21
      have H1 : (ostiarylaw10_PolicyParses.j0 k t359 a3 true t362 t365 t367 t370) = some r := by rw [if_neg (show ¬ (false = true) by decide)] at H; exact H
      clear H
      have H := H1
      clear H1
      have H' := Aside0.mk H
      clear H
      try go_wp2
      have n0_ : Aside0 (Kd.R k29 29 ((w16.setCell ⟨gb371, 0, none⟩ (.slice Ao17 t367.length co17)).setCell ⟨gb371, 1, none⟩ (.bool t370)) w.heap.size (fun _ => True) v360 t359) := ⟨by (with_reducible repeat (first | apply Kd.R_alloc | apply Kd.R_drewN | apply Kd.R_drew)); exact Kd.R_mono (Kd.R_far (p := ⟨gb371, 1, none⟩) (Kd.R_far (p := ⟨gb371, 0, none⟩) (Kd.R_types HO361.out BK371.out (by decide)) (fun _ hk => hk.2) (.slice Ao17 t367.length co17)) (fun _ hk => hk.2) (.bool t370)) (fun _ hk => trivial)⟩
      have n1_ : Aside0 (Kd.N k52 52 ((w16.setCell ⟨gb371, 0, none⟩ (.slice Ao17 t367.length co17)).setCell ⟨gb371, 1, none⟩ (.bool t370)) w.heap.size (fun k_ => some k_ ≠ (v360 : Value).ownBlock ∧ some k_ ≠ (.slice Ao17 t367.length co17 : Value).ownBlock ∧ k_ ≠ gb366 ∧ k_ ≠ gb371) (.slice Ao13 t362.length co13) t362) := ⟨by (with_reducible repeat (first | apply Kd.N_alloc | apply Kd.N_drewN | apply Kd.N_drew)); exact Kd.N_mono (Kd.N_far (p := ⟨gb371, 1, none⟩) (Kd.N_far (p := ⟨gb371, 0, none⟩) (Kd.N_mono HO364.out (fun k_ hk => (⟨hk, hk.2⟩ : _ ∧ k_ ≠ gb371))) (fun _ hk => hk.2) (.slice Ao17 t367.length co17)) (fun _ hk => hk.2) (.bool t370)) (fun _ hk => ⟨hk.1.1.1.1, ⟨hk.1.1.2, ⟨hk.1.1.1.2, hk.1.2⟩⟩⟩)⟩
      have n2_ : Aside0 (Kd.N k69 69 ((w16.setCell ⟨gb371, 0, none⟩ (.slice Ao17 t367.length co17)).setCell ⟨gb371, 1, none⟩ (.bool t370)) w.heap.size (fun k_ => some k_ ≠ (v360 : Value).ownBlock ∧ some k_ ≠ (.slice Ao13 t362.length co13 : Value).ownBlock ∧ k_ ≠ gb366 ∧ k_ ≠ gb371) (.slice Ao17 t367.length co17) t367) := ⟨by (with_reducible repeat (first | apply Kd.N_alloc | apply Kd.N_drewN | apply Kd.N_drew)); exact Kd.N_mono (Kd.N_far (p := ⟨gb371, 1, none⟩) (Kd.N_far (p := ⟨gb371, 0, none⟩) (Kd.N_mono HO369.out (fun k_ hk => (⟨hk, hk.2⟩ : _ ∧ k_ ≠ gb371))) (fun _ hk => hk.2) (.slice Ao17 t367.length co17)) (fun _ hk => hk.2) (.bool t370)) (fun _ hk => ⟨hk.1.1.1, ⟨hk.1.1.2.1, ⟨hk.1.1.2.2, hk.1.2⟩⟩⟩)⟩
      have n3_ : Aside0 (((w16.setCell ⟨gb371, 0, none⟩ (.slice Ao17 t367.length co17)).setCell ⟨gb371, 1, none⟩ (.bool t370)).heap[gb366]? = some (.cells #[.slice Ao13 t362.length co13, .bool t365] 33 (0, 0))) := ⟨by (with_reducible repeat (first | refine blk_drewN ?_ _ | refine blk_drew ?_ | refine blk_alloc ?_ _)); refine blk_far ?_ NB366_371.out _; (with_reducible repeat (first | refine blk_drewN ?_ _ | refine blk_drew ?_ | refine blk_alloc ?_ _)); refine blk_far ?_ NB366_371.out _; (with_reducible repeat (first | refine blk_drewN ?_ _ | refine blk_drew ?_ | refine blk_alloc ?_ _)); exact BK366.out⟩
      have n4_ : Aside0 (((w16.setCell ⟨gb371, 0, none⟩ (.slice Ao17 t367.length co17)).setCell ⟨gb371, 1, none⟩ (.bool t370)).heap[gb371]? = some (.cells #[.slice Ao17 t367.length co17, .bool t370] 41 (0, 0))) := ⟨by (with_reducible repeat (first | refine blk_drewN ?_ _ | refine blk_drew ?_ | refine blk_alloc ?_ _)); refine blk_put (cs := #[.slice Ao17 t367.length co17, .bool false]) ?_ 1 _ rfl; (with_reducible repeat (first | refine blk_drewN ?_ _ | refine blk_drew ?_ | refine blk_alloc ?_ _)); refine blk_put (cs := #[.slice none 0 0, .bool false]) ?_ 0 _ rfl; (with_reducible repeat (first | refine blk_drewN ?_ _ | refine blk_drew ?_ | refine blk_alloc ?_ _)); exact BK371.out⟩
      have n5_ : Aside0 (Below w.heap.size w ((w16.setCell ⟨gb371, 0, none⟩ (.slice Ao17 t367.length co17)).setCell ⟨gb371, 1, none⟩ (.bool t370))) := ⟨by (repeat (first | (with_reducible first | exact HB.out | apply below_alloc | apply pw_below_drewN | apply below_drew1 | refine below_set ?_ (Aside0.out GE366) | refine below_set ?_ (Aside0.out GE371)) | exact HB.out))⟩
      (try clear HO361)
      (try clear HO364)
      (try clear HO369)
      (try clear BK366)
      (try clear BK371)
      (try clear HB)
      generalize ((w16.setCell ⟨gb371, 0, none⟩ (.slice Ao17 t367.length co17)).setCell ⟨gb371, 1, none⟩ (.bool t370)) = w29 at n0_ n1_ n2_ n3_ n4_ n5_ ⊢
      have HO361 := n0_
      have HO364 := n1_
      have HO369 := n2_
      have BK366 := n3_
      have BK371 := n4_
      have HB := n5_
      clear n0_ n1_ n2_ n3_ n4_ n5_
      have n0_ := Am (Kd.R_drew HO361.out)
      have n1_ := Am (Kd.N_drew HO364.out)
      have n2_ := Am (Kd.N_drew HO369.out)
      have n3_ := Am (blk_drew BK366.out)
      have n4_ := Am (blk_drew BK371.out)
      have n5_ := Am (below_drew1 HB.out)
      clear HO361
      clear HO364
      clear HO369
      clear BK366
      clear BK371
      clear HB
      have HO361 := n0_
      have HO364 := n1_
      have HO369 := n2_
      have BK366 := n3_
      have BK371 := n4_
      have HB := n5_
      clear n0_ n1_ n2_ n3_ n4_ n5_
      refine start_ (n := 11) (S := fun w' => w'.cell? ⟨gb366, 0, none⟩ = some (.slice Ao13 t362.length co13) ∧ w'.cell? ⟨gb366, 1, none⟩ = some (.bool t365) ∧ w'.cell? ⟨gb371, 0, none⟩ = some (.slice Ao17 t367.length co17) ∧ w'.cell? ⟨gb371, 1, none⟩ = some (.bool t370)) (ds := []) #[false, false, false, false, false, false, false, false, false, false, false] (by kernel_rfl) rfl rfl ⟨(blk_cell BK366.out 0).trans rfl, (blk_cell BK366.out 1).trans rfl, (blk_cell BK371.out 0).trans rfl, (blk_cell BK371.out 1).trans rfl⟩ (fun hHeld => ?_); refine with_tabW ostiarylaw10_PolicyParses.tab5 ostiarylaw10_PolicyParses.bits5 (fun HT_ HW_ => ?_)
      generalize w29.drew = w30 at HO361 HO364 HO369 BK366 BK371 HB hHeld ⊢
      refine take_ (i := 0) (N := some 32) (v := ?_) (a' := ?_) #[true, false, false, false, false, false, false, false, false, false, false] rfl rfl (take_ofW HT_.out HW_.out (by kernel_rfl)) (fun _ _ _ h => h) (Or.inl ⟨by rfl, ?_⟩) hHeld ?_ ?_
      rotate_left
      · rintro w' ⟨s0, s1, s2, s3⟩
        go_simp
        with_reducible rfl
      rotate_left
      · simp only [Act.put, List.setIfInBounds_toArray, List.set_cons_zero, List.set_cons_succ, i64_w, i32_w]
        rfl
      refine take_ (i := 1) (N := some 33) (v := ?_) (a' := ?_) #[true, true, false, false, false, false, false, false, false, false, false] rfl rfl (take_ofW HT_.out HW_.out (by kernel_rfl)) (fun _ _ _ h => h) (Or.inl ⟨by rfl, ?_⟩) hHeld ?_ ?_
      rotate_left
      · rintro w' ⟨s0, s1, s2, s3⟩
        go_simp
        with_reducible rfl
      rotate_left
      · simp only [Act.put, List.setIfInBounds_toArray, List.set_cons_zero, List.set_cons_succ, i64_w, i32_w]
        rfl
      refine one_ (i := 2) (N := some 34) #[true, true, true, false, false, false, false, false, false, false, false] rfl rfl (one_of HT_.out (by kernel_rfl)) (by decide) (fun K hK => ?_)
      refine goes_ Tryd.func20 (by kernel_rfl) rfl #[.agg #[.slice Ao13 t362.length co13, .bool t365], .agg #[.slice Ao17 t367.length co17, .bool t370]] (by rfl) rfl rfl (by ((try simp only [List.map_toArray, List.map_cons, List.map_nil]); first | done | rfl | (simp only [List.length_drop, List.length_take]; rfl))) ?_
      with_reducible refine (ostiarylaw10_same.calls k _ _ t362 t365 _ _ t367 t370 false _ ?side1 ?side2 ?side3 ?side4 A20.out).mono ?_
      (case side1 => repeat (first | exact (Kd.N_reads' HO364.out).2.2 | (first | (with_reducible refine Kd.C_alloc ?_ _) | (with_reducible refine Kd.C_drewN ?_ _) | (with_reducible refine Kd.C_drew ?_))))
      (case side2 => exact (Kd.N_reads' HO364.out).2.1)
      (case side3 => repeat (first | exact (Kd.N_reads' HO369.out).2.2 | (first | (with_reducible refine Kd.C_alloc ?_ _) | (with_reducible refine Kd.C_drewN ?_ _) | (with_reducible refine Kd.C_drew ?_))))
      (case side4 => exact (Kd.N_reads' HO369.out).2.1)
      rintro e w31 ⟨rfl, hb⟩
      refine ⟨_, rfl, ?_⟩
      have n0_ := Am (Kd.R_below (by (with_reducible repeat (first | apply Kd.R_alloc | apply Kd.R_drewN | apply Kd.R_drew)); exact HO361.out) hb)
      have n1_ := Am (Kd.N_below (by (with_reducible repeat (first | apply Kd.N_alloc | apply Kd.N_drewN | apply Kd.N_drew)); exact HO364.out) hb)
      have n2_ := Am (Kd.N_below (by (with_reducible repeat (first | apply Kd.N_alloc | apply Kd.N_drewN | apply Kd.N_drew)); exact HO369.out) hb)
      have n3_ := Am (blk_below (g := gb366) (o := .cells #[.slice Ao13 t362.length co13, .bool t365] 33 (0, 0)) (by (with_reducible repeat (first | refine blk_drewN ?_ _ | refine blk_drew ?_ | refine blk_alloc ?_ _)); exact BK366.out) hb)
      have n4_ := Am (blk_below (g := gb371) (o := .cells #[.slice Ao17 t367.length co17, .bool t370] 41 (0, 0)) (by (with_reducible repeat (first | refine blk_drewN ?_ _ | refine blk_drew ?_ | refine blk_alloc ?_ _)); exact BK371.out) hb)
      have n5_ := Am (below_step (by (repeat (first | (with_reducible first | exact HB.out | apply below_alloc | apply pw_below_drewN | apply below_drew1 | refine below_set ?_ (Aside0.out GE366) | refine below_set ?_ (Aside0.out GE371)) | exact HB.out))) hb)
      clear HO361
      clear HO364
      clear HO369
      clear BK366
      clear BK371
      clear HB
      have HO361 := n0_
      have HO364 := n1_
      have HO369 := n2_
      have BK366 := n3_
      have BK371 := n4_
      have HB := n5_
      clear n0_ n1_ n2_ n3_ n4_ n5_
      (try clear hb)
      (try clear hb2)
      (try clear hk)
      (try clear hi)
      refine hK.out _ _ ⟨(blk_cell BK366.out 0).trans rfl, (blk_cell BK366.out 1).trans rfl, (blk_cell BK371.out 0).trans rfl, (blk_cell BK371.out 1).trans rfl⟩ (fun hHeld => ?_)
      clear hK K
      refine norm_ (a' := ?_) ?_ ?_
      rotate_left
      · show Act.put _ (some 34) _ = _
        simp only [Act.put, List.setIfInBounds_toArray, List.set_cons_zero, List.set_cons_succ, i64_w, i32_w]
        rfl
      refine pure_ (i := 3) (N := some 35) (v := ?_) (a' := ?_) #[true, true, true, true, false, false, false, false, false, false, false] rfl rfl (any_of HT_.out (by kernel_rfl)) (fun _ _ _ h => h) (Or.inl ⟨by rfl, ?_⟩) ?_ ?_
      rotate_left
      · intro w'
        go_simp
        with_reducible rfl
      rotate_left
      · simp only [Act.put, List.setIfInBounds_toArray, List.set_cons_zero, List.set_cons_succ, i64_w, i32_w]
        rfl
      refine pure_ (i := 4) (N := some 36) (v := ?_) (a' := ?_) #[true, true, true, true, true, false, false, false, false, false, false] rfl rfl (any_of HT_.out (by kernel_rfl)) (fun _ _ _ h => h) (Or.inl ⟨by rfl, ?_⟩) ?_ ?_
      rotate_left
      · intro w'
        go_simp
        with_reducible rfl
      rotate_left
      · simp only [Act.put, List.setIfInBounds_toArray, List.set_cons_zero, List.set_cons_succ, i64_w, i32_w]
        rfl
      refine pure_ (i := 5) (N := some 37) (v := undef) (a' := ?_) #[true, true, true, true, true, true, false, false, false, false, false] rfl rfl (any_of HT_.out (by kernel_rfl)) (fun _ _ _ h => h) (Or.inr ⟨by rfl, rfl⟩) ?_ ?_
      rotate_left
      · simp only [Act.put, List.setIfInBounds_toArray, List.set_cons_zero, List.set_cons_succ, i64_w, i32_w]
        rfl
      refine pure_ (i := 6) (N := some 38) (v := undef) (a' := ?_) #[true, true, true, true, true, true, true, false, false, false, false] rfl rfl (any_of HT_.out (by kernel_rfl)) (fun _ _ _ h => h) (Or.inr ⟨by rfl, rfl⟩) ?_ ?_
      rotate_left
      · simp only [Act.put, List.setIfInBounds_toArray, List.set_cons_zero, List.set_cons_succ, i64_w, i32_w]
        rfl
      refine pure_ (i := 7) (N := some 39) (v := undef) (a' := ?_) #[true, true, true, true, true, true, true, true, false, false, false] rfl rfl (any_of HT_.out (by kernel_rfl)) (fun _ _ _ h => h) (Or.inr ⟨by rfl, rfl⟩) ?_ ?_
      rotate_left
      · simp only [Act.put, List.setIfInBounds_toArray, List.set_cons_zero, List.set_cons_succ, i64_w, i32_w]
        rfl
      refine pure_ (i := 8) (N := some 40) (v := undef) (a' := ?_) #[true, true, true, true, true, true, true, true, true, false, false] rfl rfl (any_of HT_.out (by kernel_rfl)) (fun _ _ _ h => h) (Or.inr ⟨by rfl, rfl⟩) ?_ ?_
      rotate_left
      · simp only [Act.put, List.setIfInBounds_toArray, List.set_cons_zero, List.set_cons_succ, i64_w, i32_w]
        rfl
      refine pure_ (i := 9) (N := some 41) (v := undef) (a' := ?_) #[true, true, true, true, true, true, true, true, true, true, false] rfl rfl (any_of HT_.out (by kernel_rfl)) (fun _ _ _ h => h) (Or.inr ⟨by rfl, rfl⟩) ?_ ?_
      rotate_left
      · simp only [Act.put, List.setIfInBounds_toArray, List.set_cons_zero, List.set_cons_succ, i64_w, i32_w]
        rfl
      refine pure_ (i := 10) (N := some 42) (v := ?_) (a' := ?_) #[true, true, true, true, true, true, true, true, true, true, true] rfl rfl (any_of HT_.out (by kernel_rfl)) (fun _ _ _ h => h) (Or.inl ⟨by rfl, ?_⟩) ?_ ?_
      rotate_left
      · intro w'
        go_simp
        with_reducible rfl
      rotate_left
      · simp only [Act.put, List.setIfInBounds_toArray, List.set_cons_zero, List.set_cons_succ, i64_w, i32_w]
        rfl
      refine done_ (done_of HT_.out (by kernel_rfl)) ?_
      try go_wp2
      go_meet
      case rel => exact ⟨_, (true), (by first | rfl | (simp; done) | (simp [*]; done)), H', ⟨by first | omega | exact Nat.le_refl _⟩, ⟨by (with_reducible repeat (first | apply Kd.R_alloc | apply Kd.R_drewN | apply Kd.R_drew)); exact HO361.out⟩, ⟨by (with_reducible repeat (first | apply Kd.N_alloc | apply Kd.N_drewN | apply Kd.N_drew)); exact HO364.out⟩, ⟨by (with_reducible repeat (first | apply Kd.N_alloc | apply Kd.N_drewN | apply Kd.N_drew)); exact HO369.out⟩, ⟨by (with_reducible repeat (first | refine blk_drewN ?_ _ | refine blk_drew ?_ | refine blk_alloc ?_ _)); exact BK366.out⟩, ⟨by (with_reducible repeat (first | refine blk_drewN ?_ _ | refine blk_drew ?_ | refine blk_alloc ?_ _)); exact BK371.out⟩, ⟨by (repeat (first | (with_reducible first | exact HB.out | apply below_alloc | apply pw_below_drewN | apply below_drew1 | refine below_set ?_ (Aside0.out GE366) | refine below_set ?_ (Aside0.out GE371)) | exact HB.out))⟩⟩
  case rest =>
    clear HC9
    try clear c1
    try clear c2
    try clear p2
    try clear c4
    try clear c14
    try clear c15
    try clear c17
    try clear c18
    try clear c19
    try clear c20
    try clear c21
    try clear hcz14_0
    try clear hcz14_1
    try clear hcz19_0
    try clear hcz19_1
    try clear hfz14_0
    try clear hfz14_1
    try clear hfz19_0
    try clear hfz19_1
    obtain ⟨kq, x42_8, rfl, HA, HJ8, HO_2, HO_367000, HO_372000, BK366, BK371, HB⟩ := hcut
    cases kq with
    | zero => exact absurd HA.out (by simp [ostiarylaw10_PolicyParses.j0])
    | succ kj8 =>
      have H := HA.out
      clear HA
      simp only [ostiarylaw10_PolicyParses.j0] at H
      by_cases c32 : x42_8 = true
      · subst c32
        have H1 : (some false) = some r := by rw [if_pos rfl] at H; exact H
        clear H
        have H := H1
        clear H1
        obtain rfl := Option.some.inj H
        go_wp2
        go_ret
        exact ⟨by (first | rfl | (simp [errW_none, errW_some] <;> rfl) | (simp [*, errW_none, errW_some] <;> rfl)), by (repeat (first | (with_reducible first | exact HB.out | apply below_alloc | apply pw_below_drewN | apply below_drew1 | refine below_set ?_ (Aside0.out GE366) | refine below_set ?_ (Aside0.out GE371)) | exact HB.out))⟩
      · replace c32 := Bool.eq_false_iff.mpr c32
        subst c32
        have H1 : ((policy_For.f 2).bind fun t375 => ((policy_For.f 6).bind fun t376 => ((policy_For.f 4).bind fun t377 => (ostiarylaw10_PolicyParses.l0 kj8 t359 (([a3, t375, t376, t377] : List ByteArray)) 0 t362 t365 t367 t370)))) = some r := by rw [if_neg (show ¬ (false = true) by decide)] at H; exact H
        clear H
        have H := H1
        clear H1
        replace H := Option.bind_eq_some_iff.mp H
        obtain ⟨t375, A330, H⟩ := H
        replace H : ((policy_For.f 6).bind fun t376 => ((policy_For.f 4).bind fun t377 => (ostiarylaw10_PolicyParses.l0 kj8 t359 (([a3, t375, t376, t377] : List ByteArray)) 0 t362 t365 t367 t370))) = some r := H
        have A33 := Aside0.mk A330
        clear A330
        replace H := Option.bind_eq_some_iff.mp H
        obtain ⟨t376, A340, H⟩ := H
        replace H : ((policy_For.f 4).bind fun t377 => (ostiarylaw10_PolicyParses.l0 kj8 t359 (([a3, t375, t376, t377] : List ByteArray)) 0 t362 t365 t367 t370)) = some r := H
        have A34 := Aside0.mk A340
        clear A340
        replace H := Option.bind_eq_some_iff.mp H
        obtain ⟨t377, A350, H⟩ := H
        replace H : (ostiarylaw10_PolicyParses.l0 kj8 t359 (([a3, t375, t376, t377] : List ByteArray)) 0 t362 t365 t367 t370) = some r := H
        have A35 := Aside0.mk A350
        clear A350
        obtain ⟨y378, hy378⟩ : ∃ y_ : List ByteArray, y_ = (([a3, t375, t376, t377] : List ByteArray)) := ⟨_, rfl⟩
        replace H : (ostiarylaw10_PolicyParses.l0 kj8 t359 y378 0 t362 t365 t367 t370) = some r := by first | (rw [hy378]; with_reducible exact H) | (have H2_ := (Option.bind_some _ _).symm.trans H; rw [hy378]; with_reducible exact H2_) | (have H2_ := (Option.bind_some _ _).symm.trans H; with_reducible exact H2_) | with_reducible exact H | (rw [hy378]; exact H) | exact H
        have Ny378 := Aside0.mk hy378
        clear hy378
        have H' := Aside0.mk H
        clear H
        go_wp2_with (first | ((with_reducible refine gate_callee (f := 11) rfl ?_); refine goesL_ (some 44) rfl rfl Tryd.func11 (by kernel_rfl) rfl #[.int .i64 2] rfl (by ((try simp only [List.map_toArray, List.map_cons, List.map_nil]); first | done | rfl | (simp only [List.length_drop, List.length_take]; rfl))) ?_; (with_reducible refine (policy_For.calls 2 t375 _ A33.out).mono ?_); rintro e w' ⟨rfl, ⟨nd, rfl⟩⟩; refine ⟨_, rfl, ?_⟩) | ((with_reducible refine gate_callee (f := 11) rfl ?_); refine goesL_ (some 45) rfl rfl Tryd.func11 (by kernel_rfl) rfl #[.int .i64 6] rfl (by ((try simp only [List.map_toArray, List.map_cons, List.map_nil]); first | done | rfl | (simp only [List.length_drop, List.length_take]; rfl))) ?_; (with_reducible refine (policy_For.calls 6 t376 _ A34.out).mono ?_); rintro e w' ⟨rfl, ⟨nd, rfl⟩⟩; refine ⟨_, rfl, ?_⟩) | ((with_reducible refine gate_callee (f := 11) rfl ?_); refine goesL_ (some 46) rfl rfl Tryd.func11 (by kernel_rfl) rfl #[.int .i64 4] rfl (by ((try simp only [List.map_toArray, List.map_cons, List.map_nil]); first | done | rfl | (simp only [List.length_drop, List.length_take]; rfl))) ?_; (with_reducible refine (policy_For.calls 4 t377 _ A35.out).mono ?_); rintro e w' ⟨rfl, ⟨nd, rfl⟩⟩; refine ⟨_, rfl, ?_⟩) | ((with_reducible refine gate_dst (N := 47) rfl ?_); refine Kd.R_lit Kd.string _ 9 ?hg (N := 47) ?hd (xs := ([a3, t375, t376, t377] : List ByteArray)) (inner := [.string a3, .string t375, .string t376, .string t377]) (ok := fun _ => True) (okp := fun _ => True) ?hr ?hp (fun _ hk => hk) trivial (Below.refl _ _) (Nat.le_refl _) (by simp) ?_; ((case hd => rfl); (case hg => rfl); (case hr => first | (go_simp; done) | (go_simp; rfl))); (case hp => exact (Reps.one (show Kd.M Kd.string _ _ _ a3 [.string a3] from rfl) (Reps.one (show Kd.M Kd.string _ _ _ t375 [.string t375] from rfl) (Reps.one (show Kd.M Kd.string _ _ _ t376 [.string t376] from rfl) (Reps.one (show Kd.M Kd.string _ _ _ t377 [.string t377] from rfl) (Reps.none _ _)))))); intro v379 w36 ho37 hb hg_ hnew_; clear hg_ hnew_; (first | rw [← Ny378.out] at ho37 | (simp only [Int.reduceToNat] at ho37; rw [← Ny378.out] at ho37)); have n0_ := Am (Kd.R_below (by (with_reducible repeat (first | apply Kd.R_alloc | apply Kd.R_drewN | apply Kd.R_drew)); exact HO_2.out) hb); have n1_ := Am (Kd.N_elder' (by (with_reducible repeat (first | apply Kd.N_alloc | apply Kd.N_drewN | apply Kd.N_drew)); exact HO_367000.out) (Kd.R_base ho37) hb); have n2_ := Am (Kd.N_elder' (by (with_reducible repeat (first | apply Kd.N_alloc | apply Kd.N_drewN | apply Kd.N_drew)); exact HO_372000.out) (Kd.R_base ho37) hb); have n3_ := Am (Kd.R_lower ho37 (below_size (by (repeat (first | (with_reducible first | exact HB.out | apply below_alloc | apply pw_below_drewN | apply below_drew1 | refine below_set ?_ (Aside0.out GE366) | refine below_set ?_ (Aside0.out GE371)) | exact HB.out))))); have n4_ := Am (blk_below (g := gb366) (o := .cells #[.slice Ao13 t362.length co13, .bool t365] 33 (0, 0)) (by (with_reducible repeat (first | refine blk_drewN ?_ _ | refine blk_drew ?_ | refine blk_alloc ?_ _)); exact BK366.out) hb); have n5_ := Am (blk_below (g := gb371) (o := .cells #[.slice Ao17 t367.length co17, .bool t370] 41 (0, 0)) (by (with_reducible repeat (first | refine blk_drewN ?_ _ | refine blk_drew ?_ | refine blk_alloc ?_ _)); exact BK371.out) hb); have n6_ := Am (below_step (by (repeat (first | (with_reducible first | exact HB.out | apply below_alloc | apply pw_below_drewN | apply below_drew1 | refine below_set ?_ (Aside0.out GE366) | refine below_set ?_ (Aside0.out GE371)) | exact HB.out))) hb); clear HO_2; clear HO_367000; clear HO_372000; clear BK366; clear BK371; clear HB; have HO_2 := n0_; have HO_367000 := n1_; have HO_372000 := n2_; have HO380 := n3_; have BK366 := n4_; have BK371 := n5_; have HB := n6_; clear n0_ n1_ n2_ n3_ n4_ n5_ n6_; clear hb ho37))
        go_loopg [12] kj8 (fun kq v12 w' => ∃ (x12_2 : Int), v12 = .int .i64 x12_2 ∧ Aside0 (ostiarylaw10_PolicyParses.l0 kq t359 y378 x12_2 t362 t365 t367 t370 = some r) ∧ Aside0 (kq ≤ kj8) ∧ Aside0 (Kd.R k29 29 w' w.heap.size (fun _ => True) v360 t359) ∧ Aside0 (Kd.R Kd.string 9 w' w.heap.size (fun _ => True) v379 y378) ∧ Aside0 (Kd.N k52 52 w' w.heap.size (fun k_ => some k_ ≠ (v360 : Value).ownBlock ∧ some k_ ≠ (v379 : Value).ownBlock ∧ some k_ ≠ ((.slice Ao17 t367.length co17) : Value).ownBlock ∧ k_ ≠ gb366 ∧ k_ ≠ gb371) (.slice Ao13 t362.length co13) t362) ∧ Aside0 (Kd.N k69 69 w' w.heap.size (fun k_ => some k_ ≠ (v360 : Value).ownBlock ∧ some k_ ≠ (v379 : Value).ownBlock ∧ some k_ ≠ ((.slice Ao13 t362.length co13) : Value).ownBlock ∧ k_ ≠ gb366 ∧ k_ ≠ gb371) (.slice Ao17 t367.length co17) t367) ∧ Aside0 (w'.heap[gb366]? = some (.cells #[(.slice Ao13 t362.length co13), .bool t365] 33 (0, 0))) ∧ Aside0 (w'.heap[gb371]? = some (.cells #[(.slice Ao17 t367.length co17), .bool t370] 41 (0, 0))) ∧ Aside0 (Below w.heap.size w w'))
        case atStart => exact ⟨(0), (by first | rfl | (simp; done) | (simp [*]; done)), H', ⟨Nat.le_refl _⟩, ⟨by (with_reducible repeat (first | apply Kd.R_alloc | apply Kd.R_drewN | apply Kd.R_drew)); exact HO_2.out⟩, ⟨by (with_reducible repeat (first | apply Kd.R_alloc | apply Kd.R_drewN | apply Kd.R_drew)); exact HO380.out⟩, ⟨by (with_reducible repeat (first | apply Kd.N_alloc | apply Kd.N_drewN | apply Kd.N_drew)); exact Kd.N_mono HO_367000.out (fun _ hk => ⟨hk.1.1, ⟨hk.2, ⟨hk.1.2.1, ⟨hk.1.2.2.1, hk.1.2.2.2⟩⟩⟩⟩)⟩, ⟨by (with_reducible repeat (first | apply Kd.N_alloc | apply Kd.N_drewN | apply Kd.N_drew)); exact Kd.N_mono HO_372000.out (fun _ hk => ⟨hk.1.1, ⟨hk.2, ⟨hk.1.2.1, ⟨hk.1.2.2.1, hk.1.2.2.2⟩⟩⟩⟩)⟩, ⟨by (with_reducible repeat (first | refine blk_drewN ?_ _ | refine blk_drew ?_ | refine blk_alloc ?_ _)); exact BK366.out⟩, ⟨by (with_reducible repeat (first | refine blk_drewN ?_ _ | refine blk_drew ?_ | refine blk_alloc ?_ _)); exact BK371.out⟩, ⟨by (repeat (first | (with_reducible first | exact HB.out | apply below_alloc | apply pw_below_drewN | apply below_drew1 | refine below_set ?_ (Aside0.out GE366) | refine below_set ?_ (Aside0.out GE371)) | exact HB.out))⟩⟩
        case round =>
          clear H'
          try clear c1
          try clear c2
          try clear p2
          try clear c3
          try clear c4
          try clear c11
          try clear c14
          try clear c15
          try clear c17
          try clear c18
          try clear c19
          try clear c20
          try clear c21
          try clear c32
          try clear hcz14_0
          try clear hcz14_1
          try clear hcz19_0
          try clear hcz19_1
          try clear hfz14_0
          try clear hfz14_1
          try clear hfz19_0
          try clear hfz19_1
          try clear p2
          obtain ⟨x12_2, rfl, HA, HK2, HO_2, HO_11, HO_367000, HO_372000, BK366, BK371, HB⟩ := hrel
          cases gk with
          | zero => exact absurd HA.out (by simp [ostiarylaw10_PolicyParses.l0])
          | succ k2 =>
            have H := HA.out
            clear HA
            simp only [ostiarylaw10_PolicyParses.l0] at H
            by_cases c38 : x12_2 < (y378.length : Int)
            · rw [if_pos c38] at H
              have c38b0 : decide (x12_2 < (y378.length : Int)) = true := decide_eq_true c38
              clear c38
              by_cases c39 : 0 ≤ x12_2
              · rw [if_pos c39] at H
                have c39b0 : decide (0 ≤ x12_2) = true := decide_eq_true c39
                clear c39
                replace H := Option.bind_eq_some_iff.mp H
                obtain ⟨⟨t382, t385, t386⟩, A400, H⟩ := H
                replace H : ((ostiaryref10_Values.f k2 t367 t370 (rdOf ByteArray.empty y378 x12_2)).bind fun bt388 => ((ostiarybook_Same_string.f k2 t382 bt388.1).bind fun t393 => (if t393 = true then (if t385.toList = bt388.2.1.toList then (if (t386 != bt388.2.2) = true then (some false) else (ostiarylaw10_PolicyParses.l0 k2 t359 y378 (wrap64 (x12_2 + 1)) t362 t365 t367 t370)) else (some false)) else (some false)))) = some r := H
                have A40 := Aside0.mk A400
                clear A400
                replace H := Option.bind_eq_some_iff.mp H
                obtain ⟨⟨t388, t391, t392⟩, A410, H⟩ := H
                replace H : ((ostiarybook_Same_string.f k2 t382 t388).bind fun t393 => (if t393 = true then (if t385.toList = t391.toList then (if (t386 != t392) = true then (some false) else (ostiarylaw10_PolicyParses.l0 k2 t359 y378 (wrap64 (x12_2 + 1)) t362 t365 t367 t370)) else (some false)) else (some false))) = some r := H
                have A41 := Aside0.mk A410
                clear A410
                replace H := Option.bind_eq_some_iff.mp H
                obtain ⟨t393, A420, H⟩ := H
                replace H : (if t393 = true then (if t385.toList = t391.toList then (if (t386 != t392) = true then (some false) else (ostiarylaw10_PolicyParses.l0 k2 t359 y378 (wrap64 (x12_2 + 1)) t362 t365 t367 t370)) else (some false)) else (some false)) = some r := H
                have A42 := Aside0.mk A420
                clear A420
                by_cases c43 : t393 = true
                · subst c43
                  have H1 : (if t385.toList = t391.toList then (if (t386 != t392) = true then (some false) else (ostiarylaw10_PolicyParses.l0 k2 t359 y378 (wrap64 (x12_2 + 1)) t362 t365 t367 t370)) else (some false)) = some r := by rw [if_pos rfl] at H; exact H
                  clear H
                  have H := H1
                  clear H1
                  by_cases c44 : t385.toList = t391.toList
                  · rw [if_pos c44] at H
                    have c44b0 : (t385.toList == t391.toList) = true := beq_iff_eq.mpr c44
                    have c44b1 : (t385.toList != t391.toList) = false := bne_eq_false_iff_eq.mpr c44
                    clear c44
                    by_cases c45 : (t386 != t392) = true
                    · rw [if_pos c45] at H
                      have c45b0 : (t386 != t392) = true := c45
                      (try (have c45b1 : decide (t386 = t392) = false := by simpa using c45))
                      (try (have c45b2 : (t386 == t392) = false := by simpa using c45))
                      (try (have c45b3 : ¬ (t386 = t392) := by simpa using c45))
                      clear c45
                      obtain rfl := Option.some.inj H
                      obtain ⟨Ao46, co46, eo46⟩ := Kd.R_slice HO_11.out
                      subst eo46
                      try go_wp2
                      have n0_ := Am (Kd.R_drew HO_2.out)
                      have n1_ := Am (Kd.R_drew HO_11.out)
                      have n2_ := Am (Kd.N_drew HO_367000.out)
                      have n3_ := Am (Kd.N_drew HO_372000.out)
                      have n4_ := Am (blk_drew BK366.out)
                      have n5_ := Am (blk_drew BK371.out)
                      have n6_ := Am (below_drew1 HB.out)
                      clear HO_2
                      clear HO_11
                      clear HO_367000
                      clear HO_372000
                      clear BK366
                      clear BK371
                      clear HB
                      have HO_2 := n0_
                      have HO_11 := n1_
                      have HO_367000 := n2_
                      have HO_372000 := n3_
                      have BK366 := n4_
                      have BK371 := n5_
                      have HB := n6_
                      clear n0_ n1_ n2_ n3_ n4_ n5_ n6_
                      have p381 : 0 ≤ (x12_2 : Int) := of_decide_eq_true (by first | (with_reducible assumption) | assumption)
                      have q381 : x12_2 < (y378.length : Int) := of_decide_eq_true (by first | (with_reducible assumption) | assumption)
                      obtain ⟨ad381, e381, hx381_0⟩ := Kd.at_string (Kd.R_reads' HO_11.out).2.2 x12_2 p381 q381
                      cases e381
                      replace p381 := eq_true p381
                      replace q381 := eq_true q381
                      refine start_ (n := 13) (S := fun w' => w'.cell? ⟨gb366, 0, none⟩ = some (.slice Ao13 t362.length co13) ∧ w'.cell? ⟨gb366, 1, none⟩ = some (.bool t365) ∧ w'.cell? (ad381.add (x12_2).toNat) = some (.string (rdOf ByteArray.empty y378 x12_2))) (ds := []) #[false, false, false, false, false, false, false, false, false, false, false, false, false] (by kernel_rfl) rfl rfl ⟨(blk_cell BK366.out 0).trans rfl, (blk_cell BK366.out 1).trans rfl, hx381_0⟩ (fun hHeld => ?_); refine with_tabW ostiarylaw10_PolicyParses.tab11 ostiarylaw10_PolicyParses.bits11 (fun HT_ HW_ => ?_)
                      generalize wr.drew = w47 at HO_2 HO_11 HO_367000 HO_372000 BK366 BK371 HB hx381_0 hHeld ⊢
                      refine pure_ (i := 1) (N := some 56) (v := ?_) (a' := ?_) #[false, true, false, false, false, false, false, false, false, false, false, false, false] rfl rfl (any_of HT_.out (by kernel_rfl)) (fun _ _ _ h => h) (Or.inl ⟨by rfl, ?_⟩) ?_ ?_
                      rotate_left
                      · intro w'
                        go_simp
                        with_reducible rfl
                      rotate_left
                      · simp only [Act.put, List.setIfInBounds_toArray, List.set_cons_zero, List.set_cons_succ, i64_w, i32_w]
                        rfl
                      refine pure_ (i := 2) (N := some 57) (v := ?_) (a' := ?_) #[false, true, true, false, false, false, false, false, false, false, false, false, false] rfl rfl (any_of HT_.out (by kernel_rfl)) (fun _ _ _ h => h) (Or.inl ⟨by rfl, ?_⟩) ?_ ?_
                      rotate_left
                      · intro w'
                        go_simp
                        with_reducible rfl
                      rotate_left
                      · simp only [Act.put, List.setIfInBounds_toArray, List.set_cons_zero, List.set_cons_succ, i64_w, i32_w]
                        rfl
                      refine pure_ (i := 3) (N := some 58) (v := ?_) (a' := ?_) #[false, true, true, true, false, false, false, false, false, false, false, false, false] rfl rfl (any_of HT_.out (by kernel_rfl)) (fun _ _ _ h => h) (Or.inl ⟨by rfl, ?_⟩) ?_ ?_
                      rotate_left
                      · intro w'
                        go_simp
                        with_reducible rfl
                      rotate_left
                      · simp only [Act.put, List.setIfInBounds_toArray, List.set_cons_zero, List.set_cons_succ, i64_w, i32_w]
                        rfl
                      refine take_ (i := 0) (N := some 55) (v := ?_) (a' := ?_) #[true, true, true, true, false, false, false, false, false, false, false, false, false] rfl rfl (take_ofW HT_.out HW_.out (by kernel_rfl)) (fun _ _ _ h => h) (Or.inl ⟨by rfl, ?_⟩) hHeld ?_ ?_
                      rotate_left
                      · rintro w' ⟨s0, s1, s2⟩
                        go_simp
                        with_reducible rfl
                      rotate_left
                      · simp only [Act.put, List.setIfInBounds_toArray, List.set_cons_zero, List.set_cons_succ, i64_w, i32_w]
                        rfl
                      refine take_ (i := 4) (N := some 59) (v := ?_) (a' := ?_) #[true, true, true, true, true, false, false, false, false, false, false, false, false] rfl rfl (take_ofW HT_.out HW_.out (by kernel_rfl)) (fun _ _ _ h => h) (Or.inl ⟨by rfl, ?_⟩) hHeld ?_ ?_
                      rotate_left
                      · rintro w' ⟨s0, s1, s2⟩
                        go_simp
                        with_reducible rfl
                      rotate_left
                      · simp only [Act.put, List.setIfInBounds_toArray, List.set_cons_zero, List.set_cons_succ, i64_w, i32_w]
                        rfl
                      refine one_ (i := 5) (N := some 60) #[true, true, true, true, true, true, false, false, false, false, false, false, false] rfl rfl (one_of HT_.out (by kernel_rfl)) (by decide) (fun K hK => ?_)
                      refine goes_ Tryd.func22 (by kernel_rfl) rfl #[.agg #[.slice Ao13 t362.length co13, .bool t365], .string (rdOf ByteArray.empty y378 x12_2)] (by rfl) rfl rfl (by ((try simp only [List.map_toArray, List.map_cons, List.map_nil]); first | done | rfl | (simp only [List.length_drop, List.length_take]; rfl))) ?_
                      with_reducible refine (policy_Values.calls k2 _ _ t362 t365 (rdOf ByteArray.empty y378 x12_2) t382 t385 t386 _ ?side1 ?side2 A40.out).mono ?_
                      (case side1 => repeat (first | exact (Kd.N_reads' HO_367000.out).2.2 | (first | (with_reducible refine Kd.C_alloc ?_ _) | (with_reducible refine Kd.C_drewN ?_ _) | (with_reducible refine Kd.C_drew ?_))))
                      (case side2 => exact (Kd.N_reads' HO_367000.out).2.1)
                      rintro e w48 ⟨v383, rfl, ho0, hb⟩
                      have HS2_ := (hb.cell (World.block_lt_of_cell? _ _ (hHeld.2.2))).trans (hHeld.2.2)
                      refine ⟨_, rfl, ?_⟩
                      have n0_ := Am (Kd.R_below (by (with_reducible repeat (first | apply Kd.R_alloc | apply Kd.R_drewN | apply Kd.R_drew)); exact HO_2.out) hb)
                      have n1_ := Am (Kd.R_elder' (by (with_reducible repeat (first | apply Kd.R_alloc | apply Kd.R_drewN | apply Kd.R_drew)); exact HO_11.out) (Kd.R_base ho0) hb)
                      have n2_ := Am (Kd.N_elder' (by (with_reducible repeat (first | apply Kd.N_alloc | apply Kd.N_drewN | apply Kd.N_drew)); exact HO_367000.out) (Kd.R_base ho0) hb)
                      have n3_ := Am (Kd.N_elder' (by (with_reducible repeat (first | apply Kd.N_alloc | apply Kd.N_drewN | apply Kd.N_drew)); exact HO_372000.out) (Kd.R_base ho0) hb)
                      have n4_ := Am (Kd.R_lower (Kd.R_new' ho0 (Kd.R_lt (by (with_reducible repeat (first | apply Kd.R_alloc | apply Kd.R_drewN | apply Kd.R_drew)); exact HO_11.out))) (below_size (by (repeat (first | (with_reducible first | exact HB.out | apply below_alloc | apply pw_below_drewN | apply below_drew1 | refine below_set ?_ (Aside0.out GE366) | refine below_set ?_ (Aside0.out GE371)) | exact HB.out)))))
                      have n5_ := Am (blk_below (g := gb366) (o := .cells #[.slice Ao13 t362.length co13, .bool t365] 33 (0, 0)) (by (with_reducible repeat (first | refine blk_drewN ?_ _ | refine blk_drew ?_ | refine blk_alloc ?_ _)); exact BK366.out) hb)
                      have n6_ := Am (blk_below (g := gb371) (o := .cells #[.slice Ao17 t367.length co17, .bool t370] 41 (0, 0)) (by (with_reducible repeat (first | refine blk_drewN ?_ _ | refine blk_drew ?_ | refine blk_alloc ?_ _)); exact BK371.out) hb)
                      have n7_ := Am (below_step (by (repeat (first | (with_reducible first | exact HB.out | apply below_alloc | apply pw_below_drewN | apply below_drew1 | refine below_set ?_ (Aside0.out GE366) | refine below_set ?_ (Aside0.out GE371)) | exact HB.out))) hb)
                      clear HO_2
                      clear HO_11
                      clear HO_367000
                      clear HO_372000
                      clear BK366
                      clear BK371
                      clear HB
                      have HO_2 := n0_
                      have HO_11 := n1_
                      have HO_367000 := n2_
                      have HO_372000 := n3_
                      have HO384 := n4_
                      have BK366 := n5_
                      have BK371 := n6_
                      have HB := n7_
                      clear n0_ n1_ n2_ n3_ n4_ n5_ n6_ n7_
                      (try clear hb)
                      (try clear hb2)
                      (try clear hk)
                      (try clear hi)
                      (try clear ho0)
                      refine hK.out _ _ ⟨(blk_cell BK366.out 0).trans rfl, (blk_cell BK366.out 1).trans rfl, HS2_⟩ (fun hHeld => ?_)
                      clear hK K
                      refine norm_ (a' := ?_) ?_ ?_
                      rotate_left
                      · show Act.put _ (some 60) _ = _
                        simp only [Act.put, List.setIfInBounds_toArray, List.set_cons_zero, List.set_cons_succ, i64_w, i32_w]
                        rfl
                      refine pure_ (i := 6) (N := some 54) (v := ?_) (a' := ?_) #[true, true, true, true, true, true, true, false, false, false, false, false, false] rfl rfl (any_of HT_.out (by kernel_rfl)) (fun _ _ _ h => h) (Or.inl ⟨by rfl, ?_⟩) ?_ ?_
                      rotate_left
                      · intro w'
                        go_simp
                        with_reducible rfl
                      rotate_left
                      · simp only [Act.put, List.setIfInBounds_toArray, List.set_cons_zero, List.set_cons_succ, i64_w, i32_w]
                        rfl
                      refine pure_ (i := 7) (N := some 61) (v := ?_) (a' := ?_) #[true, true, true, true, true, true, true, true, false, false, false, false, false] rfl rfl (any_of HT_.out (by kernel_rfl)) (fun _ _ _ h => h) (Or.inl ⟨by rfl, ?_⟩) ?_ ?_
                      rotate_left
                      · intro w'
                        go_simp
                        with_reducible rfl
                      rotate_left
                      · simp only [Act.put, List.setIfInBounds_toArray, List.set_cons_zero, List.set_cons_succ, i64_w, i32_w]
                        rfl
                      refine pure_ (i := 8) (N := some 62) (v := ?_) (a' := ?_) #[true, true, true, true, true, true, true, true, true, false, false, false, false] rfl rfl (any_of HT_.out (by kernel_rfl)) (fun _ _ _ h => h) (Or.inl ⟨by rfl, ?_⟩) ?_ ?_
                      rotate_left
                      · intro w'
                        go_simp
                        with_reducible rfl
                      rotate_left
                      · simp only [Act.put, List.setIfInBounds_toArray, List.set_cons_zero, List.set_cons_succ, i64_w, i32_w]
                        rfl
                      refine pure_ (i := 9) (N := some 63) (v := ?_) (a' := ?_) #[true, true, true, true, true, true, true, true, true, true, false, false, false] rfl rfl (any_of HT_.out (by kernel_rfl)) (fun _ _ _ h => h) (Or.inl ⟨by rfl, ?_⟩) ?_ ?_
                      rotate_left
                      · intro w'
                        go_simp
                        with_reducible rfl
                      rotate_left
                      · simp only [Act.put, List.setIfInBounds_toArray, List.set_cons_zero, List.set_cons_succ, i64_w, i32_w]
                        rfl
                      refine pure_ (i := 10) (N := some 13) (v := ?_) (a' := ?_) #[true, true, true, true, true, true, true, true, true, true, true, false, false] rfl rfl (any_of HT_.out (by kernel_rfl)) (fun _ _ _ h => h) (Or.inl ⟨by rfl, ?_⟩) ?_ ?_
                      rotate_left
                      · intro w'
                        go_simp
                        with_reducible rfl
                      rotate_left
                      · simp only [Act.put, List.setIfInBounds_toArray, List.set_cons_zero, List.set_cons_succ, i64_w, i32_w]
                        rfl
                      refine pure_ (i := 11) (N := some 14) (v := ?_) (a' := ?_) #[true, true, true, true, true, true, true, true, true, true, true, true, false] rfl rfl (any_of HT_.out (by kernel_rfl)) (fun _ _ _ h => h) (Or.inl ⟨by rfl, ?_⟩) ?_ ?_
                      rotate_left
                      · intro w'
                        go_simp
                        with_reducible rfl
                      rotate_left
                      · simp only [Act.put, List.setIfInBounds_toArray, List.set_cons_zero, List.set_cons_succ, i64_w, i32_w]
                        rfl
                      refine pure_ (i := 12) (N := some 15) (v := ?_) (a' := ?_) #[true, true, true, true, true, true, true, true, true, true, true, true, true] rfl rfl (any_of HT_.out (by kernel_rfl)) (fun _ _ _ h => h) (Or.inl ⟨by rfl, ?_⟩) ?_ ?_
                      rotate_left
                      · intro w'
                        go_simp
                        with_reducible rfl
                      rotate_left
                      · simp only [Act.put, List.setIfInBounds_toArray, List.set_cons_zero, List.set_cons_succ, i64_w, i32_w]
                        rfl
                      refine done_ (done_of HT_.out (by kernel_rfl)) ?_
                      try go_wp2
                      have n0_ := Am (Kd.R_drew HO_2.out)
                      have n1_ := Am (Kd.R_drew HO_11.out)
                      have n2_ := Am (Kd.N_drew HO_367000.out)
                      have n3_ := Am (Kd.N_drew HO_372000.out)
                      have n4_ := Am (Kd.R_drew HO384.out)
                      have n5_ := Am (blk_drew BK366.out)
                      have n6_ := Am (blk_drew BK371.out)
                      have n7_ := Am (below_drew1 HB.out)
                      clear HO_2
                      clear HO_11
                      clear HO_367000
                      clear HO_372000
                      clear HO384
                      clear BK366
                      clear BK371
                      clear HB
                      have HO_2 := n0_
                      have HO_11 := n1_
                      have HO_367000 := n2_
                      have HO_372000 := n3_
                      have HO384 := n4_
                      have BK366 := n5_
                      have BK371 := n6_
                      have HB := n7_
                      clear n0_ n1_ n2_ n3_ n4_ n5_ n6_ n7_
                      have p387 : 0 ≤ (x12_2 : Int) := of_decide_eq_true (by first | (with_reducible assumption) | assumption)
                      have q387 : x12_2 < (y378.length : Int) := of_decide_eq_true (by first | (with_reducible assumption) | assumption)
                      obtain ⟨ad387, e387, hx387_0⟩ := Kd.at_string (Kd.R_reads' HO_11.out).2.2 x12_2 p387 q387
                      obtain rfl : ad381 = ad387 := (by injection e387)
                      replace p387 := eq_true p387
                      replace q387 := eq_true q387
                      refine start_ (n := 13) (S := fun w' => w'.cell? ⟨gb371, 0, none⟩ = some (.slice Ao17 t367.length co17) ∧ w'.cell? ⟨gb371, 1, none⟩ = some (.bool t370) ∧ w'.cell? (ad381.add (x12_2).toNat) = some (.string (rdOf ByteArray.empty y378 x12_2))) (ds := []) #[false, false, false, false, false, false, false, false, false, false, false, false, false] (by kernel_rfl) rfl rfl ⟨(blk_cell BK371.out 0).trans rfl, (blk_cell BK371.out 1).trans rfl, hx387_0⟩ (fun hHeld => ?_); refine with_tabW ostiarylaw10_PolicyParses.tab12 ostiarylaw10_PolicyParses.bits12 (fun HT_ HW_ => ?_)
                      generalize w48.drew = w49 at HO_2 HO_11 HO_367000 HO_372000 HO384 BK366 BK371 HB hx387_0 hHeld ⊢
                      refine pure_ (i := 1) (N := some 66) (v := ?_) (a' := ?_) #[false, true, false, false, false, false, false, false, false, false, false, false, false] rfl rfl (any_of HT_.out (by kernel_rfl)) (fun _ _ _ h => h) (Or.inl ⟨by rfl, ?_⟩) ?_ ?_
                      rotate_left
                      · intro w'
                        go_simp
                        with_reducible rfl
                      rotate_left
                      · simp only [Act.put, List.setIfInBounds_toArray, List.set_cons_zero, List.set_cons_succ, i64_w, i32_w]
                        rfl
                      refine pure_ (i := 2) (N := some 67) (v := ?_) (a' := ?_) #[false, true, true, false, false, false, false, false, false, false, false, false, false] rfl rfl (any_of HT_.out (by kernel_rfl)) (fun _ _ _ h => h) (Or.inl ⟨by rfl, ?_⟩) ?_ ?_
                      rotate_left
                      · intro w'
                        go_simp
                        with_reducible rfl
                      rotate_left
                      · simp only [Act.put, List.setIfInBounds_toArray, List.set_cons_zero, List.set_cons_succ, i64_w, i32_w]
                        rfl
                      refine pure_ (i := 3) (N := some 68) (v := ?_) (a' := ?_) #[false, true, true, true, false, false, false, false, false, false, false, false, false] rfl rfl (any_of HT_.out (by kernel_rfl)) (fun _ _ _ h => h) (Or.inl ⟨by rfl, ?_⟩) ?_ ?_
                      rotate_left
                      · intro w'
                        go_simp
                        with_reducible rfl
                      rotate_left
                      · simp only [Act.put, List.setIfInBounds_toArray, List.set_cons_zero, List.set_cons_succ, i64_w, i32_w]
                        rfl
                      refine take_ (i := 0) (N := some 65) (v := ?_) (a' := ?_) #[true, true, true, true, false, false, false, false, false, false, false, false, false] rfl rfl (take_ofW HT_.out HW_.out (by kernel_rfl)) (fun _ _ _ h => h) (Or.inl ⟨by rfl, ?_⟩) hHeld ?_ ?_
                      rotate_left
                      · rintro w' ⟨s0, s1, s2⟩
                        go_simp
                        with_reducible rfl
                      rotate_left
                      · simp only [Act.put, List.setIfInBounds_toArray, List.set_cons_zero, List.set_cons_succ, i64_w, i32_w]
                        rfl
                      refine take_ (i := 4) (N := some 69) (v := ?_) (a' := ?_) #[true, true, true, true, true, false, false, false, false, false, false, false, false] rfl rfl (take_ofW HT_.out HW_.out (by kernel_rfl)) (fun _ _ _ h => h) (Or.inl ⟨by rfl, ?_⟩) hHeld ?_ ?_
                      rotate_left
                      · rintro w' ⟨s0, s1, s2⟩
                        go_simp
                        with_reducible rfl
                      rotate_left
                      · simp only [Act.put, List.setIfInBounds_toArray, List.set_cons_zero, List.set_cons_succ, i64_w, i32_w]
                        rfl
                      refine one_ (i := 5) (N := some 70) #[true, true, true, true, true, true, false, false, false, false, false, false, false] rfl rfl (one_of HT_.out (by kernel_rfl)) (by decide) (fun K hK => ?_)
                      refine goes_ Tryd.func23 (by kernel_rfl) rfl #[.agg #[.slice Ao17 t367.length co17, .bool t370], .string (rdOf ByteArray.empty y378 x12_2)] (by rfl) rfl rfl (by ((try simp only [List.map_toArray, List.map_cons, List.map_nil]); first | done | rfl | (simp only [List.length_drop, List.length_take]; rfl))) ?_
                      with_reducible refine (ostiaryref10_Values.calls k2 (fun k_ => ((some k_ ≠ (v360 : Value).ownBlock ∧ (some k_ ≠ (.slice (some ad381) y378.length co46 : Value).ownBlock ∧ (some k_ ≠ (.slice Ao13 t362.length co13 : Value).ownBlock ∧ (k_ ≠ gb366 ∧ k_ ≠ gb371)))) ∧ some k_ ≠ (v383 : Value).ownBlock)) _ _ t367 t370 (rdOf ByteArray.empty y378 x12_2) t388 t391 t392 _ ?side1 A41.out).mono ?_
                      (case side1 => exact Kd.N_V (HO_372000.out))
                      rintro e w50 ⟨v389, rfl, ho0, hb⟩
                      have HS2_ := (hb.cell (World.block_lt_of_cell? _ _ (hHeld.2.2))).trans (hHeld.2.2)
                      refine ⟨_, rfl, ?_⟩
                      have n0_ := Am (Kd.R_below (by (with_reducible repeat (first | apply Kd.R_alloc | apply Kd.R_drewN | apply Kd.R_drew)); exact HO_2.out) hb)
                      have n1_ := Am (Kd.R_below (by (with_reducible repeat (first | apply Kd.R_alloc | apply Kd.R_drewN | apply Kd.R_drew)); exact HO_11.out) hb)
                      have n2_ := Am (Kd.N_below (by (with_reducible repeat (first | apply Kd.N_alloc | apply Kd.N_drewN | apply Kd.N_drew)); exact HO_367000.out) hb)
                      have n3_ := Am (Kd.N_below (by (with_reducible repeat (first | apply Kd.N_alloc | apply Kd.N_drewN | apply Kd.N_drew)); exact HO_372000.out) hb)
                      have n4_ := Am (Kd.R_below (by (with_reducible repeat (first | apply Kd.R_alloc | apply Kd.R_drewN | apply Kd.R_drew)); exact HO384.out) hb)
                      have n5_ := Am (Kd.V_lower (Kd.V_mono (ok' := fun k_ => some k_ ≠ (v360 : Value).ownBlock ∧ some k_ ≠ (.slice (some ad381) y378.length co46 : Value).ownBlock ∧ some k_ ≠ (.slice Ao13 t362.length co13 : Value).ownBlock ∧ some k_ ≠ (v383 : Value).ownBlock ∧ k_ ≠ gb366 ∧ k_ ≠ gb371) ho0 (fun k_ hk_ => ⟨Or.elim hk_ (fun hs_ => hs_.1.1) (fun hn_ => (Kd.fresh' (Kd.R_lt (by (with_reducible repeat (first | apply Kd.R_alloc | apply Kd.R_drewN | apply Kd.R_drew)); exact HO_2.out)) k_ hn_)), Or.elim hk_ (fun hs_ => hs_.1.2.1) (fun hn_ => (Kd.fresh' (Kd.R_lt (by (with_reducible repeat (first | apply Kd.R_alloc | apply Kd.R_drewN | apply Kd.R_drew)); exact HO_11.out)) k_ hn_)), Or.elim hk_ (fun hs_ => hs_.1.2.2.1) (fun hn_ => (Kd.fresh' (Kd.N_lt (by (with_reducible repeat (first | apply Kd.N_alloc | apply Kd.N_drewN | apply Kd.N_drew)); exact HO_367000.out)) k_ hn_)), Or.elim hk_ (fun hs_ => hs_.2) (fun hn_ => (Kd.fresh' (Kd.R_lt (by (with_reducible repeat (first | apply Kd.R_alloc | apply Kd.R_drewN | apply Kd.R_drew)); exact HO384.out)) k_ hn_)), Or.elim hk_ (fun hs_ => hs_.1.2.2.2.1) (fun hn_ => (Kd.freshB (g := gb366) (o := .cells #[.slice Ao13 t362.length co13, .bool t365] 33 (0, 0)) (by (with_reducible repeat (first | refine blk_drewN ?_ _ | refine blk_drew ?_ | refine blk_alloc ?_ _)); exact BK366.out) k_ hn_)), Or.elim hk_ (fun hs_ => hs_.1.2.2.2.2) (fun hn_ => (Kd.freshB (g := gb371) (o := .cells #[.slice Ao17 t367.length co17, .bool t370] 41 (0, 0)) (by (with_reducible repeat (first | refine blk_drewN ?_ _ | refine blk_drew ?_ | refine blk_alloc ?_ _)); exact BK371.out) k_ hn_))⟩)) (below_size (by (repeat (first | (with_reducible first | exact HB.out | apply below_alloc | apply pw_below_drewN | apply below_drew1 | refine below_set ?_ (Aside0.out GE366) | refine below_set ?_ (Aside0.out GE371)) | exact HB.out)))))
                      have n6_ := Am (blk_below (g := gb366) (o := .cells #[.slice Ao13 t362.length co13, .bool t365] 33 (0, 0)) (by (with_reducible repeat (first | refine blk_drewN ?_ _ | refine blk_drew ?_ | refine blk_alloc ?_ _)); exact BK366.out) hb)
                      have n7_ := Am (blk_below (g := gb371) (o := .cells #[.slice Ao17 t367.length co17, .bool t370] 41 (0, 0)) (by (with_reducible repeat (first | refine blk_drewN ?_ _ | refine blk_drew ?_ | refine blk_alloc ?_ _)); exact BK371.out) hb)
                      have n8_ := Am (below_step (by (repeat (first | (with_reducible first | exact HB.out | apply below_alloc | apply pw_below_drewN | apply below_drew1 | refine below_set ?_ (Aside0.out GE366) | refine below_set ?_ (Aside0.out GE371)) | exact HB.out))) hb)
                      clear HO_2
                      clear HO_11
                      clear HO_367000
                      clear HO_372000
                      clear HO384
                      clear BK366
                      clear BK371
                      clear HB
                      have HO_2 := n0_
                      have HO_11 := n1_
                      have HO_367000 := n2_
                      have HO_372000 := n3_
                      have HO384 := n4_
                      have HO390 := n5_
                      have BK366 := n6_
                      have BK371 := n7_
                      have HB := n8_
                      clear n0_ n1_ n2_ n3_ n4_ n5_ n6_ n7_ n8_
                      (try clear hb)
                      (try clear hb2)
                      (try clear hk)
                      (try clear hi)
                      (try clear ho0)
                      refine hK.out _ _ ⟨(blk_cell BK371.out 0).trans rfl, (blk_cell BK371.out 1).trans rfl, HS2_⟩ (fun hHeld => ?_)
                      clear hK K
                      refine norm_ (a' := ?_) ?_ ?_
                      rotate_left
                      · show Act.put _ (some 70) _ = _
                        simp only [Act.put, List.setIfInBounds_toArray, List.set_cons_zero, List.set_cons_succ, i64_w, i32_w]
                        rfl
                      refine pure_ (i := 6) (N := some 64) (v := ?_) (a' := ?_) #[true, true, true, true, true, true, true, false, false, false, false, false, false] rfl rfl (any_of HT_.out (by kernel_rfl)) (fun _ _ _ h => h) (Or.inl ⟨by rfl, ?_⟩) ?_ ?_
                      rotate_left
                      · intro w'
                        go_simp
                        with_reducible rfl
                      rotate_left
                      · simp only [Act.put, List.setIfInBounds_toArray, List.set_cons_zero, List.set_cons_succ, i64_w, i32_w]
                        rfl
                      refine pure_ (i := 7) (N := some 71) (v := ?_) (a' := ?_) #[true, true, true, true, true, true, true, true, false, false, false, false, false] rfl rfl (any_of HT_.out (by kernel_rfl)) (fun _ _ _ h => h) (Or.inl ⟨by rfl, ?_⟩) ?_ ?_
                      rotate_left
                      · intro w'
                        go_simp
                        with_reducible rfl
                      rotate_left
                      · simp only [Act.put, List.setIfInBounds_toArray, List.set_cons_zero, List.set_cons_succ, i64_w, i32_w]
                        rfl
                      refine pure_ (i := 8) (N := some 72) (v := ?_) (a' := ?_) #[true, true, true, true, true, true, true, true, true, false, false, false, false] rfl rfl (any_of HT_.out (by kernel_rfl)) (fun _ _ _ h => h) (Or.inl ⟨by rfl, ?_⟩) ?_ ?_
                      rotate_left
                      · intro w'
                        go_simp
                        with_reducible rfl
                      rotate_left
                      · simp only [Act.put, List.setIfInBounds_toArray, List.set_cons_zero, List.set_cons_succ, i64_w, i32_w]
                        rfl
                      refine pure_ (i := 9) (N := some 73) (v := ?_) (a' := ?_) #[true, true, true, true, true, true, true, true, true, true, false, false, false] rfl rfl (any_of HT_.out (by kernel_rfl)) (fun _ _ _ h => h) (Or.inl ⟨by rfl, ?_⟩) ?_ ?_
                      rotate_left
                      · intro w'
                        go_simp
                        with_reducible rfl
                      rotate_left
                      · simp only [Act.put, List.setIfInBounds_toArray, List.set_cons_zero, List.set_cons_succ, i64_w, i32_w]
                        rfl
                      refine pure_ (i := 10) (N := some 16) (v := ?_) (a' := ?_) #[true, true, true, true, true, true, true, true, true, true, true, false, false] rfl rfl (any_of HT_.out (by kernel_rfl)) (fun _ _ _ h => h) (Or.inl ⟨by rfl, ?_⟩) ?_ ?_
                      rotate_left
                      · intro w'
                        go_simp
                        with_reducible rfl
                      rotate_left
                      · simp only [Act.put, List.setIfInBounds_toArray, List.set_cons_zero, List.set_cons_succ, i64_w, i32_w]
                        rfl
                      refine pure_ (i := 11) (N := some 17) (v := ?_) (a' := ?_) #[true, true, true, true, true, true, true, true, true, true, true, true, false] rfl rfl (any_of HT_.out (by kernel_rfl)) (fun _ _ _ h => h) (Or.inl ⟨by rfl, ?_⟩) ?_ ?_
                      rotate_left
                      · intro w'
                        go_simp
                        with_reducible rfl
                      rotate_left
                      · simp only [Act.put, List.setIfInBounds_toArray, List.set_cons_zero, List.set_cons_succ, i64_w, i32_w]
                        rfl
                      refine pure_ (i := 12) (N := some 18) (v := ?_) (a' := ?_) #[true, true, true, true, true, true, true, true, true, true, true, true, true] rfl rfl (any_of HT_.out (by kernel_rfl)) (fun _ _ _ h => h) (Or.inl ⟨by rfl, ?_⟩) ?_ ?_
                      rotate_left
                      · intro w'
                        go_simp
                        with_reducible rfl
                      rotate_left
                      · simp only [Act.put, List.setIfInBounds_toArray, List.set_cons_zero, List.set_cons_succ, i64_w, i32_w]
                        rfl
                      refine done_ (done_of HT_.out (by kernel_rfl)) ?_
                      obtain ⟨Ao51, co51, eo51⟩ := Kd.R_slice HO384.out
                      subst eo51
                      obtain ⟨Ao52, co52, eo52⟩ := Kd.V_slice HO390.out
                      subst eo52
                      try go_wp2_with (first | ((with_reducible refine gate_callee (f := 8) rfl ?_); refine goesL_ (some 76) rfl rfl Tryd.func8 (by kernel_rfl) rfl #[.slice Ao51 t382.length co51, .slice Ao52 t388.length co52] rfl (by ((try simp only [List.map_toArray, List.map_cons, List.map_nil]); first | done | rfl | (simp only [List.length_drop, List.length_take]; rfl))) ?_; (with_reducible refine (ostiarybook_Same_string.calls k2 _ _ t382 _ _ t388 true _ ?side1 ?side2 ?side3 ?side4 A42.out).mono ?_); (case side1 => repeat (first | exact (Kd.R_reads' HO384.out).2.2 | (first | (with_reducible refine Kd.C_alloc ?_ _) | (with_reducible refine Kd.C_drewN ?_ _) | (with_reducible refine Kd.C_drew ?_)))); (case side2 => exact (Kd.R_reads' HO384.out).2.1); (case side3 => repeat (first | exact (Kd.V_reads' HO390.out).2.2 | (first | (with_reducible refine Kd.C_alloc ?_ _) | (with_reducible refine Kd.C_drewN ?_ _) | (with_reducible refine Kd.C_drew ?_)))); (case side4 => exact (Kd.V_reads' HO390.out).2.1); rintro e w' ⟨rfl, ⟨nd, rfl⟩⟩; refine ⟨_, rfl, ?_⟩))
                      go_ret
                      exact ⟨by (first | rfl | (simp [errW_none, errW_some] <;> rfl) | (simp [*, errW_none, errW_some] <;> rfl)), by (repeat (first | (with_reducible first | exact HB.out | apply below_alloc | apply pw_below_drewN | apply below_drew1 | refine below_set ?_ (Aside0.out GE366) | refine below_set ?_ (Aside0.out GE371)) | exact HB.out))⟩
                    · rw [if_neg c45] at H
                      have c45b0 : (t386 != t392) = false := by simpa using c45
                      (try (have c45b1 : decide (t386 = t392) = true := by simpa using c45))
                      (try (have c45b2 : (t386 == t392) = true := by simpa using c45))
                      clear c45
                      have H' := Aside0.mk H
                      clear H
                      obtain ⟨Ao53, co53, eo53⟩ := Kd.R_slice HO_11.out
                      subst eo53
                      try go_wp2
                      have n0_ := Am (Kd.R_drew HO_2.out)
                      have n1_ := Am (Kd.R_drew HO_11.out)
                      have n2_ := Am (Kd.N_drew HO_367000.out)
                      have n3_ := Am (Kd.N_drew HO_372000.out)
                      have n4_ := Am (blk_drew BK366.out)
                      have n5_ := Am (blk_drew BK371.out)
                      have n6_ := Am (below_drew1 HB.out)
                      clear HO_2
                      clear HO_11
                      clear HO_367000
                      clear HO_372000
                      clear BK366
                      clear BK371
                      clear HB
                      have HO_2 := n0_
                      have HO_11 := n1_
                      have HO_367000 := n2_
                      have HO_372000 := n3_
                      have BK366 := n4_
                      have BK371 := n5_
                      have HB := n6_
                      clear n0_ n1_ n2_ n3_ n4_ n5_ n6_
                      have p381 : 0 ≤ (x12_2 : Int) := of_decide_eq_true (by first | (with_reducible assumption) | assumption)
                      have q381 : x12_2 < (y378.length : Int) := of_decide_eq_true (by first | (with_reducible assumption) | assumption)
                      obtain ⟨ad381, e381, hx381_0⟩ := Kd.at_string (Kd.R_reads' HO_11.out).2.2 x12_2 p381 q381
                      cases e381
                      replace p381 := eq_true p381
                      replace q381 := eq_true q381
                      refine start_ (n := 13) (S := fun w' => w'.cell? ⟨gb366, 0, none⟩ = some (.slice Ao13 t362.length co13) ∧ w'.cell? ⟨gb366, 1, none⟩ = some (.bool t365) ∧ w'.cell? (ad381.add (x12_2).toNat) = some (.string (rdOf ByteArray.empty y378 x12_2))) (ds := []) #[false, false, false, false, false, false, false, false, false, false, false, false, false] (by kernel_rfl) rfl rfl ⟨(blk_cell BK366.out 0).trans rfl, (blk_cell BK366.out 1).trans rfl, hx381_0⟩ (fun hHeld => ?_); refine with_tabW ostiarylaw10_PolicyParses.tab11 ostiarylaw10_PolicyParses.bits11 (fun HT_ HW_ => ?_)
                      generalize wr.drew = w54 at HO_2 HO_11 HO_367000 HO_372000 BK366 BK371 HB hx381_0 hHeld ⊢
                      refine pure_ (i := 1) (N := some 56) (v := ?_) (a' := ?_) #[false, true, false, false, false, false, false, false, false, false, false, false, false] rfl rfl (any_of HT_.out (by kernel_rfl)) (fun _ _ _ h => h) (Or.inl ⟨by rfl, ?_⟩) ?_ ?_
                      rotate_left
                      · intro w'
                        go_simp
                        with_reducible rfl
                      rotate_left
                      · simp only [Act.put, List.setIfInBounds_toArray, List.set_cons_zero, List.set_cons_succ, i64_w, i32_w]
                        rfl
                      refine pure_ (i := 2) (N := some 57) (v := ?_) (a' := ?_) #[false, true, true, false, false, false, false, false, false, false, false, false, false] rfl rfl (any_of HT_.out (by kernel_rfl)) (fun _ _ _ h => h) (Or.inl ⟨by rfl, ?_⟩) ?_ ?_
                      rotate_left
                      · intro w'
                        go_simp
                        with_reducible rfl
                      rotate_left
                      · simp only [Act.put, List.setIfInBounds_toArray, List.set_cons_zero, List.set_cons_succ, i64_w, i32_w]
                        rfl
                      refine pure_ (i := 3) (N := some 58) (v := ?_) (a' := ?_) #[false, true, true, true, false, false, false, false, false, false, false, false, false] rfl rfl (any_of HT_.out (by kernel_rfl)) (fun _ _ _ h => h) (Or.inl ⟨by rfl, ?_⟩) ?_ ?_
                      rotate_left
                      · intro w'
                        go_simp
                        with_reducible rfl
                      rotate_left
                      · simp only [Act.put, List.setIfInBounds_toArray, List.set_cons_zero, List.set_cons_succ, i64_w, i32_w]
                        rfl
                      refine take_ (i := 0) (N := some 55) (v := ?_) (a' := ?_) #[true, true, true, true, false, false, false, false, false, false, false, false, false] rfl rfl (take_ofW HT_.out HW_.out (by kernel_rfl)) (fun _ _ _ h => h) (Or.inl ⟨by rfl, ?_⟩) hHeld ?_ ?_
                      rotate_left
                      · rintro w' ⟨s0, s1, s2⟩
                        go_simp
                        with_reducible rfl
                      rotate_left
                      · simp only [Act.put, List.setIfInBounds_toArray, List.set_cons_zero, List.set_cons_succ, i64_w, i32_w]
                        rfl
                      refine take_ (i := 4) (N := some 59) (v := ?_) (a' := ?_) #[true, true, true, true, true, false, false, false, false, false, false, false, false] rfl rfl (take_ofW HT_.out HW_.out (by kernel_rfl)) (fun _ _ _ h => h) (Or.inl ⟨by rfl, ?_⟩) hHeld ?_ ?_
                      rotate_left
                      · rintro w' ⟨s0, s1, s2⟩
                        go_simp
                        with_reducible rfl
                      rotate_left
                      · simp only [Act.put, List.setIfInBounds_toArray, List.set_cons_zero, List.set_cons_succ, i64_w, i32_w]
                        rfl
                      refine one_ (i := 5) (N := some 60) #[true, true, true, true, true, true, false, false, false, false, false, false, false] rfl rfl (one_of HT_.out (by kernel_rfl)) (by decide) (fun K hK => ?_)
                      refine goes_ Tryd.func22 (by kernel_rfl) rfl #[.agg #[.slice Ao13 t362.length co13, .bool t365], .string (rdOf ByteArray.empty y378 x12_2)] (by rfl) rfl rfl (by ((try simp only [List.map_toArray, List.map_cons, List.map_nil]); first | done | rfl | (simp only [List.length_drop, List.length_take]; rfl))) ?_
                      with_reducible refine (policy_Values.calls k2 _ _ t362 t365 (rdOf ByteArray.empty y378 x12_2) t382 t385 t386 _ ?side1 ?side2 A40.out).mono ?_
                      (case side1 => repeat (first | exact (Kd.N_reads' HO_367000.out).2.2 | (first | (with_reducible refine Kd.C_alloc ?_ _) | (with_reducible refine Kd.C_drewN ?_ _) | (with_reducible refine Kd.C_drew ?_))))
                      (case side2 => exact (Kd.N_reads' HO_367000.out).2.1)
                      rintro e w55 ⟨v383, rfl, ho0, hb⟩
                      have HS2_ := (hb.cell (World.block_lt_of_cell? _ _ (hHeld.2.2))).trans (hHeld.2.2)
                      refine ⟨_, rfl, ?_⟩
                      have n0_ := Am (Kd.R_below (by (with_reducible repeat (first | apply Kd.R_alloc | apply Kd.R_drewN | apply Kd.R_drew)); exact HO_2.out) hb)
                      have n1_ := Am (Kd.R_elder' (by (with_reducible repeat (first | apply Kd.R_alloc | apply Kd.R_drewN | apply Kd.R_drew)); exact HO_11.out) (Kd.R_base ho0) hb)
                      have n2_ := Am (Kd.N_elder' (by (with_reducible repeat (first | apply Kd.N_alloc | apply Kd.N_drewN | apply Kd.N_drew)); exact HO_367000.out) (Kd.R_base ho0) hb)
                      have n3_ := Am (Kd.N_elder' (by (with_reducible repeat (first | apply Kd.N_alloc | apply Kd.N_drewN | apply Kd.N_drew)); exact HO_372000.out) (Kd.R_base ho0) hb)
                      have n4_ := Am (Kd.R_lower (Kd.R_new' ho0 (Kd.R_lt (by (with_reducible repeat (first | apply Kd.R_alloc | apply Kd.R_drewN | apply Kd.R_drew)); exact HO_11.out))) (below_size (by (repeat (first | (with_reducible first | exact HB.out | apply below_alloc | apply pw_below_drewN | apply below_drew1 | refine below_set ?_ (Aside0.out GE366) | refine below_set ?_ (Aside0.out GE371)) | exact HB.out)))))
                      have n5_ := Am (blk_below (g := gb366) (o := .cells #[.slice Ao13 t362.length co13, .bool t365] 33 (0, 0)) (by (with_reducible repeat (first | refine blk_drewN ?_ _ | refine blk_drew ?_ | refine blk_alloc ?_ _)); exact BK366.out) hb)
                      have n6_ := Am (blk_below (g := gb371) (o := .cells #[.slice Ao17 t367.length co17, .bool t370] 41 (0, 0)) (by (with_reducible repeat (first | refine blk_drewN ?_ _ | refine blk_drew ?_ | refine blk_alloc ?_ _)); exact BK371.out) hb)
                      have n7_ := Am (below_step (by (repeat (first | (with_reducible first | exact HB.out | apply below_alloc | apply pw_below_drewN | apply below_drew1 | refine below_set ?_ (Aside0.out GE366) | refine below_set ?_ (Aside0.out GE371)) | exact HB.out))) hb)
                      clear HO_2
                      clear HO_11
                      clear HO_367000
                      clear HO_372000
                      clear BK366
                      clear BK371
                      clear HB
                      have HO_2 := n0_
                      have HO_11 := n1_
                      have HO_367000 := n2_
                      have HO_372000 := n3_
                      have HO384 := n4_
                      have BK366 := n5_
                      have BK371 := n6_
                      have HB := n7_
                      clear n0_ n1_ n2_ n3_ n4_ n5_ n6_ n7_
                      (try clear hb)
                      (try clear hb2)
                      (try clear hk)
                      (try clear hi)
                      (try clear ho0)
                      refine hK.out _ _ ⟨(blk_cell BK366.out 0).trans rfl, (blk_cell BK366.out 1).trans rfl, HS2_⟩ (fun hHeld => ?_)
                      clear hK K
                      refine norm_ (a' := ?_) ?_ ?_
                      rotate_left
                      · show Act.put _ (some 60) _ = _
                        simp only [Act.put, List.setIfInBounds_toArray, List.set_cons_zero, List.set_cons_succ, i64_w, i32_w]
                        rfl
                      refine pure_ (i := 6) (N := some 54) (v := ?_) (a' := ?_) #[true, true, true, true, true, true, true, false, false, false, false, false, false] rfl rfl (any_of HT_.out (by kernel_rfl)) (fun _ _ _ h => h) (Or.inl ⟨by rfl, ?_⟩) ?_ ?_
                      rotate_left
                      · intro w'
                        go_simp
                        with_reducible rfl
                      rotate_left
                      · simp only [Act.put, List.setIfInBounds_toArray, List.set_cons_zero, List.set_cons_succ, i64_w, i32_w]
                        rfl
                      refine pure_ (i := 7) (N := some 61) (v := ?_) (a' := ?_) #[true, true, true, true, true, true, true, true, false, false, false, false, false] rfl rfl (any_of HT_.out (by kernel_rfl)) (fun _ _ _ h => h) (Or.inl ⟨by rfl, ?_⟩) ?_ ?_
                      rotate_left
                      · intro w'
                        go_simp
                        with_reducible rfl
                      rotate_left
                      · simp only [Act.put, List.setIfInBounds_toArray, List.set_cons_zero, List.set_cons_succ, i64_w, i32_w]
                        rfl
                      refine pure_ (i := 8) (N := some 62) (v := ?_) (a' := ?_) #[true, true, true, true, true, true, true, true, true, false, false, false, false] rfl rfl (any_of HT_.out (by kernel_rfl)) (fun _ _ _ h => h) (Or.inl ⟨by rfl, ?_⟩) ?_ ?_
                      rotate_left
                      · intro w'
                        go_simp
                        with_reducible rfl
                      rotate_left
                      · simp only [Act.put, List.setIfInBounds_toArray, List.set_cons_zero, List.set_cons_succ, i64_w, i32_w]
                        rfl
                      refine pure_ (i := 9) (N := some 63) (v := ?_) (a' := ?_) #[true, true, true, true, true, true, true, true, true, true, false, false, false] rfl rfl (any_of HT_.out (by kernel_rfl)) (fun _ _ _ h => h) (Or.inl ⟨by rfl, ?_⟩) ?_ ?_
                      rotate_left
                      · intro w'
                        go_simp
                        with_reducible rfl
                      rotate_left
                      · simp only [Act.put, List.setIfInBounds_toArray, List.set_cons_zero, List.set_cons_succ, i64_w, i32_w]
                        rfl
                      refine pure_ (i := 10) (N := some 13) (v := ?_) (a' := ?_) #[true, true, true, true, true, true, true, true, true, true, true, false, false] rfl rfl (any_of HT_.out (by kernel_rfl)) (fun _ _ _ h => h) (Or.inl ⟨by rfl, ?_⟩) ?_ ?_
                      rotate_left
                      · intro w'
                        go_simp
                        with_reducible rfl
                      rotate_left
                      · simp only [Act.put, List.setIfInBounds_toArray, List.set_cons_zero, List.set_cons_succ, i64_w, i32_w]
                        rfl
                      refine pure_ (i := 11) (N := some 14) (v := ?_) (a' := ?_) #[true, true, true, true, true, true, true, true, true, true, true, true, false] rfl rfl (any_of HT_.out (by kernel_rfl)) (fun _ _ _ h => h) (Or.inl ⟨by rfl, ?_⟩) ?_ ?_
                      rotate_left
                      · intro w'
                        go_simp
                        with_reducible rfl
                      rotate_left
                      · simp only [Act.put, List.setIfInBounds_toArray, List.set_cons_zero, List.set_cons_succ, i64_w, i32_w]
                        rfl
                      refine pure_ (i := 12) (N := some 15) (v := ?_) (a' := ?_) #[true, true, true, true, true, true, true, true, true, true, true, true, true] rfl rfl (any_of HT_.out (by kernel_rfl)) (fun _ _ _ h => h) (Or.inl ⟨by rfl, ?_⟩) ?_ ?_
                      rotate_left
                      · intro w'
                        go_simp
                        with_reducible rfl
                      rotate_left
                      · simp only [Act.put, List.setIfInBounds_toArray, List.set_cons_zero, List.set_cons_succ, i64_w, i32_w]
                        rfl
                      refine done_ (done_of HT_.out (by kernel_rfl)) ?_
                      try go_wp2
                      have n0_ := Am (Kd.R_drew HO_2.out)
                      have n1_ := Am (Kd.R_drew HO_11.out)
                      have n2_ := Am (Kd.N_drew HO_367000.out)
                      have n3_ := Am (Kd.N_drew HO_372000.out)
                      have n4_ := Am (Kd.R_drew HO384.out)
                      have n5_ := Am (blk_drew BK366.out)
                      have n6_ := Am (blk_drew BK371.out)
                      have n7_ := Am (below_drew1 HB.out)
                      clear HO_2
                      clear HO_11
                      clear HO_367000
                      clear HO_372000
                      clear HO384
                      clear BK366
                      clear BK371
                      clear HB
                      have HO_2 := n0_
                      have HO_11 := n1_
                      have HO_367000 := n2_
                      have HO_372000 := n3_
                      have HO384 := n4_
                      have BK366 := n5_
                      have BK371 := n6_
                      have HB := n7_
                      clear n0_ n1_ n2_ n3_ n4_ n5_ n6_ n7_
                      have p387 : 0 ≤ (x12_2 : Int) := of_decide_eq_true (by first | (with_reducible assumption) | assumption)
                      have q387 : x12_2 < (y378.length : Int) := of_decide_eq_true (by first | (with_reducible assumption) | assumption)
                      obtain ⟨ad387, e387, hx387_0⟩ := Kd.at_string (Kd.R_reads' HO_11.out).2.2 x12_2 p387 q387
                      obtain rfl : ad381 = ad387 := (by injection e387)
                      replace p387 := eq_true p387
                      replace q387 := eq_true q387
                      refine start_ (n := 13) (S := fun w' => w'.cell? ⟨gb371, 0, none⟩ = some (.slice Ao17 t367.length co17) ∧ w'.cell? ⟨gb371, 1, none⟩ = some (.bool t370) ∧ w'.cell? (ad381.add (x12_2).toNat) = some (.string (rdOf ByteArray.empty y378 x12_2))) (ds := []) #[false, false, false, false, false, false, false, false, false, false, false, false, false] (by kernel_rfl) rfl rfl ⟨(blk_cell BK371.out 0).trans rfl, (blk_cell BK371.out 1).trans rfl, hx387_0⟩ (fun hHeld => ?_); refine with_tabW ostiarylaw10_PolicyParses.tab12 ostiarylaw10_PolicyParses.bits12 (fun HT_ HW_ => ?_)
                      generalize w55.drew = w56 at HO_2 HO_11 HO_367000 HO_372000 HO384 BK366 BK371 HB hx387_0 hHeld ⊢
                      refine pure_ (i := 1) (N := some 66) (v := ?_) (a' := ?_) #[false, true, false, false, false, false, false, false, false, false, false, false, false] rfl rfl (any_of HT_.out (by kernel_rfl)) (fun _ _ _ h => h) (Or.inl ⟨by rfl, ?_⟩) ?_ ?_
                      rotate_left
                      · intro w'
                        go_simp
                        with_reducible rfl
                      rotate_left
                      · simp only [Act.put, List.setIfInBounds_toArray, List.set_cons_zero, List.set_cons_succ, i64_w, i32_w]
                        rfl
                      refine pure_ (i := 2) (N := some 67) (v := ?_) (a' := ?_) #[false, true, true, false, false, false, false, false, false, false, false, false, false] rfl rfl (any_of HT_.out (by kernel_rfl)) (fun _ _ _ h => h) (Or.inl ⟨by rfl, ?_⟩) ?_ ?_
                      rotate_left
                      · intro w'
                        go_simp
                        with_reducible rfl
                      rotate_left
                      · simp only [Act.put, List.setIfInBounds_toArray, List.set_cons_zero, List.set_cons_succ, i64_w, i32_w]
                        rfl
                      refine pure_ (i := 3) (N := some 68) (v := ?_) (a' := ?_) #[false, true, true, true, false, false, false, false, false, false, false, false, false] rfl rfl (any_of HT_.out (by kernel_rfl)) (fun _ _ _ h => h) (Or.inl ⟨by rfl, ?_⟩) ?_ ?_
                      rotate_left
                      · intro w'
                        go_simp
                        with_reducible rfl
                      rotate_left
                      · simp only [Act.put, List.setIfInBounds_toArray, List.set_cons_zero, List.set_cons_succ, i64_w, i32_w]
                        rfl
                      refine take_ (i := 0) (N := some 65) (v := ?_) (a' := ?_) #[true, true, true, true, false, false, false, false, false, false, false, false, false] rfl rfl (take_ofW HT_.out HW_.out (by kernel_rfl)) (fun _ _ _ h => h) (Or.inl ⟨by rfl, ?_⟩) hHeld ?_ ?_
                      rotate_left
                      · rintro w' ⟨s0, s1, s2⟩
                        go_simp
                        with_reducible rfl
                      rotate_left
                      · simp only [Act.put, List.setIfInBounds_toArray, List.set_cons_zero, List.set_cons_succ, i64_w, i32_w]
                        rfl
                      refine take_ (i := 4) (N := some 69) (v := ?_) (a' := ?_) #[true, true, true, true, true, false, false, false, false, false, false, false, false] rfl rfl (take_ofW HT_.out HW_.out (by kernel_rfl)) (fun _ _ _ h => h) (Or.inl ⟨by rfl, ?_⟩) hHeld ?_ ?_
                      rotate_left
                      · rintro w' ⟨s0, s1, s2⟩
                        go_simp
                        with_reducible rfl
                      rotate_left
                      · simp only [Act.put, List.setIfInBounds_toArray, List.set_cons_zero, List.set_cons_succ, i64_w, i32_w]
                        rfl
                      refine one_ (i := 5) (N := some 70) #[true, true, true, true, true, true, false, false, false, false, false, false, false] rfl rfl (one_of HT_.out (by kernel_rfl)) (by decide) (fun K hK => ?_)
                      refine goes_ Tryd.func23 (by kernel_rfl) rfl #[.agg #[.slice Ao17 t367.length co17, .bool t370], .string (rdOf ByteArray.empty y378 x12_2)] (by rfl) rfl rfl (by ((try simp only [List.map_toArray, List.map_cons, List.map_nil]); first | done | rfl | (simp only [List.length_drop, List.length_take]; rfl))) ?_
                      with_reducible refine (ostiaryref10_Values.calls k2 (fun k_ => ((some k_ ≠ (v360 : Value).ownBlock ∧ (some k_ ≠ (.slice (some ad381) y378.length co53 : Value).ownBlock ∧ (some k_ ≠ (.slice Ao13 t362.length co13 : Value).ownBlock ∧ (k_ ≠ gb366 ∧ k_ ≠ gb371)))) ∧ some k_ ≠ (v383 : Value).ownBlock)) _ _ t367 t370 (rdOf ByteArray.empty y378 x12_2) t388 t391 t392 _ ?side1 A41.out).mono ?_
                      (case side1 => exact Kd.N_V (HO_372000.out))
                      rintro e w57 ⟨v389, rfl, ho0, hb⟩
                      have HS2_ := (hb.cell (World.block_lt_of_cell? _ _ (hHeld.2.2))).trans (hHeld.2.2)
                      refine ⟨_, rfl, ?_⟩
                      have n0_ := Am (Kd.R_below (by (with_reducible repeat (first | apply Kd.R_alloc | apply Kd.R_drewN | apply Kd.R_drew)); exact HO_2.out) hb)
                      have n1_ := Am (Kd.R_below (by (with_reducible repeat (first | apply Kd.R_alloc | apply Kd.R_drewN | apply Kd.R_drew)); exact HO_11.out) hb)
                      have n2_ := Am (Kd.N_below (by (with_reducible repeat (first | apply Kd.N_alloc | apply Kd.N_drewN | apply Kd.N_drew)); exact HO_367000.out) hb)
                      have n3_ := Am (Kd.N_below (by (with_reducible repeat (first | apply Kd.N_alloc | apply Kd.N_drewN | apply Kd.N_drew)); exact HO_372000.out) hb)
                      have n4_ := Am (Kd.R_below (by (with_reducible repeat (first | apply Kd.R_alloc | apply Kd.R_drewN | apply Kd.R_drew)); exact HO384.out) hb)
                      have n5_ := Am (Kd.V_lower (Kd.V_mono (ok' := fun k_ => some k_ ≠ (v360 : Value).ownBlock ∧ some k_ ≠ (.slice (some ad381) y378.length co53 : Value).ownBlock ∧ some k_ ≠ (.slice Ao13 t362.length co13 : Value).ownBlock ∧ some k_ ≠ (v383 : Value).ownBlock ∧ k_ ≠ gb366 ∧ k_ ≠ gb371) ho0 (fun k_ hk_ => ⟨Or.elim hk_ (fun hs_ => hs_.1.1) (fun hn_ => (Kd.fresh' (Kd.R_lt (by (with_reducible repeat (first | apply Kd.R_alloc | apply Kd.R_drewN | apply Kd.R_drew)); exact HO_2.out)) k_ hn_)), Or.elim hk_ (fun hs_ => hs_.1.2.1) (fun hn_ => (Kd.fresh' (Kd.R_lt (by (with_reducible repeat (first | apply Kd.R_alloc | apply Kd.R_drewN | apply Kd.R_drew)); exact HO_11.out)) k_ hn_)), Or.elim hk_ (fun hs_ => hs_.1.2.2.1) (fun hn_ => (Kd.fresh' (Kd.N_lt (by (with_reducible repeat (first | apply Kd.N_alloc | apply Kd.N_drewN | apply Kd.N_drew)); exact HO_367000.out)) k_ hn_)), Or.elim hk_ (fun hs_ => hs_.2) (fun hn_ => (Kd.fresh' (Kd.R_lt (by (with_reducible repeat (first | apply Kd.R_alloc | apply Kd.R_drewN | apply Kd.R_drew)); exact HO384.out)) k_ hn_)), Or.elim hk_ (fun hs_ => hs_.1.2.2.2.1) (fun hn_ => (Kd.freshB (g := gb366) (o := .cells #[.slice Ao13 t362.length co13, .bool t365] 33 (0, 0)) (by (with_reducible repeat (first | refine blk_drewN ?_ _ | refine blk_drew ?_ | refine blk_alloc ?_ _)); exact BK366.out) k_ hn_)), Or.elim hk_ (fun hs_ => hs_.1.2.2.2.2) (fun hn_ => (Kd.freshB (g := gb371) (o := .cells #[.slice Ao17 t367.length co17, .bool t370] 41 (0, 0)) (by (with_reducible repeat (first | refine blk_drewN ?_ _ | refine blk_drew ?_ | refine blk_alloc ?_ _)); exact BK371.out) k_ hn_))⟩)) (below_size (by (repeat (first | (with_reducible first | exact HB.out | apply below_alloc | apply pw_below_drewN | apply below_drew1 | refine below_set ?_ (Aside0.out GE366) | refine below_set ?_ (Aside0.out GE371)) | exact HB.out)))))
                      have n6_ := Am (blk_below (g := gb366) (o := .cells #[.slice Ao13 t362.length co13, .bool t365] 33 (0, 0)) (by (with_reducible repeat (first | refine blk_drewN ?_ _ | refine blk_drew ?_ | refine blk_alloc ?_ _)); exact BK366.out) hb)
                      have n7_ := Am (blk_below (g := gb371) (o := .cells #[.slice Ao17 t367.length co17, .bool t370] 41 (0, 0)) (by (with_reducible repeat (first | refine blk_drewN ?_ _ | refine blk_drew ?_ | refine blk_alloc ?_ _)); exact BK371.out) hb)
                      have n8_ := Am (below_step (by (repeat (first | (with_reducible first | exact HB.out | apply below_alloc | apply pw_below_drewN | apply below_drew1 | refine below_set ?_ (Aside0.out GE366) | refine below_set ?_ (Aside0.out GE371)) | exact HB.out))) hb)
                      clear HO_2
                      clear HO_11
                      clear HO_367000
                      clear HO_372000
                      clear HO384
                      clear BK366
                      clear BK371
                      clear HB
                      have HO_2 := n0_
                      have HO_11 := n1_
                      have HO_367000 := n2_
                      have HO_372000 := n3_
                      have HO384 := n4_
                      have HO390 := n5_
                      have BK366 := n6_
                      have BK371 := n7_
                      have HB := n8_
                      clear n0_ n1_ n2_ n3_ n4_ n5_ n6_ n7_ n8_
                      (try clear hb)
                      (try clear hb2)
                      (try clear hk)
                      (try clear hi)
                      (try clear ho0)
                      refine hK.out _ _ ⟨(blk_cell BK371.out 0).trans rfl, (blk_cell BK371.out 1).trans rfl, HS2_⟩ (fun hHeld => ?_)
                      clear hK K
                      refine norm_ (a' := ?_) ?_ ?_
                      rotate_left
                      · show Act.put _ (some 70) _ = _
                        simp only [Act.put, List.setIfInBounds_toArray, List.set_cons_zero, List.set_cons_succ, i64_w, i32_w]
                        rfl
                      refine pure_ (i := 6) (N := some 64) (v := ?_) (a' := ?_) #[true, true, true, true, true, true, true, false, false, false, false, false, false] rfl rfl (any_of HT_.out (by kernel_rfl)) (fun _ _ _ h => h) (Or.inl ⟨by rfl, ?_⟩) ?_ ?_
                      rotate_left
                      · intro w'
                        go_simp
                        with_reducible rfl
                      rotate_left
                      · simp only [Act.put, List.setIfInBounds_toArray, List.set_cons_zero, List.set_cons_succ, i64_w, i32_w]
                        rfl
                      refine pure_ (i := 7) (N := some 71) (v := ?_) (a' := ?_) #[true, true, true, true, true, true, true, true, false, false, false, false, false] rfl rfl (any_of HT_.out (by kernel_rfl)) (fun _ _ _ h => h) (Or.inl ⟨by rfl, ?_⟩) ?_ ?_
                      rotate_left
                      · intro w'
                        go_simp
                        with_reducible rfl
                      rotate_left
                      · simp only [Act.put, List.setIfInBounds_toArray, List.set_cons_zero, List.set_cons_succ, i64_w, i32_w]
                        rfl
                      refine pure_ (i := 8) (N := some 72) (v := ?_) (a' := ?_) #[true, true, true, true, true, true, true, true, true, false, false, false, false] rfl rfl (any_of HT_.out (by kernel_rfl)) (fun _ _ _ h => h) (Or.inl ⟨by rfl, ?_⟩) ?_ ?_
                      rotate_left
                      · intro w'
                        go_simp
                        with_reducible rfl
                      rotate_left
                      · simp only [Act.put, List.setIfInBounds_toArray, List.set_cons_zero, List.set_cons_succ, i64_w, i32_w]
                        rfl
                      refine pure_ (i := 9) (N := some 73) (v := ?_) (a' := ?_) #[true, true, true, true, true, true, true, true, true, true, false, false, false] rfl rfl (any_of HT_.out (by kernel_rfl)) (fun _ _ _ h => h) (Or.inl ⟨by rfl, ?_⟩) ?_ ?_
                      rotate_left
                      · intro w'
                        go_simp
                        with_reducible rfl
                      rotate_left
                      · simp only [Act.put, List.setIfInBounds_toArray, List.set_cons_zero, List.set_cons_succ, i64_w, i32_w]
                        rfl
                      refine pure_ (i := 10) (N := some 16) (v := ?_) (a' := ?_) #[true, true, true, true, true, true, true, true, true, true, true, false, false] rfl rfl (any_of HT_.out (by kernel_rfl)) (fun _ _ _ h => h) (Or.inl ⟨by rfl, ?_⟩) ?_ ?_
                      rotate_left
                      · intro w'
                        go_simp
                        with_reducible rfl
                      rotate_left
                      · simp only [Act.put, List.setIfInBounds_toArray, List.set_cons_zero, List.set_cons_succ, i64_w, i32_w]
                        rfl
                      refine pure_ (i := 11) (N := some 17) (v := ?_) (a' := ?_) #[true, true, true, true, true, true, true, true, true, true, true, true, false] rfl rfl (any_of HT_.out (by kernel_rfl)) (fun _ _ _ h => h) (Or.inl ⟨by rfl, ?_⟩) ?_ ?_
                      rotate_left
                      · intro w'
                        go_simp
                        with_reducible rfl
                      rotate_left
                      · simp only [Act.put, List.setIfInBounds_toArray, List.set_cons_zero, List.set_cons_succ, i64_w, i32_w]
                        rfl
                      refine pure_ (i := 12) (N := some 18) (v := ?_) (a' := ?_) #[true, true, true, true, true, true, true, true, true, true, true, true, true] rfl rfl (any_of HT_.out (by kernel_rfl)) (fun _ _ _ h => h) (Or.inl ⟨by rfl, ?_⟩) ?_ ?_
                      rotate_left
                      · intro w'
                        go_simp
                        with_reducible rfl
                      rotate_left
                      · simp only [Act.put, List.setIfInBounds_toArray, List.set_cons_zero, List.set_cons_succ, i64_w, i32_w]
                        rfl
                      refine done_ (done_of HT_.out (by kernel_rfl)) ?_
                      obtain ⟨Ao58, co58, eo58⟩ := Kd.R_slice HO384.out
                      subst eo58
                      obtain ⟨Ao59, co59, eo59⟩ := Kd.V_slice HO390.out
                      subst eo59
                      try go_wp2_with (first | ((with_reducible refine gate_callee (f := 8) rfl ?_); refine goesL_ (some 76) rfl rfl Tryd.func8 (by kernel_rfl) rfl #[.slice Ao58 t382.length co58, .slice Ao59 t388.length co59] rfl (by ((try simp only [List.map_toArray, List.map_cons, List.map_nil]); first | done | rfl | (simp only [List.length_drop, List.length_take]; rfl))) ?_; (with_reducible refine (ostiarybook_Same_string.calls k2 _ _ t382 _ _ t388 true _ ?side1 ?side2 ?side3 ?side4 A42.out).mono ?_); (case side1 => repeat (first | exact (Kd.R_reads' HO384.out).2.2 | (first | (with_reducible refine Kd.C_alloc ?_ _) | (with_reducible refine Kd.C_drewN ?_ _) | (with_reducible refine Kd.C_drew ?_)))); (case side2 => exact (Kd.R_reads' HO384.out).2.1); (case side3 => repeat (first | exact (Kd.V_reads' HO390.out).2.2 | (first | (with_reducible refine Kd.C_alloc ?_ _) | (with_reducible refine Kd.C_drewN ?_ _) | (with_reducible refine Kd.C_drew ?_)))); (case side4 => exact (Kd.V_reads' HO390.out).2.1); rintro e w' ⟨rfl, ⟨nd, rfl⟩⟩; refine ⟨_, rfl, ?_⟩))
                      go_roundg k2
                      case measure => have := HJ8.out; have := HK2.out; omega
                      case rel => exact ⟨(wrap64 (x12_2 + 1)), (by first | rfl | (simp; done) | (simp [*]; done)), H', ⟨by have := HJ8.out; have := HK2.out; omega⟩, ⟨by (with_reducible repeat (first | apply Kd.R_alloc | apply Kd.R_drewN | apply Kd.R_drew)); exact HO_2.out⟩, ⟨by (with_reducible repeat (first | apply Kd.R_alloc | apply Kd.R_drewN | apply Kd.R_drew)); exact Kd.R_mono HO_11.out (fun _ hk => trivial)⟩, ⟨by (with_reducible repeat (first | apply Kd.N_alloc | apply Kd.N_drewN | apply Kd.N_drew)); exact Kd.N_mono HO_367000.out (fun _ hk => ⟨hk.1.1, ⟨hk.1.2.1, ⟨hk.1.2.2.1, ⟨hk.1.2.2.2.1, hk.1.2.2.2.2⟩⟩⟩⟩)⟩, ⟨by (with_reducible repeat (first | apply Kd.N_alloc | apply Kd.N_drewN | apply Kd.N_drew)); exact Kd.N_mono HO_372000.out (fun _ hk => ⟨hk.1.1, ⟨hk.1.2.1, ⟨hk.1.2.2.1, ⟨hk.1.2.2.2.1, hk.1.2.2.2.2⟩⟩⟩⟩)⟩, ⟨by (with_reducible repeat (first | refine blk_drewN ?_ _ | refine blk_drew ?_ | refine blk_alloc ?_ _)); exact BK366.out⟩, ⟨by (with_reducible repeat (first | refine blk_drewN ?_ _ | refine blk_drew ?_ | refine blk_alloc ?_ _)); exact BK371.out⟩, ⟨by (repeat (first | (with_reducible first | exact HB.out | apply below_alloc | apply pw_below_drewN | apply below_drew1 | refine below_set ?_ (Aside0.out GE366) | refine below_set ?_ (Aside0.out GE371)) | exact HB.out))⟩⟩
                  · rw [if_neg c44] at H
                    have c44b0 : (t385.toList == t391.toList) = false := beq_eq_false_iff_ne.mpr c44
                    have c44b1 : (t385.toList != t391.toList) = true := bne_iff_ne.mpr c44
                    obtain rfl := Option.some.inj H
                    obtain ⟨Ao60, co60, eo60⟩ := Kd.R_slice HO_11.out
                    subst eo60
                    try go_wp2
                    have n0_ := Am (Kd.R_drew HO_2.out)
                    have n1_ := Am (Kd.R_drew HO_11.out)
                    have n2_ := Am (Kd.N_drew HO_367000.out)
                    have n3_ := Am (Kd.N_drew HO_372000.out)
                    have n4_ := Am (blk_drew BK366.out)
                    have n5_ := Am (blk_drew BK371.out)
                    have n6_ := Am (below_drew1 HB.out)
                    clear HO_2
                    clear HO_11
                    clear HO_367000
                    clear HO_372000
                    clear BK366
                    clear BK371
                    clear HB
                    have HO_2 := n0_
                    have HO_11 := n1_
                    have HO_367000 := n2_
                    have HO_372000 := n3_
                    have BK366 := n4_
                    have BK371 := n5_
                    have HB := n6_
                    clear n0_ n1_ n2_ n3_ n4_ n5_ n6_
                    have p381 : 0 ≤ (x12_2 : Int) := of_decide_eq_true (by first | (with_reducible assumption) | assumption)
                    have q381 : x12_2 < (y378.length : Int) := of_decide_eq_true (by first | (with_reducible assumption) | assumption)
                    obtain ⟨ad381, e381, hx381_0⟩ := Kd.at_string (Kd.R_reads' HO_11.out).2.2 x12_2 p381 q381
                    cases e381
                    replace p381 := eq_true p381
                    replace q381 := eq_true q381
                    refine start_ (n := 13) (S := fun w' => w'.cell? ⟨gb366, 0, none⟩ = some (.slice Ao13 t362.length co13) ∧ w'.cell? ⟨gb366, 1, none⟩ = some (.bool t365) ∧ w'.cell? (ad381.add (x12_2).toNat) = some (.string (rdOf ByteArray.empty y378 x12_2))) (ds := []) #[false, false, false, false, false, false, false, false, false, false, false, false, false] (by kernel_rfl) rfl rfl ⟨(blk_cell BK366.out 0).trans rfl, (blk_cell BK366.out 1).trans rfl, hx381_0⟩ (fun hHeld => ?_); refine with_tabW ostiarylaw10_PolicyParses.tab11 ostiarylaw10_PolicyParses.bits11 (fun HT_ HW_ => ?_)
                    generalize wr.drew = w61 at HO_2 HO_11 HO_367000 HO_372000 BK366 BK371 HB hx381_0 hHeld ⊢
                    refine pure_ (i := 1) (N := some 56) (v := ?_) (a' := ?_) #[false, true, false, false, false, false, false, false, false, false, false, false, false] rfl rfl (any_of HT_.out (by kernel_rfl)) (fun _ _ _ h => h) (Or.inl ⟨by rfl, ?_⟩) ?_ ?_
                    rotate_left
                    · intro w'
                      go_simp
                      with_reducible rfl
                    rotate_left
                    · simp only [Act.put, List.setIfInBounds_toArray, List.set_cons_zero, List.set_cons_succ, i64_w, i32_w]
                      rfl
                    refine pure_ (i := 2) (N := some 57) (v := ?_) (a' := ?_) #[false, true, true, false, false, false, false, false, false, false, false, false, false] rfl rfl (any_of HT_.out (by kernel_rfl)) (fun _ _ _ h => h) (Or.inl ⟨by rfl, ?_⟩) ?_ ?_
                    rotate_left
                    · intro w'
                      go_simp
                      with_reducible rfl
                    rotate_left
                    · simp only [Act.put, List.setIfInBounds_toArray, List.set_cons_zero, List.set_cons_succ, i64_w, i32_w]
                      rfl
                    refine pure_ (i := 3) (N := some 58) (v := ?_) (a' := ?_) #[false, true, true, true, false, false, false, false, false, false, false, false, false] rfl rfl (any_of HT_.out (by kernel_rfl)) (fun _ _ _ h => h) (Or.inl ⟨by rfl, ?_⟩) ?_ ?_
                    rotate_left
                    · intro w'
                      go_simp
                      with_reducible rfl
                    rotate_left
                    · simp only [Act.put, List.setIfInBounds_toArray, List.set_cons_zero, List.set_cons_succ, i64_w, i32_w]
                      rfl
                    refine take_ (i := 0) (N := some 55) (v := ?_) (a' := ?_) #[true, true, true, true, false, false, false, false, false, false, false, false, false] rfl rfl (take_ofW HT_.out HW_.out (by kernel_rfl)) (fun _ _ _ h => h) (Or.inl ⟨by rfl, ?_⟩) hHeld ?_ ?_
                    rotate_left
                    · rintro w' ⟨s0, s1, s2⟩
                      go_simp
                      with_reducible rfl
                    rotate_left
                    · simp only [Act.put, List.setIfInBounds_toArray, List.set_cons_zero, List.set_cons_succ, i64_w, i32_w]
                      rfl
                    refine take_ (i := 4) (N := some 59) (v := ?_) (a' := ?_) #[true, true, true, true, true, false, false, false, false, false, false, false, false] rfl rfl (take_ofW HT_.out HW_.out (by kernel_rfl)) (fun _ _ _ h => h) (Or.inl ⟨by rfl, ?_⟩) hHeld ?_ ?_
                    rotate_left
                    · rintro w' ⟨s0, s1, s2⟩
                      go_simp
                      with_reducible rfl
                    rotate_left
                    · simp only [Act.put, List.setIfInBounds_toArray, List.set_cons_zero, List.set_cons_succ, i64_w, i32_w]
                      rfl
                    refine one_ (i := 5) (N := some 60) #[true, true, true, true, true, true, false, false, false, false, false, false, false] rfl rfl (one_of HT_.out (by kernel_rfl)) (by decide) (fun K hK => ?_)
                    refine goes_ Tryd.func22 (by kernel_rfl) rfl #[.agg #[.slice Ao13 t362.length co13, .bool t365], .string (rdOf ByteArray.empty y378 x12_2)] (by rfl) rfl rfl (by ((try simp only [List.map_toArray, List.map_cons, List.map_nil]); first | done | rfl | (simp only [List.length_drop, List.length_take]; rfl))) ?_
                    with_reducible refine (policy_Values.calls k2 _ _ t362 t365 (rdOf ByteArray.empty y378 x12_2) t382 t385 t386 _ ?side1 ?side2 A40.out).mono ?_
                    (case side1 => repeat (first | exact (Kd.N_reads' HO_367000.out).2.2 | (first | (with_reducible refine Kd.C_alloc ?_ _) | (with_reducible refine Kd.C_drewN ?_ _) | (with_reducible refine Kd.C_drew ?_))))
                    (case side2 => exact (Kd.N_reads' HO_367000.out).2.1)
                    rintro e w62 ⟨v383, rfl, ho0, hb⟩
                    have HS2_ := (hb.cell (World.block_lt_of_cell? _ _ (hHeld.2.2))).trans (hHeld.2.2)
                    refine ⟨_, rfl, ?_⟩
                    have n0_ := Am (Kd.R_below (by (with_reducible repeat (first | apply Kd.R_alloc | apply Kd.R_drewN | apply Kd.R_drew)); exact HO_2.out) hb)
                    have n1_ := Am (Kd.R_elder' (by (with_reducible repeat (first | apply Kd.R_alloc | apply Kd.R_drewN | apply Kd.R_drew)); exact HO_11.out) (Kd.R_base ho0) hb)
                    have n2_ := Am (Kd.N_elder' (by (with_reducible repeat (first | apply Kd.N_alloc | apply Kd.N_drewN | apply Kd.N_drew)); exact HO_367000.out) (Kd.R_base ho0) hb)
                    have n3_ := Am (Kd.N_elder' (by (with_reducible repeat (first | apply Kd.N_alloc | apply Kd.N_drewN | apply Kd.N_drew)); exact HO_372000.out) (Kd.R_base ho0) hb)
                    have n4_ := Am (Kd.R_lower (Kd.R_new' ho0 (Kd.R_lt (by (with_reducible repeat (first | apply Kd.R_alloc | apply Kd.R_drewN | apply Kd.R_drew)); exact HO_11.out))) (below_size (by (repeat (first | (with_reducible first | exact HB.out | apply below_alloc | apply pw_below_drewN | apply below_drew1 | refine below_set ?_ (Aside0.out GE366) | refine below_set ?_ (Aside0.out GE371)) | exact HB.out)))))
                    have n5_ := Am (blk_below (g := gb366) (o := .cells #[.slice Ao13 t362.length co13, .bool t365] 33 (0, 0)) (by (with_reducible repeat (first | refine blk_drewN ?_ _ | refine blk_drew ?_ | refine blk_alloc ?_ _)); exact BK366.out) hb)
                    have n6_ := Am (blk_below (g := gb371) (o := .cells #[.slice Ao17 t367.length co17, .bool t370] 41 (0, 0)) (by (with_reducible repeat (first | refine blk_drewN ?_ _ | refine blk_drew ?_ | refine blk_alloc ?_ _)); exact BK371.out) hb)
                    have n7_ := Am (below_step (by (repeat (first | (with_reducible first | exact HB.out | apply below_alloc | apply pw_below_drewN | apply below_drew1 | refine below_set ?_ (Aside0.out GE366) | refine below_set ?_ (Aside0.out GE371)) | exact HB.out))) hb)
                    clear HO_2
                    clear HO_11
                    clear HO_367000
                    clear HO_372000
                    clear BK366
                    clear BK371
                    clear HB
                    have HO_2 := n0_
                    have HO_11 := n1_
                    have HO_367000 := n2_
                    have HO_372000 := n3_
                    have HO384 := n4_
                    have BK366 := n5_
                    have BK371 := n6_
                    have HB := n7_
                    clear n0_ n1_ n2_ n3_ n4_ n5_ n6_ n7_
                    (try clear hb)
                    (try clear hb2)
                    (try clear hk)
                    (try clear hi)
                    (try clear ho0)
                    refine hK.out _ _ ⟨(blk_cell BK366.out 0).trans rfl, (blk_cell BK366.out 1).trans rfl, HS2_⟩ (fun hHeld => ?_)
                    clear hK K
                    refine norm_ (a' := ?_) ?_ ?_
                    rotate_left
                    · show Act.put _ (some 60) _ = _
                      simp only [Act.put, List.setIfInBounds_toArray, List.set_cons_zero, List.set_cons_succ, i64_w, i32_w]
                      rfl
                    refine pure_ (i := 6) (N := some 54) (v := ?_) (a' := ?_) #[true, true, true, true, true, true, true, false, false, false, false, false, false] rfl rfl (any_of HT_.out (by kernel_rfl)) (fun _ _ _ h => h) (Or.inl ⟨by rfl, ?_⟩) ?_ ?_
                    rotate_left
                    · intro w'
                      go_simp
                      with_reducible rfl
                    rotate_left
                    · simp only [Act.put, List.setIfInBounds_toArray, List.set_cons_zero, List.set_cons_succ, i64_w, i32_w]
                      rfl
                    refine pure_ (i := 7) (N := some 61) (v := ?_) (a' := ?_) #[true, true, true, true, true, true, true, true, false, false, false, false, false] rfl rfl (any_of HT_.out (by kernel_rfl)) (fun _ _ _ h => h) (Or.inl ⟨by rfl, ?_⟩) ?_ ?_
                    rotate_left
                    · intro w'
                      go_simp
                      with_reducible rfl
                    rotate_left
                    · simp only [Act.put, List.setIfInBounds_toArray, List.set_cons_zero, List.set_cons_succ, i64_w, i32_w]
                      rfl
                    refine pure_ (i := 8) (N := some 62) (v := ?_) (a' := ?_) #[true, true, true, true, true, true, true, true, true, false, false, false, false] rfl rfl (any_of HT_.out (by kernel_rfl)) (fun _ _ _ h => h) (Or.inl ⟨by rfl, ?_⟩) ?_ ?_
                    rotate_left
                    · intro w'
                      go_simp
                      with_reducible rfl
                    rotate_left
                    · simp only [Act.put, List.setIfInBounds_toArray, List.set_cons_zero, List.set_cons_succ, i64_w, i32_w]
                      rfl
                    refine pure_ (i := 9) (N := some 63) (v := ?_) (a' := ?_) #[true, true, true, true, true, true, true, true, true, true, false, false, false] rfl rfl (any_of HT_.out (by kernel_rfl)) (fun _ _ _ h => h) (Or.inl ⟨by rfl, ?_⟩) ?_ ?_
                    rotate_left
                    · intro w'
                      go_simp
                      with_reducible rfl
                    rotate_left
                    · simp only [Act.put, List.setIfInBounds_toArray, List.set_cons_zero, List.set_cons_succ, i64_w, i32_w]
                      rfl
                    refine pure_ (i := 10) (N := some 13) (v := ?_) (a' := ?_) #[true, true, true, true, true, true, true, true, true, true, true, false, false] rfl rfl (any_of HT_.out (by kernel_rfl)) (fun _ _ _ h => h) (Or.inl ⟨by rfl, ?_⟩) ?_ ?_
                    rotate_left
                    · intro w'
                      go_simp
                      with_reducible rfl
                    rotate_left
                    · simp only [Act.put, List.setIfInBounds_toArray, List.set_cons_zero, List.set_cons_succ, i64_w, i32_w]
                      rfl
                    refine pure_ (i := 11) (N := some 14) (v := ?_) (a' := ?_) #[true, true, true, true, true, true, true, true, true, true, true, true, false] rfl rfl (any_of HT_.out (by kernel_rfl)) (fun _ _ _ h => h) (Or.inl ⟨by rfl, ?_⟩) ?_ ?_
                    rotate_left
                    · intro w'
                      go_simp
                      with_reducible rfl
                    rotate_left
                    · simp only [Act.put, List.setIfInBounds_toArray, List.set_cons_zero, List.set_cons_succ, i64_w, i32_w]
                      rfl
                    refine pure_ (i := 12) (N := some 15) (v := ?_) (a' := ?_) #[true, true, true, true, true, true, true, true, true, true, true, true, true] rfl rfl (any_of HT_.out (by kernel_rfl)) (fun _ _ _ h => h) (Or.inl ⟨by rfl, ?_⟩) ?_ ?_
                    rotate_left
                    · intro w'
                      go_simp
                      with_reducible rfl
                    rotate_left
                    · simp only [Act.put, List.setIfInBounds_toArray, List.set_cons_zero, List.set_cons_succ, i64_w, i32_w]
                      rfl
                    refine done_ (done_of HT_.out (by kernel_rfl)) ?_
                    try go_wp2
                    have n0_ := Am (Kd.R_drew HO_2.out)
                    have n1_ := Am (Kd.R_drew HO_11.out)
                    have n2_ := Am (Kd.N_drew HO_367000.out)
                    have n3_ := Am (Kd.N_drew HO_372000.out)
                    have n4_ := Am (Kd.R_drew HO384.out)
                    have n5_ := Am (blk_drew BK366.out)
                    have n6_ := Am (blk_drew BK371.out)
                    have n7_ := Am (below_drew1 HB.out)
                    clear HO_2
                    clear HO_11
                    clear HO_367000
                    clear HO_372000
                    clear HO384
                    clear BK366
                    clear BK371
                    clear HB
                    have HO_2 := n0_
                    have HO_11 := n1_
                    have HO_367000 := n2_
                    have HO_372000 := n3_
                    have HO384 := n4_
                    have BK366 := n5_
                    have BK371 := n6_
                    have HB := n7_
                    clear n0_ n1_ n2_ n3_ n4_ n5_ n6_ n7_
                    have p387 : 0 ≤ (x12_2 : Int) := of_decide_eq_true (by first | (with_reducible assumption) | assumption)
                    have q387 : x12_2 < (y378.length : Int) := of_decide_eq_true (by first | (with_reducible assumption) | assumption)
                    obtain ⟨ad387, e387, hx387_0⟩ := Kd.at_string (Kd.R_reads' HO_11.out).2.2 x12_2 p387 q387
                    obtain rfl : ad381 = ad387 := (by injection e387)
                    replace p387 := eq_true p387
                    replace q387 := eq_true q387
                    refine start_ (n := 13) (S := fun w' => w'.cell? ⟨gb371, 0, none⟩ = some (.slice Ao17 t367.length co17) ∧ w'.cell? ⟨gb371, 1, none⟩ = some (.bool t370) ∧ w'.cell? (ad381.add (x12_2).toNat) = some (.string (rdOf ByteArray.empty y378 x12_2))) (ds := []) #[false, false, false, false, false, false, false, false, false, false, false, false, false] (by kernel_rfl) rfl rfl ⟨(blk_cell BK371.out 0).trans rfl, (blk_cell BK371.out 1).trans rfl, hx387_0⟩ (fun hHeld => ?_); refine with_tabW ostiarylaw10_PolicyParses.tab12 ostiarylaw10_PolicyParses.bits12 (fun HT_ HW_ => ?_)
                    generalize w62.drew = w63 at HO_2 HO_11 HO_367000 HO_372000 HO384 BK366 BK371 HB hx387_0 hHeld ⊢
                    refine pure_ (i := 1) (N := some 66) (v := ?_) (a' := ?_) #[false, true, false, false, false, false, false, false, false, false, false, false, false] rfl rfl (any_of HT_.out (by kernel_rfl)) (fun _ _ _ h => h) (Or.inl ⟨by rfl, ?_⟩) ?_ ?_
                    rotate_left
                    · intro w'
                      go_simp
                      with_reducible rfl
                    rotate_left
                    · simp only [Act.put, List.setIfInBounds_toArray, List.set_cons_zero, List.set_cons_succ, i64_w, i32_w]
                      rfl
                    refine pure_ (i := 2) (N := some 67) (v := ?_) (a' := ?_) #[false, true, true, false, false, false, false, false, false, false, false, false, false] rfl rfl (any_of HT_.out (by kernel_rfl)) (fun _ _ _ h => h) (Or.inl ⟨by rfl, ?_⟩) ?_ ?_
                    rotate_left
                    · intro w'
                      go_simp
                      with_reducible rfl
                    rotate_left
                    · simp only [Act.put, List.setIfInBounds_toArray, List.set_cons_zero, List.set_cons_succ, i64_w, i32_w]
                      rfl
                    refine pure_ (i := 3) (N := some 68) (v := ?_) (a' := ?_) #[false, true, true, true, false, false, false, false, false, false, false, false, false] rfl rfl (any_of HT_.out (by kernel_rfl)) (fun _ _ _ h => h) (Or.inl ⟨by rfl, ?_⟩) ?_ ?_
                    rotate_left
                    · intro w'
                      go_simp
                      with_reducible rfl
                    rotate_left
                    · simp only [Act.put, List.setIfInBounds_toArray, List.set_cons_zero, List.set_cons_succ, i64_w, i32_w]
                      rfl
                    refine take_ (i := 0) (N := some 65) (v := ?_) (a' := ?_) #[true, true, true, true, false, false, false, false, false, false, false, false, false] rfl rfl (take_ofW HT_.out HW_.out (by kernel_rfl)) (fun _ _ _ h => h) (Or.inl ⟨by rfl, ?_⟩) hHeld ?_ ?_
                    rotate_left
                    · rintro w' ⟨s0, s1, s2⟩
                      go_simp
                      with_reducible rfl
                    rotate_left
                    · simp only [Act.put, List.setIfInBounds_toArray, List.set_cons_zero, List.set_cons_succ, i64_w, i32_w]
                      rfl
                    refine take_ (i := 4) (N := some 69) (v := ?_) (a' := ?_) #[true, true, true, true, true, false, false, false, false, false, false, false, false] rfl rfl (take_ofW HT_.out HW_.out (by kernel_rfl)) (fun _ _ _ h => h) (Or.inl ⟨by rfl, ?_⟩) hHeld ?_ ?_
                    rotate_left
                    · rintro w' ⟨s0, s1, s2⟩
                      go_simp
                      with_reducible rfl
                    rotate_left
                    · simp only [Act.put, List.setIfInBounds_toArray, List.set_cons_zero, List.set_cons_succ, i64_w, i32_w]
                      rfl
                    refine one_ (i := 5) (N := some 70) #[true, true, true, true, true, true, false, false, false, false, false, false, false] rfl rfl (one_of HT_.out (by kernel_rfl)) (by decide) (fun K hK => ?_)
                    refine goes_ Tryd.func23 (by kernel_rfl) rfl #[.agg #[.slice Ao17 t367.length co17, .bool t370], .string (rdOf ByteArray.empty y378 x12_2)] (by rfl) rfl rfl (by ((try simp only [List.map_toArray, List.map_cons, List.map_nil]); first | done | rfl | (simp only [List.length_drop, List.length_take]; rfl))) ?_
                    with_reducible refine (ostiaryref10_Values.calls k2 (fun k_ => ((some k_ ≠ (v360 : Value).ownBlock ∧ (some k_ ≠ (.slice (some ad381) y378.length co60 : Value).ownBlock ∧ (some k_ ≠ (.slice Ao13 t362.length co13 : Value).ownBlock ∧ (k_ ≠ gb366 ∧ k_ ≠ gb371)))) ∧ some k_ ≠ (v383 : Value).ownBlock)) _ _ t367 t370 (rdOf ByteArray.empty y378 x12_2) t388 t391 t392 _ ?side1 A41.out).mono ?_
                    (case side1 => exact Kd.N_V (HO_372000.out))
                    rintro e w64 ⟨v389, rfl, ho0, hb⟩
                    have HS2_ := (hb.cell (World.block_lt_of_cell? _ _ (hHeld.2.2))).trans (hHeld.2.2)
                    refine ⟨_, rfl, ?_⟩
                    have n0_ := Am (Kd.R_below (by (with_reducible repeat (first | apply Kd.R_alloc | apply Kd.R_drewN | apply Kd.R_drew)); exact HO_2.out) hb)
                    have n1_ := Am (Kd.R_below (by (with_reducible repeat (first | apply Kd.R_alloc | apply Kd.R_drewN | apply Kd.R_drew)); exact HO_11.out) hb)
                    have n2_ := Am (Kd.N_below (by (with_reducible repeat (first | apply Kd.N_alloc | apply Kd.N_drewN | apply Kd.N_drew)); exact HO_367000.out) hb)
                    have n3_ := Am (Kd.N_below (by (with_reducible repeat (first | apply Kd.N_alloc | apply Kd.N_drewN | apply Kd.N_drew)); exact HO_372000.out) hb)
                    have n4_ := Am (Kd.R_below (by (with_reducible repeat (first | apply Kd.R_alloc | apply Kd.R_drewN | apply Kd.R_drew)); exact HO384.out) hb)
                    have n5_ := Am (Kd.V_lower (Kd.V_mono (ok' := fun k_ => some k_ ≠ (v360 : Value).ownBlock ∧ some k_ ≠ (.slice (some ad381) y378.length co60 : Value).ownBlock ∧ some k_ ≠ (.slice Ao13 t362.length co13 : Value).ownBlock ∧ some k_ ≠ (v383 : Value).ownBlock ∧ k_ ≠ gb366 ∧ k_ ≠ gb371) ho0 (fun k_ hk_ => ⟨Or.elim hk_ (fun hs_ => hs_.1.1) (fun hn_ => (Kd.fresh' (Kd.R_lt (by (with_reducible repeat (first | apply Kd.R_alloc | apply Kd.R_drewN | apply Kd.R_drew)); exact HO_2.out)) k_ hn_)), Or.elim hk_ (fun hs_ => hs_.1.2.1) (fun hn_ => (Kd.fresh' (Kd.R_lt (by (with_reducible repeat (first | apply Kd.R_alloc | apply Kd.R_drewN | apply Kd.R_drew)); exact HO_11.out)) k_ hn_)), Or.elim hk_ (fun hs_ => hs_.1.2.2.1) (fun hn_ => (Kd.fresh' (Kd.N_lt (by (with_reducible repeat (first | apply Kd.N_alloc | apply Kd.N_drewN | apply Kd.N_drew)); exact HO_367000.out)) k_ hn_)), Or.elim hk_ (fun hs_ => hs_.2) (fun hn_ => (Kd.fresh' (Kd.R_lt (by (with_reducible repeat (first | apply Kd.R_alloc | apply Kd.R_drewN | apply Kd.R_drew)); exact HO384.out)) k_ hn_)), Or.elim hk_ (fun hs_ => hs_.1.2.2.2.1) (fun hn_ => (Kd.freshB (g := gb366) (o := .cells #[.slice Ao13 t362.length co13, .bool t365] 33 (0, 0)) (by (with_reducible repeat (first | refine blk_drewN ?_ _ | refine blk_drew ?_ | refine blk_alloc ?_ _)); exact BK366.out) k_ hn_)), Or.elim hk_ (fun hs_ => hs_.1.2.2.2.2) (fun hn_ => (Kd.freshB (g := gb371) (o := .cells #[.slice Ao17 t367.length co17, .bool t370] 41 (0, 0)) (by (with_reducible repeat (first | refine blk_drewN ?_ _ | refine blk_drew ?_ | refine blk_alloc ?_ _)); exact BK371.out) k_ hn_))⟩)) (below_size (by (repeat (first | (with_reducible first | exact HB.out | apply below_alloc | apply pw_below_drewN | apply below_drew1 | refine below_set ?_ (Aside0.out GE366) | refine below_set ?_ (Aside0.out GE371)) | exact HB.out)))))
                    have n6_ := Am (blk_below (g := gb366) (o := .cells #[.slice Ao13 t362.length co13, .bool t365] 33 (0, 0)) (by (with_reducible repeat (first | refine blk_drewN ?_ _ | refine blk_drew ?_ | refine blk_alloc ?_ _)); exact BK366.out) hb)
                    have n7_ := Am (blk_below (g := gb371) (o := .cells #[.slice Ao17 t367.length co17, .bool t370] 41 (0, 0)) (by (with_reducible repeat (first | refine blk_drewN ?_ _ | refine blk_drew ?_ | refine blk_alloc ?_ _)); exact BK371.out) hb)
                    have n8_ := Am (below_step (by (repeat (first | (with_reducible first | exact HB.out | apply below_alloc | apply pw_below_drewN | apply below_drew1 | refine below_set ?_ (Aside0.out GE366) | refine below_set ?_ (Aside0.out GE371)) | exact HB.out))) hb)
                    clear HO_2
                    clear HO_11
                    clear HO_367000
                    clear HO_372000
                    clear HO384
                    clear BK366
                    clear BK371
                    clear HB
                    have HO_2 := n0_
                    have HO_11 := n1_
                    have HO_367000 := n2_
                    have HO_372000 := n3_
                    have HO384 := n4_
                    have HO390 := n5_
                    have BK366 := n6_
                    have BK371 := n7_
                    have HB := n8_
                    clear n0_ n1_ n2_ n3_ n4_ n5_ n6_ n7_ n8_
                    (try clear hb)
                    (try clear hb2)
                    (try clear hk)
                    (try clear hi)
                    (try clear ho0)
                    refine hK.out _ _ ⟨(blk_cell BK371.out 0).trans rfl, (blk_cell BK371.out 1).trans rfl, HS2_⟩ (fun hHeld => ?_)
                    clear hK K
                    refine norm_ (a' := ?_) ?_ ?_
                    rotate_left
                    · show Act.put _ (some 70) _ = _
                      simp only [Act.put, List.setIfInBounds_toArray, List.set_cons_zero, List.set_cons_succ, i64_w, i32_w]
                      rfl
                    refine pure_ (i := 6) (N := some 64) (v := ?_) (a' := ?_) #[true, true, true, true, true, true, true, false, false, false, false, false, false] rfl rfl (any_of HT_.out (by kernel_rfl)) (fun _ _ _ h => h) (Or.inl ⟨by rfl, ?_⟩) ?_ ?_
                    rotate_left
                    · intro w'
                      go_simp
                      with_reducible rfl
                    rotate_left
                    · simp only [Act.put, List.setIfInBounds_toArray, List.set_cons_zero, List.set_cons_succ, i64_w, i32_w]
                      rfl
                    refine pure_ (i := 7) (N := some 71) (v := ?_) (a' := ?_) #[true, true, true, true, true, true, true, true, false, false, false, false, false] rfl rfl (any_of HT_.out (by kernel_rfl)) (fun _ _ _ h => h) (Or.inl ⟨by rfl, ?_⟩) ?_ ?_
                    rotate_left
                    · intro w'
                      go_simp
                      with_reducible rfl
                    rotate_left
                    · simp only [Act.put, List.setIfInBounds_toArray, List.set_cons_zero, List.set_cons_succ, i64_w, i32_w]
                      rfl
                    refine pure_ (i := 8) (N := some 72) (v := ?_) (a' := ?_) #[true, true, true, true, true, true, true, true, true, false, false, false, false] rfl rfl (any_of HT_.out (by kernel_rfl)) (fun _ _ _ h => h) (Or.inl ⟨by rfl, ?_⟩) ?_ ?_
                    rotate_left
                    · intro w'
                      go_simp
                      with_reducible rfl
                    rotate_left
                    · simp only [Act.put, List.setIfInBounds_toArray, List.set_cons_zero, List.set_cons_succ, i64_w, i32_w]
                      rfl
                    refine pure_ (i := 9) (N := some 73) (v := ?_) (a' := ?_) #[true, true, true, true, true, true, true, true, true, true, false, false, false] rfl rfl (any_of HT_.out (by kernel_rfl)) (fun _ _ _ h => h) (Or.inl ⟨by rfl, ?_⟩) ?_ ?_
                    rotate_left
                    · intro w'
                      go_simp
                      with_reducible rfl
                    rotate_left
                    · simp only [Act.put, List.setIfInBounds_toArray, List.set_cons_zero, List.set_cons_succ, i64_w, i32_w]
                      rfl
                    refine pure_ (i := 10) (N := some 16) (v := ?_) (a' := ?_) #[true, true, true, true, true, true, true, true, true, true, true, false, false] rfl rfl (any_of HT_.out (by kernel_rfl)) (fun _ _ _ h => h) (Or.inl ⟨by rfl, ?_⟩) ?_ ?_
                    rotate_left
                    · intro w'
                      go_simp
                      with_reducible rfl
                    rotate_left
                    · simp only [Act.put, List.setIfInBounds_toArray, List.set_cons_zero, List.set_cons_succ, i64_w, i32_w]
                      rfl
                    refine pure_ (i := 11) (N := some 17) (v := ?_) (a' := ?_) #[true, true, true, true, true, true, true, true, true, true, true, true, false] rfl rfl (any_of HT_.out (by kernel_rfl)) (fun _ _ _ h => h) (Or.inl ⟨by rfl, ?_⟩) ?_ ?_
                    rotate_left
                    · intro w'
                      go_simp
                      with_reducible rfl
                    rotate_left
                    · simp only [Act.put, List.setIfInBounds_toArray, List.set_cons_zero, List.set_cons_succ, i64_w, i32_w]
                      rfl
                    refine pure_ (i := 12) (N := some 18) (v := ?_) (a' := ?_) #[true, true, true, true, true, true, true, true, true, true, true, true, true] rfl rfl (any_of HT_.out (by kernel_rfl)) (fun _ _ _ h => h) (Or.inl ⟨by rfl, ?_⟩) ?_ ?_
                    rotate_left
                    · intro w'
                      go_simp
                      with_reducible rfl
                    rotate_left
                    · simp only [Act.put, List.setIfInBounds_toArray, List.set_cons_zero, List.set_cons_succ, i64_w, i32_w]
                      rfl
                    refine done_ (done_of HT_.out (by kernel_rfl)) ?_
                    obtain ⟨Ao65, co65, eo65⟩ := Kd.R_slice HO384.out
                    subst eo65
                    obtain ⟨Ao66, co66, eo66⟩ := Kd.V_slice HO390.out
                    subst eo66
                    try go_wp2_with (first | ((with_reducible refine gate_callee (f := 8) rfl ?_); refine goesL_ (some 76) rfl rfl Tryd.func8 (by kernel_rfl) rfl #[.slice Ao65 t382.length co65, .slice Ao66 t388.length co66] rfl (by ((try simp only [List.map_toArray, List.map_cons, List.map_nil]); first | done | rfl | (simp only [List.length_drop, List.length_take]; rfl))) ?_; (with_reducible refine (ostiarybook_Same_string.calls k2 _ _ t382 _ _ t388 true _ ?side1 ?side2 ?side3 ?side4 A42.out).mono ?_); (case side1 => repeat (first | exact (Kd.R_reads' HO384.out).2.2 | (first | (with_reducible refine Kd.C_alloc ?_ _) | (with_reducible refine Kd.C_drewN ?_ _) | (with_reducible refine Kd.C_drew ?_)))); (case side2 => exact (Kd.R_reads' HO384.out).2.1); (case side3 => repeat (first | exact (Kd.V_reads' HO390.out).2.2 | (first | (with_reducible refine Kd.C_alloc ?_ _) | (with_reducible refine Kd.C_drewN ?_ _) | (with_reducible refine Kd.C_drew ?_)))); (case side4 => exact (Kd.V_reads' HO390.out).2.1); rintro e w' ⟨rfl, ⟨nd, rfl⟩⟩; refine ⟨_, rfl, ?_⟩))
                    go_ret
                    exact ⟨by (first | rfl | (simp [errW_none, errW_some] <;> rfl) | (simp [*, errW_none, errW_some] <;> rfl)), by (repeat (first | (with_reducible first | exact HB.out | apply below_alloc | apply pw_below_drewN | apply below_drew1 | refine below_set ?_ (Aside0.out GE366) | refine below_set ?_ (Aside0.out GE371)) | exact HB.out))⟩
                · replace c43 := Bool.eq_false_iff.mpr c43
                  subst c43
                  have H1 : (some false) = some r := by rw [if_neg (show ¬ (false = true) by decide)] at H; exact H
                  clear H
                  have H := H1
                  clear H1
                  obtain rfl := Option.some.inj H
                  obtain ⟨Ao67, co67, eo67⟩ := Kd.R_slice HO_11.out
                  subst eo67
                  try go_wp2
                  have n0_ := Am (Kd.R_drew HO_2.out)
                  have n1_ := Am (Kd.R_drew HO_11.out)
                  have n2_ := Am (Kd.N_drew HO_367000.out)
                  have n3_ := Am (Kd.N_drew HO_372000.out)
                  have n4_ := Am (blk_drew BK366.out)
                  have n5_ := Am (blk_drew BK371.out)
                  have n6_ := Am (below_drew1 HB.out)
                  clear HO_2
                  clear HO_11
                  clear HO_367000
                  clear HO_372000
                  clear BK366
                  clear BK371
                  clear HB
                  have HO_2 := n0_
                  have HO_11 := n1_
                  have HO_367000 := n2_
                  have HO_372000 := n3_
                  have BK366 := n4_
                  have BK371 := n5_
                  have HB := n6_
                  clear n0_ n1_ n2_ n3_ n4_ n5_ n6_
                  have p381 : 0 ≤ (x12_2 : Int) := of_decide_eq_true (by first | (with_reducible assumption) | assumption)
                  have q381 : x12_2 < (y378.length : Int) := of_decide_eq_true (by first | (with_reducible assumption) | assumption)
                  obtain ⟨ad381, e381, hx381_0⟩ := Kd.at_string (Kd.R_reads' HO_11.out).2.2 x12_2 p381 q381
                  cases e381
                  replace p381 := eq_true p381
                  replace q381 := eq_true q381
                  refine start_ (n := 13) (S := fun w' => w'.cell? ⟨gb366, 0, none⟩ = some (.slice Ao13 t362.length co13) ∧ w'.cell? ⟨gb366, 1, none⟩ = some (.bool t365) ∧ w'.cell? (ad381.add (x12_2).toNat) = some (.string (rdOf ByteArray.empty y378 x12_2))) (ds := []) #[false, false, false, false, false, false, false, false, false, false, false, false, false] (by kernel_rfl) rfl rfl ⟨(blk_cell BK366.out 0).trans rfl, (blk_cell BK366.out 1).trans rfl, hx381_0⟩ (fun hHeld => ?_); refine with_tabW ostiarylaw10_PolicyParses.tab11 ostiarylaw10_PolicyParses.bits11 (fun HT_ HW_ => ?_)
                  generalize wr.drew = w68 at HO_2 HO_11 HO_367000 HO_372000 BK366 BK371 HB hx381_0 hHeld ⊢
                  refine pure_ (i := 1) (N := some 56) (v := ?_) (a' := ?_) #[false, true, false, false, false, false, false, false, false, false, false, false, false] rfl rfl (any_of HT_.out (by kernel_rfl)) (fun _ _ _ h => h) (Or.inl ⟨by rfl, ?_⟩) ?_ ?_
                  rotate_left
                  · intro w'
                    go_simp
                    with_reducible rfl
                  rotate_left
                  · simp only [Act.put, List.setIfInBounds_toArray, List.set_cons_zero, List.set_cons_succ, i64_w, i32_w]
                    rfl
                  refine pure_ (i := 2) (N := some 57) (v := ?_) (a' := ?_) #[false, true, true, false, false, false, false, false, false, false, false, false, false] rfl rfl (any_of HT_.out (by kernel_rfl)) (fun _ _ _ h => h) (Or.inl ⟨by rfl, ?_⟩) ?_ ?_
                  rotate_left
                  · intro w'
                    go_simp
                    with_reducible rfl
                  rotate_left
                  · simp only [Act.put, List.setIfInBounds_toArray, List.set_cons_zero, List.set_cons_succ, i64_w, i32_w]
                    rfl
                  refine pure_ (i := 3) (N := some 58) (v := ?_) (a' := ?_) #[false, true, true, true, false, false, false, false, false, false, false, false, false] rfl rfl (any_of HT_.out (by kernel_rfl)) (fun _ _ _ h => h) (Or.inl ⟨by rfl, ?_⟩) ?_ ?_
                  rotate_left
                  · intro w'
                    go_simp
                    with_reducible rfl
                  rotate_left
                  · simp only [Act.put, List.setIfInBounds_toArray, List.set_cons_zero, List.set_cons_succ, i64_w, i32_w]
                    rfl
                  refine take_ (i := 0) (N := some 55) (v := ?_) (a' := ?_) #[true, true, true, true, false, false, false, false, false, false, false, false, false] rfl rfl (take_ofW HT_.out HW_.out (by kernel_rfl)) (fun _ _ _ h => h) (Or.inl ⟨by rfl, ?_⟩) hHeld ?_ ?_
                  rotate_left
                  · rintro w' ⟨s0, s1, s2⟩
                    go_simp
                    with_reducible rfl
                  rotate_left
                  · simp only [Act.put, List.setIfInBounds_toArray, List.set_cons_zero, List.set_cons_succ, i64_w, i32_w]
                    rfl
                  refine take_ (i := 4) (N := some 59) (v := ?_) (a' := ?_) #[true, true, true, true, true, false, false, false, false, false, false, false, false] rfl rfl (take_ofW HT_.out HW_.out (by kernel_rfl)) (fun _ _ _ h => h) (Or.inl ⟨by rfl, ?_⟩) hHeld ?_ ?_
                  rotate_left
                  · rintro w' ⟨s0, s1, s2⟩
                    go_simp
                    with_reducible rfl
                  rotate_left
                  · simp only [Act.put, List.setIfInBounds_toArray, List.set_cons_zero, List.set_cons_succ, i64_w, i32_w]
                    rfl
                  refine one_ (i := 5) (N := some 60) #[true, true, true, true, true, true, false, false, false, false, false, false, false] rfl rfl (one_of HT_.out (by kernel_rfl)) (by decide) (fun K hK => ?_)
                  refine goes_ Tryd.func22 (by kernel_rfl) rfl #[.agg #[.slice Ao13 t362.length co13, .bool t365], .string (rdOf ByteArray.empty y378 x12_2)] (by rfl) rfl rfl (by ((try simp only [List.map_toArray, List.map_cons, List.map_nil]); first | done | rfl | (simp only [List.length_drop, List.length_take]; rfl))) ?_
                  with_reducible refine (policy_Values.calls k2 _ _ t362 t365 (rdOf ByteArray.empty y378 x12_2) t382 t385 t386 _ ?side1 ?side2 A40.out).mono ?_
                  (case side1 => repeat (first | exact (Kd.N_reads' HO_367000.out).2.2 | (first | (with_reducible refine Kd.C_alloc ?_ _) | (with_reducible refine Kd.C_drewN ?_ _) | (with_reducible refine Kd.C_drew ?_))))
                  (case side2 => exact (Kd.N_reads' HO_367000.out).2.1)
                  rintro e w69 ⟨v383, rfl, ho0, hb⟩
                  have HS2_ := (hb.cell (World.block_lt_of_cell? _ _ (hHeld.2.2))).trans (hHeld.2.2)
                  refine ⟨_, rfl, ?_⟩
                  have n0_ := Am (Kd.R_below (by (with_reducible repeat (first | apply Kd.R_alloc | apply Kd.R_drewN | apply Kd.R_drew)); exact HO_2.out) hb)
                  have n1_ := Am (Kd.R_elder' (by (with_reducible repeat (first | apply Kd.R_alloc | apply Kd.R_drewN | apply Kd.R_drew)); exact HO_11.out) (Kd.R_base ho0) hb)
                  have n2_ := Am (Kd.N_elder' (by (with_reducible repeat (first | apply Kd.N_alloc | apply Kd.N_drewN | apply Kd.N_drew)); exact HO_367000.out) (Kd.R_base ho0) hb)
                  have n3_ := Am (Kd.N_elder' (by (with_reducible repeat (first | apply Kd.N_alloc | apply Kd.N_drewN | apply Kd.N_drew)); exact HO_372000.out) (Kd.R_base ho0) hb)
                  have n4_ := Am (Kd.R_lower (Kd.R_new' ho0 (Kd.R_lt (by (with_reducible repeat (first | apply Kd.R_alloc | apply Kd.R_drewN | apply Kd.R_drew)); exact HO_11.out))) (below_size (by (repeat (first | (with_reducible first | exact HB.out | apply below_alloc | apply pw_below_drewN | apply below_drew1 | refine below_set ?_ (Aside0.out GE366) | refine below_set ?_ (Aside0.out GE371)) | exact HB.out)))))
                  have n5_ := Am (blk_below (g := gb366) (o := .cells #[.slice Ao13 t362.length co13, .bool t365] 33 (0, 0)) (by (with_reducible repeat (first | refine blk_drewN ?_ _ | refine blk_drew ?_ | refine blk_alloc ?_ _)); exact BK366.out) hb)
                  have n6_ := Am (blk_below (g := gb371) (o := .cells #[.slice Ao17 t367.length co17, .bool t370] 41 (0, 0)) (by (with_reducible repeat (first | refine blk_drewN ?_ _ | refine blk_drew ?_ | refine blk_alloc ?_ _)); exact BK371.out) hb)
                  have n7_ := Am (below_step (by (repeat (first | (with_reducible first | exact HB.out | apply below_alloc | apply pw_below_drewN | apply below_drew1 | refine below_set ?_ (Aside0.out GE366) | refine below_set ?_ (Aside0.out GE371)) | exact HB.out))) hb)
                  clear HO_2
                  clear HO_11
                  clear HO_367000
                  clear HO_372000
                  clear BK366
                  clear BK371
                  clear HB
                  have HO_2 := n0_
                  have HO_11 := n1_
                  have HO_367000 := n2_
                  have HO_372000 := n3_
                  have HO384 := n4_
                  have BK366 := n5_
                  have BK371 := n6_
                  have HB := n7_
                  clear n0_ n1_ n2_ n3_ n4_ n5_ n6_ n7_
                  (try clear hb)
                  (try clear hb2)
                  (try clear hk)
                  (try clear hi)
                  (try clear ho0)
                  refine hK.out _ _ ⟨(blk_cell BK366.out 0).trans rfl, (blk_cell BK366.out 1).trans rfl, HS2_⟩ (fun hHeld => ?_)
                  clear hK K
                  refine norm_ (a' := ?_) ?_ ?_
                  rotate_left
                  · show Act.put _ (some 60) _ = _
                    simp only [Act.put, List.setIfInBounds_toArray, List.set_cons_zero, List.set_cons_succ, i64_w, i32_w]
                    rfl
                  refine pure_ (i := 6) (N := some 54) (v := ?_) (a' := ?_) #[true, true, true, true, true, true, true, false, false, false, false, false, false] rfl rfl (any_of HT_.out (by kernel_rfl)) (fun _ _ _ h => h) (Or.inl ⟨by rfl, ?_⟩) ?_ ?_
                  rotate_left
                  · intro w'
                    go_simp
                    with_reducible rfl
                  rotate_left
                  · simp only [Act.put, List.setIfInBounds_toArray, List.set_cons_zero, List.set_cons_succ, i64_w, i32_w]
                    rfl
                  refine pure_ (i := 7) (N := some 61) (v := ?_) (a' := ?_) #[true, true, true, true, true, true, true, true, false, false, false, false, false] rfl rfl (any_of HT_.out (by kernel_rfl)) (fun _ _ _ h => h) (Or.inl ⟨by rfl, ?_⟩) ?_ ?_
                  rotate_left
                  · intro w'
                    go_simp
                    with_reducible rfl
                  rotate_left
                  · simp only [Act.put, List.setIfInBounds_toArray, List.set_cons_zero, List.set_cons_succ, i64_w, i32_w]
                    rfl
                  refine pure_ (i := 8) (N := some 62) (v := ?_) (a' := ?_) #[true, true, true, true, true, true, true, true, true, false, false, false, false] rfl rfl (any_of HT_.out (by kernel_rfl)) (fun _ _ _ h => h) (Or.inl ⟨by rfl, ?_⟩) ?_ ?_
                  rotate_left
                  · intro w'
                    go_simp
                    with_reducible rfl
                  rotate_left
                  · simp only [Act.put, List.setIfInBounds_toArray, List.set_cons_zero, List.set_cons_succ, i64_w, i32_w]
                    rfl
                  refine pure_ (i := 9) (N := some 63) (v := ?_) (a' := ?_) #[true, true, true, true, true, true, true, true, true, true, false, false, false] rfl rfl (any_of HT_.out (by kernel_rfl)) (fun _ _ _ h => h) (Or.inl ⟨by rfl, ?_⟩) ?_ ?_
                  rotate_left
                  · intro w'
                    go_simp
                    with_reducible rfl
                  rotate_left
                  · simp only [Act.put, List.setIfInBounds_toArray, List.set_cons_zero, List.set_cons_succ, i64_w, i32_w]
                    rfl
                  refine pure_ (i := 10) (N := some 13) (v := ?_) (a' := ?_) #[true, true, true, true, true, true, true, true, true, true, true, false, false] rfl rfl (any_of HT_.out (by kernel_rfl)) (fun _ _ _ h => h) (Or.inl ⟨by rfl, ?_⟩) ?_ ?_
                  rotate_left
                  · intro w'
                    go_simp
                    with_reducible rfl
                  rotate_left
                  · simp only [Act.put, List.setIfInBounds_toArray, List.set_cons_zero, List.set_cons_succ, i64_w, i32_w]
                    rfl
                  refine pure_ (i := 11) (N := some 14) (v := ?_) (a' := ?_) #[true, true, true, true, true, true, true, true, true, true, true, true, false] rfl rfl (any_of HT_.out (by kernel_rfl)) (fun _ _ _ h => h) (Or.inl ⟨by rfl, ?_⟩) ?_ ?_
                  rotate_left
                  · intro w'
                    go_simp
                    with_reducible rfl
                  rotate_left
                  · simp only [Act.put, List.setIfInBounds_toArray, List.set_cons_zero, List.set_cons_succ, i64_w, i32_w]
                    rfl
                  refine pure_ (i := 12) (N := some 15) (v := ?_) (a' := ?_) #[true, true, true, true, true, true, true, true, true, true, true, true, true] rfl rfl (any_of HT_.out (by kernel_rfl)) (fun _ _ _ h => h) (Or.inl ⟨by rfl, ?_⟩) ?_ ?_
                  rotate_left
                  · intro w'
                    go_simp
                    with_reducible rfl
                  rotate_left
                  · simp only [Act.put, List.setIfInBounds_toArray, List.set_cons_zero, List.set_cons_succ, i64_w, i32_w]
                    rfl
                  refine done_ (done_of HT_.out (by kernel_rfl)) ?_
                  try go_wp2
                  have n0_ := Am (Kd.R_drew HO_2.out)
                  have n1_ := Am (Kd.R_drew HO_11.out)
                  have n2_ := Am (Kd.N_drew HO_367000.out)
                  have n3_ := Am (Kd.N_drew HO_372000.out)
                  have n4_ := Am (Kd.R_drew HO384.out)
                  have n5_ := Am (blk_drew BK366.out)
                  have n6_ := Am (blk_drew BK371.out)
                  have n7_ := Am (below_drew1 HB.out)
                  clear HO_2
                  clear HO_11
                  clear HO_367000
                  clear HO_372000
                  clear HO384
                  clear BK366
                  clear BK371
                  clear HB
                  have HO_2 := n0_
                  have HO_11 := n1_
                  have HO_367000 := n2_
                  have HO_372000 := n3_
                  have HO384 := n4_
                  have BK366 := n5_
                  have BK371 := n6_
                  have HB := n7_
                  clear n0_ n1_ n2_ n3_ n4_ n5_ n6_ n7_
                  have p387 : 0 ≤ (x12_2 : Int) := of_decide_eq_true (by first | (with_reducible assumption) | assumption)
                  have q387 : x12_2 < (y378.length : Int) := of_decide_eq_true (by first | (with_reducible assumption) | assumption)
                  obtain ⟨ad387, e387, hx387_0⟩ := Kd.at_string (Kd.R_reads' HO_11.out).2.2 x12_2 p387 q387
                  obtain rfl : ad381 = ad387 := (by injection e387)
                  replace p387 := eq_true p387
                  replace q387 := eq_true q387
                  refine start_ (n := 13) (S := fun w' => w'.cell? ⟨gb371, 0, none⟩ = some (.slice Ao17 t367.length co17) ∧ w'.cell? ⟨gb371, 1, none⟩ = some (.bool t370) ∧ w'.cell? (ad381.add (x12_2).toNat) = some (.string (rdOf ByteArray.empty y378 x12_2))) (ds := []) #[false, false, false, false, false, false, false, false, false, false, false, false, false] (by kernel_rfl) rfl rfl ⟨(blk_cell BK371.out 0).trans rfl, (blk_cell BK371.out 1).trans rfl, hx387_0⟩ (fun hHeld => ?_); refine with_tabW ostiarylaw10_PolicyParses.tab12 ostiarylaw10_PolicyParses.bits12 (fun HT_ HW_ => ?_)
                  generalize w69.drew = w70 at HO_2 HO_11 HO_367000 HO_372000 HO384 BK366 BK371 HB hx387_0 hHeld ⊢
                  refine pure_ (i := 1) (N := some 66) (v := ?_) (a' := ?_) #[false, true, false, false, false, false, false, false, false, false, false, false, false] rfl rfl (any_of HT_.out (by kernel_rfl)) (fun _ _ _ h => h) (Or.inl ⟨by rfl, ?_⟩) ?_ ?_
                  rotate_left
                  · intro w'
                    go_simp
                    with_reducible rfl
                  rotate_left
                  · simp only [Act.put, List.setIfInBounds_toArray, List.set_cons_zero, List.set_cons_succ, i64_w, i32_w]
                    rfl
                  refine pure_ (i := 2) (N := some 67) (v := ?_) (a' := ?_) #[false, true, true, false, false, false, false, false, false, false, false, false, false] rfl rfl (any_of HT_.out (by kernel_rfl)) (fun _ _ _ h => h) (Or.inl ⟨by rfl, ?_⟩) ?_ ?_
                  rotate_left
                  · intro w'
                    go_simp
                    with_reducible rfl
                  rotate_left
                  · simp only [Act.put, List.setIfInBounds_toArray, List.set_cons_zero, List.set_cons_succ, i64_w, i32_w]
                    rfl
                  refine pure_ (i := 3) (N := some 68) (v := ?_) (a' := ?_) #[false, true, true, true, false, false, false, false, false, false, false, false, false] rfl rfl (any_of HT_.out (by kernel_rfl)) (fun _ _ _ h => h) (Or.inl ⟨by rfl, ?_⟩) ?_ ?_
                  rotate_left
                  · intro w'
                    go_simp
                    with_reducible rfl
                  rotate_left
                  · simp only [Act.put, List.setIfInBounds_toArray, List.set_cons_zero, List.set_cons_succ, i64_w, i32_w]
                    rfl
                  refine take_ (i := 0) (N := some 65) (v := ?_) (a' := ?_) #[true, true, true, true, false, false, false, false, false, false, false, false, false] rfl rfl (take_ofW HT_.out HW_.out (by kernel_rfl)) (fun _ _ _ h => h) (Or.inl ⟨by rfl, ?_⟩) hHeld ?_ ?_
                  rotate_left
                  · rintro w' ⟨s0, s1, s2⟩
                    go_simp
                    with_reducible rfl
                  rotate_left
                  · simp only [Act.put, List.setIfInBounds_toArray, List.set_cons_zero, List.set_cons_succ, i64_w, i32_w]
                    rfl
                  refine take_ (i := 4) (N := some 69) (v := ?_) (a' := ?_) #[true, true, true, true, true, false, false, false, false, false, false, false, false] rfl rfl (take_ofW HT_.out HW_.out (by kernel_rfl)) (fun _ _ _ h => h) (Or.inl ⟨by rfl, ?_⟩) hHeld ?_ ?_
                  rotate_left
                  · rintro w' ⟨s0, s1, s2⟩
                    go_simp
                    with_reducible rfl
                  rotate_left
                  · simp only [Act.put, List.setIfInBounds_toArray, List.set_cons_zero, List.set_cons_succ, i64_w, i32_w]
                    rfl
                  refine one_ (i := 5) (N := some 70) #[true, true, true, true, true, true, false, false, false, false, false, false, false] rfl rfl (one_of HT_.out (by kernel_rfl)) (by decide) (fun K hK => ?_)
                  refine goes_ Tryd.func23 (by kernel_rfl) rfl #[.agg #[.slice Ao17 t367.length co17, .bool t370], .string (rdOf ByteArray.empty y378 x12_2)] (by rfl) rfl rfl (by ((try simp only [List.map_toArray, List.map_cons, List.map_nil]); first | done | rfl | (simp only [List.length_drop, List.length_take]; rfl))) ?_
                  with_reducible refine (ostiaryref10_Values.calls k2 (fun k_ => ((some k_ ≠ (v360 : Value).ownBlock ∧ (some k_ ≠ (.slice (some ad381) y378.length co67 : Value).ownBlock ∧ (some k_ ≠ (.slice Ao13 t362.length co13 : Value).ownBlock ∧ (k_ ≠ gb366 ∧ k_ ≠ gb371)))) ∧ some k_ ≠ (v383 : Value).ownBlock)) _ _ t367 t370 (rdOf ByteArray.empty y378 x12_2) t388 t391 t392 _ ?side1 A41.out).mono ?_
                  (case side1 => exact Kd.N_V (HO_372000.out))
                  rintro e w71 ⟨v389, rfl, ho0, hb⟩
                  have HS2_ := (hb.cell (World.block_lt_of_cell? _ _ (hHeld.2.2))).trans (hHeld.2.2)
                  refine ⟨_, rfl, ?_⟩
                  have n0_ := Am (Kd.R_below (by (with_reducible repeat (first | apply Kd.R_alloc | apply Kd.R_drewN | apply Kd.R_drew)); exact HO_2.out) hb)
                  have n1_ := Am (Kd.R_below (by (with_reducible repeat (first | apply Kd.R_alloc | apply Kd.R_drewN | apply Kd.R_drew)); exact HO_11.out) hb)
                  have n2_ := Am (Kd.N_below (by (with_reducible repeat (first | apply Kd.N_alloc | apply Kd.N_drewN | apply Kd.N_drew)); exact HO_367000.out) hb)
                  have n3_ := Am (Kd.N_below (by (with_reducible repeat (first | apply Kd.N_alloc | apply Kd.N_drewN | apply Kd.N_drew)); exact HO_372000.out) hb)
                  have n4_ := Am (Kd.R_below (by (with_reducible repeat (first | apply Kd.R_alloc | apply Kd.R_drewN | apply Kd.R_drew)); exact HO384.out) hb)
                  have n5_ := Am (Kd.V_lower (Kd.V_mono (ok' := fun k_ => some k_ ≠ (v360 : Value).ownBlock ∧ some k_ ≠ (.slice (some ad381) y378.length co67 : Value).ownBlock ∧ some k_ ≠ (.slice Ao13 t362.length co13 : Value).ownBlock ∧ some k_ ≠ (v383 : Value).ownBlock ∧ k_ ≠ gb366 ∧ k_ ≠ gb371) ho0 (fun k_ hk_ => ⟨Or.elim hk_ (fun hs_ => hs_.1.1) (fun hn_ => (Kd.fresh' (Kd.R_lt (by (with_reducible repeat (first | apply Kd.R_alloc | apply Kd.R_drewN | apply Kd.R_drew)); exact HO_2.out)) k_ hn_)), Or.elim hk_ (fun hs_ => hs_.1.2.1) (fun hn_ => (Kd.fresh' (Kd.R_lt (by (with_reducible repeat (first | apply Kd.R_alloc | apply Kd.R_drewN | apply Kd.R_drew)); exact HO_11.out)) k_ hn_)), Or.elim hk_ (fun hs_ => hs_.1.2.2.1) (fun hn_ => (Kd.fresh' (Kd.N_lt (by (with_reducible repeat (first | apply Kd.N_alloc | apply Kd.N_drewN | apply Kd.N_drew)); exact HO_367000.out)) k_ hn_)), Or.elim hk_ (fun hs_ => hs_.2) (fun hn_ => (Kd.fresh' (Kd.R_lt (by (with_reducible repeat (first | apply Kd.R_alloc | apply Kd.R_drewN | apply Kd.R_drew)); exact HO384.out)) k_ hn_)), Or.elim hk_ (fun hs_ => hs_.1.2.2.2.1) (fun hn_ => (Kd.freshB (g := gb366) (o := .cells #[.slice Ao13 t362.length co13, .bool t365] 33 (0, 0)) (by (with_reducible repeat (first | refine blk_drewN ?_ _ | refine blk_drew ?_ | refine blk_alloc ?_ _)); exact BK366.out) k_ hn_)), Or.elim hk_ (fun hs_ => hs_.1.2.2.2.2) (fun hn_ => (Kd.freshB (g := gb371) (o := .cells #[.slice Ao17 t367.length co17, .bool t370] 41 (0, 0)) (by (with_reducible repeat (first | refine blk_drewN ?_ _ | refine blk_drew ?_ | refine blk_alloc ?_ _)); exact BK371.out) k_ hn_))⟩)) (below_size (by (repeat (first | (with_reducible first | exact HB.out | apply below_alloc | apply pw_below_drewN | apply below_drew1 | refine below_set ?_ (Aside0.out GE366) | refine below_set ?_ (Aside0.out GE371)) | exact HB.out)))))
                  have n6_ := Am (blk_below (g := gb366) (o := .cells #[.slice Ao13 t362.length co13, .bool t365] 33 (0, 0)) (by (with_reducible repeat (first | refine blk_drewN ?_ _ | refine blk_drew ?_ | refine blk_alloc ?_ _)); exact BK366.out) hb)
                  have n7_ := Am (blk_below (g := gb371) (o := .cells #[.slice Ao17 t367.length co17, .bool t370] 41 (0, 0)) (by (with_reducible repeat (first | refine blk_drewN ?_ _ | refine blk_drew ?_ | refine blk_alloc ?_ _)); exact BK371.out) hb)
                  have n8_ := Am (below_step (by (repeat (first | (with_reducible first | exact HB.out | apply below_alloc | apply pw_below_drewN | apply below_drew1 | refine below_set ?_ (Aside0.out GE366) | refine below_set ?_ (Aside0.out GE371)) | exact HB.out))) hb)
                  clear HO_2
                  clear HO_11
                  clear HO_367000
                  clear HO_372000
                  clear HO384
                  clear BK366
                  clear BK371
                  clear HB
                  have HO_2 := n0_
                  have HO_11 := n1_
                  have HO_367000 := n2_
                  have HO_372000 := n3_
                  have HO384 := n4_
                  have HO390 := n5_
                  have BK366 := n6_
                  have BK371 := n7_
                  have HB := n8_
                  clear n0_ n1_ n2_ n3_ n4_ n5_ n6_ n7_ n8_
                  (try clear hb)
                  (try clear hb2)
                  (try clear hk)
                  (try clear hi)
                  (try clear ho0)
                  refine hK.out _ _ ⟨(blk_cell BK371.out 0).trans rfl, (blk_cell BK371.out 1).trans rfl, HS2_⟩ (fun hHeld => ?_)
                  clear hK K
                  refine norm_ (a' := ?_) ?_ ?_
                  rotate_left
                  · show Act.put _ (some 70) _ = _
                    simp only [Act.put, List.setIfInBounds_toArray, List.set_cons_zero, List.set_cons_succ, i64_w, i32_w]
                    rfl
                  refine pure_ (i := 6) (N := some 64) (v := ?_) (a' := ?_) #[true, true, true, true, true, true, true, false, false, false, false, false, false] rfl rfl (any_of HT_.out (by kernel_rfl)) (fun _ _ _ h => h) (Or.inl ⟨by rfl, ?_⟩) ?_ ?_
                  rotate_left
                  · intro w'
                    go_simp
                    with_reducible rfl
                  rotate_left
                  · simp only [Act.put, List.setIfInBounds_toArray, List.set_cons_zero, List.set_cons_succ, i64_w, i32_w]
                    rfl
                  refine pure_ (i := 7) (N := some 71) (v := ?_) (a' := ?_) #[true, true, true, true, true, true, true, true, false, false, false, false, false] rfl rfl (any_of HT_.out (by kernel_rfl)) (fun _ _ _ h => h) (Or.inl ⟨by rfl, ?_⟩) ?_ ?_
                  rotate_left
                  · intro w'
                    go_simp
                    with_reducible rfl
                  rotate_left
                  · simp only [Act.put, List.setIfInBounds_toArray, List.set_cons_zero, List.set_cons_succ, i64_w, i32_w]
                    rfl
                  refine pure_ (i := 8) (N := some 72) (v := ?_) (a' := ?_) #[true, true, true, true, true, true, true, true, true, false, false, false, false] rfl rfl (any_of HT_.out (by kernel_rfl)) (fun _ _ _ h => h) (Or.inl ⟨by rfl, ?_⟩) ?_ ?_
                  rotate_left
                  · intro w'
                    go_simp
                    with_reducible rfl
                  rotate_left
                  · simp only [Act.put, List.setIfInBounds_toArray, List.set_cons_zero, List.set_cons_succ, i64_w, i32_w]
                    rfl
                  refine pure_ (i := 9) (N := some 73) (v := ?_) (a' := ?_) #[true, true, true, true, true, true, true, true, true, true, false, false, false] rfl rfl (any_of HT_.out (by kernel_rfl)) (fun _ _ _ h => h) (Or.inl ⟨by rfl, ?_⟩) ?_ ?_
                  rotate_left
                  · intro w'
                    go_simp
                    with_reducible rfl
                  rotate_left
                  · simp only [Act.put, List.setIfInBounds_toArray, List.set_cons_zero, List.set_cons_succ, i64_w, i32_w]
                    rfl
                  refine pure_ (i := 10) (N := some 16) (v := ?_) (a' := ?_) #[true, true, true, true, true, true, true, true, true, true, true, false, false] rfl rfl (any_of HT_.out (by kernel_rfl)) (fun _ _ _ h => h) (Or.inl ⟨by rfl, ?_⟩) ?_ ?_
                  rotate_left
                  · intro w'
                    go_simp
                    with_reducible rfl
                  rotate_left
                  · simp only [Act.put, List.setIfInBounds_toArray, List.set_cons_zero, List.set_cons_succ, i64_w, i32_w]
                    rfl
                  refine pure_ (i := 11) (N := some 17) (v := ?_) (a' := ?_) #[true, true, true, true, true, true, true, true, true, true, true, true, false] rfl rfl (any_of HT_.out (by kernel_rfl)) (fun _ _ _ h => h) (Or.inl ⟨by rfl, ?_⟩) ?_ ?_
                  rotate_left
                  · intro w'
                    go_simp
                    with_reducible rfl
                  rotate_left
                  · simp only [Act.put, List.setIfInBounds_toArray, List.set_cons_zero, List.set_cons_succ, i64_w, i32_w]
                    rfl
                  refine pure_ (i := 12) (N := some 18) (v := ?_) (a' := ?_) #[true, true, true, true, true, true, true, true, true, true, true, true, true] rfl rfl (any_of HT_.out (by kernel_rfl)) (fun _ _ _ h => h) (Or.inl ⟨by rfl, ?_⟩) ?_ ?_
                  rotate_left
                  · intro w'
                    go_simp
                    with_reducible rfl
                  rotate_left
                  · simp only [Act.put, List.setIfInBounds_toArray, List.set_cons_zero, List.set_cons_succ, i64_w, i32_w]
                    rfl
                  refine done_ (done_of HT_.out (by kernel_rfl)) ?_
                  obtain ⟨Ao72, co72, eo72⟩ := Kd.R_slice HO384.out
                  subst eo72
                  obtain ⟨Ao73, co73, eo73⟩ := Kd.V_slice HO390.out
                  subst eo73
                  try go_wp2_with (first | ((with_reducible refine gate_callee (f := 8) rfl ?_); refine goesL_ (some 76) rfl rfl Tryd.func8 (by kernel_rfl) rfl #[.slice Ao72 t382.length co72, .slice Ao73 t388.length co73] rfl (by ((try simp only [List.map_toArray, List.map_cons, List.map_nil]); first | done | rfl | (simp only [List.length_drop, List.length_take]; rfl))) ?_; (with_reducible refine (ostiarybook_Same_string.calls k2 _ _ t382 _ _ t388 false _ ?side1 ?side2 ?side3 ?side4 A42.out).mono ?_); (case side1 => repeat (first | exact (Kd.R_reads' HO384.out).2.2 | (first | (with_reducible refine Kd.C_alloc ?_ _) | (with_reducible refine Kd.C_drewN ?_ _) | (with_reducible refine Kd.C_drew ?_)))); (case side2 => exact (Kd.R_reads' HO384.out).2.1); (case side3 => repeat (first | exact (Kd.V_reads' HO390.out).2.2 | (first | (with_reducible refine Kd.C_alloc ?_ _) | (with_reducible refine Kd.C_drewN ?_ _) | (with_reducible refine Kd.C_drew ?_)))); (case side4 => exact (Kd.V_reads' HO390.out).2.1); rintro e w' ⟨rfl, ⟨nd, rfl⟩⟩; refine ⟨_, rfl, ?_⟩))
                  go_ret
                  exact ⟨by (first | rfl | (simp [errW_none, errW_some] <;> rfl) | (simp [*, errW_none, errW_some] <;> rfl)), by (repeat (first | (with_reducible first | exact HB.out | apply below_alloc | apply pw_below_drewN | apply below_drew1 | refine below_set ?_ (Aside0.out GE366) | refine below_set ?_ (Aside0.out GE371)) | exact HB.out))⟩
              · rw [if_neg c39] at H
                exact absurd H (by simp)
            · rw [if_neg c38] at H
              have c38b0 : decide (x12_2 < (y378.length : Int)) = false := decide_eq_false c38
              clear c38
              replace H := Option.bind_eq_some_iff.mp H
              obtain ⟨t394, A740, H⟩ := H
              replace H : ((ostiaryref10_From.f k2 t359).bind fun t397 => (if (t394.length : Int) = (t397.length : Int) then (ostiarylaw10_PolicyParses.l1 k2 t394 t397 0) else (some false))) = some r := H
              have A74 := Aside0.mk A740
              clear A740
              replace H := Option.bind_eq_some_iff.mp H
              obtain ⟨t397, A750, H⟩ := H
              replace H : (if (t394.length : Int) = (t397.length : Int) then (ostiarylaw10_PolicyParses.l1 k2 t394 t397 0) else (some false)) = some r := H
              have A75 := Aside0.mk A750
              clear A750
              by_cases c76 : (t394.length : Int) = (t397.length : Int)
              · rw [if_pos c76] at H
                have c76b0 : ((t394.length : Int) == (t397.length : Int)) = true := beq_iff_eq.mpr c76
                have c76b1 : ((t394.length : Int) != (t397.length : Int)) = false := bne_eq_false_iff_eq.mpr c76
                have c76b2 : (t394.length == t397.length) = true := by first | simpa using c76 | (simp at c76 ⊢; omega)
                clear c76
                have H' := Aside0.mk H
                clear H
                obtain ⟨Ao77, co77, eo77⟩ := Kd.R_slice HO_11.out
                subst eo77
                obtain ⟨Ao78, co78, eo78⟩ := Kd.R_slice HO_2.out
                subst eo78
                go_wp2_with (first | ((with_reducible refine gate_callee (f := 13) rfl ?_); refine goesL_ (some 89) rfl rfl Tryd.func13 (by kernel_rfl) rfl #[.slice Ao78 t359.length co78] rfl (by ((try simp only [List.map_toArray, List.map_cons, List.map_nil]); first | done | rfl | (simp only [List.length_drop, List.length_take]; rfl))) ?_; (with_reducible refine (policy_From.calls k2 _ _ t359 t394 _ ?side1 ?side2 A74.out).mono ?_); (case side1 => repeat (first | exact (Kd.R_reads' HO_2.out).2.2 | (first | (with_reducible refine Kd.C_alloc ?_ _) | (with_reducible refine Kd.C_drewN ?_ _) | (with_reducible refine Kd.C_drew ?_)))); (case side2 => exact (Kd.R_reads' HO_2.out).2.1); rintro e w79 ⟨v395, rfl, ho0, hb⟩; refine ⟨_, rfl, ?_⟩; have n0_ := Am (Kd.R_below (by (with_reducible repeat (first | apply Kd.R_alloc | apply Kd.R_drewN | apply Kd.R_drew)); exact HO_2.out) hb); have n1_ := Am (Kd.R_below (by (with_reducible repeat (first | apply Kd.R_alloc | apply Kd.R_drewN | apply Kd.R_drew)); exact HO_11.out) hb); have n2_ := Am (Kd.N_elder' (by (with_reducible repeat (first | apply Kd.N_alloc | apply Kd.N_drewN | apply Kd.N_drew)); exact HO_367000.out) (by first | exact Kd.N_base ho0 | exact Kd.R_base ho0) hb); have n3_ := Am (Kd.N_elder' (by (with_reducible repeat (first | apply Kd.N_alloc | apply Kd.N_drewN | apply Kd.N_drew)); exact HO_372000.out) (by first | exact Kd.N_base ho0 | exact Kd.R_base ho0) hb); have n4_ := Am (Kd.N_lower (Kd.N_mono (ok' := fun k_ => some k_ ≠ (.slice Ao78 t359.length co78 : Value).ownBlock ∧ some k_ ≠ (.slice Ao77 y378.length co77 : Value).ownBlock ∧ some k_ ≠ (.slice Ao13 t362.length co13 : Value).ownBlock ∧ some k_ ≠ (.slice Ao17 t367.length co17 : Value).ownBlock ∧ k_ ≠ gb366 ∧ k_ ≠ gb371) (Kd.R_N (Kd.R_bound ho0)) (fun k_ hk_ => ⟨(Kd.fresh' (Kd.R_lt (by (with_reducible repeat (first | apply Kd.R_alloc | apply Kd.R_drewN | apply Kd.R_drew)); exact HO_2.out)) k_ hk_.2.1), (Kd.fresh' (Kd.R_lt (by (with_reducible repeat (first | apply Kd.R_alloc | apply Kd.R_drewN | apply Kd.R_drew)); exact HO_11.out)) k_ hk_.2.1), (Kd.fresh' (Kd.N_lt (by (with_reducible repeat (first | apply Kd.N_alloc | apply Kd.N_drewN | apply Kd.N_drew)); exact HO_367000.out)) k_ hk_.2.1), (Kd.fresh' (Kd.N_lt (by (with_reducible repeat (first | apply Kd.N_alloc | apply Kd.N_drewN | apply Kd.N_drew)); exact HO_372000.out)) k_ hk_.2.1), (Kd.freshB (g := gb366) (o := .cells #[.slice Ao13 t362.length co13, .bool t365] 33 (0, 0)) (by (with_reducible repeat (first | refine blk_drewN ?_ _ | refine blk_drew ?_ | refine blk_alloc ?_ _)); exact BK366.out) k_ hk_.2.1), (Kd.freshB (g := gb371) (o := .cells #[.slice Ao17 t367.length co17, .bool t370] 41 (0, 0)) (by (with_reducible repeat (first | refine blk_drewN ?_ _ | refine blk_drew ?_ | refine blk_alloc ?_ _)); exact BK371.out) k_ hk_.2.1)⟩)) (below_size (by (repeat (first | (with_reducible first | exact HB.out | apply below_alloc | apply pw_below_drewN | apply below_drew1 | refine below_set ?_ (Aside0.out GE366) | refine below_set ?_ (Aside0.out GE371)) | exact HB.out))))); have n5_ := Am (blk_below (g := gb366) (o := .cells #[.slice Ao13 t362.length co13, .bool t365] 33 (0, 0)) (by (with_reducible repeat (first | refine blk_drewN ?_ _ | refine blk_drew ?_ | refine blk_alloc ?_ _)); exact BK366.out) hb); have n6_ := Am (blk_below (g := gb371) (o := .cells #[.slice Ao17 t367.length co17, .bool t370] 41 (0, 0)) (by (with_reducible repeat (first | refine blk_drewN ?_ _ | refine blk_drew ?_ | refine blk_alloc ?_ _)); exact BK371.out) hb); have n7_ := Am (below_step (by (repeat (first | (with_reducible first | exact HB.out | apply below_alloc | apply pw_below_drewN | apply below_drew1 | refine below_set ?_ (Aside0.out GE366) | refine below_set ?_ (Aside0.out GE371)) | exact HB.out))) hb); clear HO_2; clear HO_11; clear HO_367000; clear HO_372000; clear BK366; clear BK371; clear HB; have HO_2 := n0_; have HO_11 := n1_; have HO_367000 := n2_; have HO_372000 := n3_; have HO396 := n4_; have BK366 := n5_; have BK371 := n6_; have HB := n7_; clear n0_ n1_ n2_ n3_ n4_ n5_ n6_ n7_; ((try clear hb); (try clear hb2); (try clear hk); (try clear hi); (try clear ho0))) | ((with_reducible refine gate_callee (f := 24) rfl ?_); refine goesL_ (some 91) rfl rfl Tryd.func24 (by kernel_rfl) rfl #[.slice Ao78 t359.length co78] rfl (by ((try simp only [List.map_toArray, List.map_cons, List.map_nil]); first | done | rfl | (simp only [List.length_drop, List.length_take]; rfl))) ?_; (with_reducible refine (ostiaryref10_From.calls k2 _ _ t359 t397 _ ?side1 ?side2 A75.out).mono ?_); (case side1 => repeat (first | exact (Kd.R_reads' HO_2.out).2.2 | (first | (with_reducible refine Kd.C_alloc ?_ _) | (with_reducible refine Kd.C_drewN ?_ _) | (with_reducible refine Kd.C_drew ?_)))); (case side2 => exact (Kd.R_reads' HO_2.out).2.1); rintro e w80 ⟨v398, rfl, ho0, hb⟩; refine ⟨_, rfl, ?_⟩; have n0_ := Am (Kd.R_below (by (with_reducible repeat (first | apply Kd.R_alloc | apply Kd.R_drewN | apply Kd.R_drew)); exact HO_2.out) hb); have n1_ := Am (Kd.R_below (by (with_reducible repeat (first | apply Kd.R_alloc | apply Kd.R_drewN | apply Kd.R_drew)); exact HO_11.out) hb); have n2_ := Am (Kd.N_elder' (by (with_reducible repeat (first | apply Kd.N_alloc | apply Kd.N_drewN | apply Kd.N_drew)); exact HO_367000.out) (by first | exact Kd.N_base ho0 | exact Kd.R_base ho0) hb); have n3_ := Am (Kd.N_elder' (by (with_reducible repeat (first | apply Kd.N_alloc | apply Kd.N_drewN | apply Kd.N_drew)); exact HO_372000.out) (by first | exact Kd.N_base ho0 | exact Kd.R_base ho0) hb); have n4_ := Am (Kd.N_elder' (by (with_reducible repeat (first | apply Kd.N_alloc | apply Kd.N_drewN | apply Kd.N_drew)); exact HO396.out) (by first | exact Kd.N_base ho0 | exact Kd.R_base ho0) hb); have n5_ := Am (Kd.N_lower (Kd.N_mono (ok' := fun k_ => some k_ ≠ (.slice Ao78 t359.length co78 : Value).ownBlock ∧ some k_ ≠ (.slice Ao77 y378.length co77 : Value).ownBlock ∧ some k_ ≠ (.slice Ao13 t362.length co13 : Value).ownBlock ∧ some k_ ≠ (.slice Ao17 t367.length co17 : Value).ownBlock ∧ some k_ ≠ (v395 : Value).ownBlock ∧ k_ ≠ gb366 ∧ k_ ≠ gb371) ho0 (fun k_ hk_ => ⟨(Kd.fresh' (Kd.R_lt (by (with_reducible repeat (first | apply Kd.R_alloc | apply Kd.R_drewN | apply Kd.R_drew)); exact HO_2.out)) k_ hk_), (Kd.fresh' (Kd.R_lt (by (with_reducible repeat (first | apply Kd.R_alloc | apply Kd.R_drewN | apply Kd.R_drew)); exact HO_11.out)) k_ hk_), (Kd.fresh' (Kd.N_lt (by (with_reducible repeat (first | apply Kd.N_alloc | apply Kd.N_drewN | apply Kd.N_drew)); exact HO_367000.out)) k_ hk_), (Kd.fresh' (Kd.N_lt (by (with_reducible repeat (first | apply Kd.N_alloc | apply Kd.N_drewN | apply Kd.N_drew)); exact HO_372000.out)) k_ hk_), (Kd.fresh' (Kd.N_lt (by (with_reducible repeat (first | apply Kd.N_alloc | apply Kd.N_drewN | apply Kd.N_drew)); exact HO396.out)) k_ hk_), (Kd.freshB (g := gb366) (o := .cells #[.slice Ao13 t362.length co13, .bool t365] 33 (0, 0)) (by (with_reducible repeat (first | refine blk_drewN ?_ _ | refine blk_drew ?_ | refine blk_alloc ?_ _)); exact BK366.out) k_ hk_), (Kd.freshB (g := gb371) (o := .cells #[.slice Ao17 t367.length co17, .bool t370] 41 (0, 0)) (by (with_reducible repeat (first | refine blk_drewN ?_ _ | refine blk_drew ?_ | refine blk_alloc ?_ _)); exact BK371.out) k_ hk_)⟩)) (below_size (by (repeat (first | (with_reducible first | exact HB.out | apply below_alloc | apply pw_below_drewN | apply below_drew1 | refine below_set ?_ (Aside0.out GE366) | refine below_set ?_ (Aside0.out GE371)) | exact HB.out))))); have n6_ := Am (blk_below (g := gb366) (o := .cells #[.slice Ao13 t362.length co13, .bool t365] 33 (0, 0)) (by (with_reducible repeat (first | refine blk_drewN ?_ _ | refine blk_drew ?_ | refine blk_alloc ?_ _)); exact BK366.out) hb); have n7_ := Am (blk_below (g := gb371) (o := .cells #[.slice Ao17 t367.length co17, .bool t370] 41 (0, 0)) (by (with_reducible repeat (first | refine blk_drewN ?_ _ | refine blk_drew ?_ | refine blk_alloc ?_ _)); exact BK371.out) hb); have n8_ := Am (below_step (by (repeat (first | (with_reducible first | exact HB.out | apply below_alloc | apply pw_below_drewN | apply below_drew1 | refine below_set ?_ (Aside0.out GE366) | refine below_set ?_ (Aside0.out GE371)) | exact HB.out))) hb); clear HO_2; clear HO_11; clear HO_367000; clear HO_372000; clear HO396; clear BK366; clear BK371; clear HB; have HO_2 := n0_; have HO_11 := n1_; have HO_367000 := n2_; have HO_372000 := n3_; have HO396 := n4_; have HO399 := n5_; have BK366 := n6_; have BK371 := n7_; have HB := n8_; clear n0_ n1_ n2_ n3_ n4_ n5_ n6_ n7_ n8_; ((try clear hb); (try clear hb2); (try clear hk); (try clear hi); (try clear ho0)); obtain ⟨Ao81, co81, eo81⟩ := Kd.N_slice HO396.out; subst eo81; obtain ⟨Ao82, co82, eo82⟩ := Kd.N_slice HO399.out; subst eo82))
                go_loopg [21] k2 (fun kq v21 w' => ∃ (x21_3 : Int), v21 = .int .i64 x21_3 ∧ Aside0 (ostiarylaw10_PolicyParses.l1 kq t394 t397 x21_3 = some r) ∧ Aside0 (kq ≤ k2) ∧ Aside0 (Kd.N k33 33 w' w.heap.size (fun k_ => some k_ ≠ ((.slice Ao82 t397.length co82) : Value).ownBlock ∧ some k_ ≠ ((.slice Ao13 t362.length co13) : Value).ownBlock ∧ some k_ ≠ ((.slice Ao17 t367.length co17) : Value).ownBlock ∧ k_ ≠ gb366 ∧ k_ ≠ gb371) (.slice Ao81 t394.length co81) t394) ∧ Aside0 (Kd.N k41 41 w' w.heap.size (fun k_ => some k_ ≠ ((.slice Ao81 t394.length co81) : Value).ownBlock ∧ some k_ ≠ ((.slice Ao13 t362.length co13) : Value).ownBlock ∧ some k_ ≠ ((.slice Ao17 t367.length co17) : Value).ownBlock ∧ k_ ≠ gb366 ∧ k_ ≠ gb371) (.slice Ao82 t397.length co82) t397) ∧ Aside0 (Kd.N k52 52 w' w.heap.size (fun k_ => some k_ ≠ ((.slice Ao81 t394.length co81) : Value).ownBlock ∧ some k_ ≠ ((.slice Ao82 t397.length co82) : Value).ownBlock ∧ some k_ ≠ ((.slice Ao17 t367.length co17) : Value).ownBlock ∧ k_ ≠ gb366 ∧ k_ ≠ gb371) (.slice Ao13 t362.length co13) t362) ∧ Aside0 (Kd.N k69 69 w' w.heap.size (fun k_ => some k_ ≠ ((.slice Ao81 t394.length co81) : Value).ownBlock ∧ some k_ ≠ ((.slice Ao82 t397.length co82) : Value).ownBlock ∧ some k_ ≠ ((.slice Ao13 t362.length co13) : Value).ownBlock ∧ k_ ≠ gb366 ∧ k_ ≠ gb371) (.slice Ao17 t367.length co17) t367) ∧ Aside0 (w'.heap[gb366]? = some (.cells #[(.slice Ao13 t362.length co13), .bool t365] 33 (0, 0))) ∧ Aside0 (w'.heap[gb371]? = some (.cells #[(.slice Ao17 t367.length co17), .bool t370] 41 (0, 0))) ∧ Aside0 (Below w.heap.size w w'))
                case atStart => exact ⟨(0), (by first | rfl | (simp; done) | (simp [*]; done)), H', ⟨Nat.le_refl _⟩, ⟨by (with_reducible repeat (first | apply Kd.N_alloc | apply Kd.N_drewN | apply Kd.N_drew)); exact Kd.N_mono HO396.out (fun _ hk => ⟨hk.2, ⟨hk.1.2.2.1, ⟨hk.1.2.2.2.1, ⟨hk.1.2.2.2.2.1, hk.1.2.2.2.2.2⟩⟩⟩⟩)⟩, ⟨by (with_reducible repeat (first | apply Kd.N_alloc | apply Kd.N_drewN | apply Kd.N_drew)); exact Kd.N_mono HO399.out (fun _ hk => ⟨hk.2.2.2.2.1, ⟨hk.2.2.1, ⟨hk.2.2.2.1, ⟨hk.2.2.2.2.2.1, hk.2.2.2.2.2.2⟩⟩⟩⟩)⟩, ⟨by (with_reducible repeat (first | apply Kd.N_alloc | apply Kd.N_drewN | apply Kd.N_drew)); exact Kd.N_mono HO_367000.out (fun _ hk => ⟨hk.1.2, ⟨hk.2, ⟨hk.1.1.2.2.1, ⟨hk.1.1.2.2.2.1, hk.1.1.2.2.2.2⟩⟩⟩⟩)⟩, ⟨by (with_reducible repeat (first | apply Kd.N_alloc | apply Kd.N_drewN | apply Kd.N_drew)); exact Kd.N_mono HO_372000.out (fun _ hk => ⟨hk.1.2, ⟨hk.2, ⟨hk.1.1.2.2.1, ⟨hk.1.1.2.2.2.1, hk.1.1.2.2.2.2⟩⟩⟩⟩)⟩, ⟨by (with_reducible repeat (first | refine blk_drewN ?_ _ | refine blk_drew ?_ | refine blk_alloc ?_ _)); exact BK366.out⟩, ⟨by (with_reducible repeat (first | refine blk_drewN ?_ _ | refine blk_drew ?_ | refine blk_alloc ?_ _)); exact BK371.out⟩, ⟨by (repeat (first | (with_reducible first | exact HB.out | apply below_alloc | apply pw_below_drewN | apply below_drew1 | refine below_set ?_ (Aside0.out GE366) | refine below_set ?_ (Aside0.out GE371)) | exact HB.out))⟩⟩
                case round =>
                  clear H'
                  try clear c1
                  try clear c2
                  try clear p2
                  try clear c3
                  try clear p3
                  try clear q3
                  try clear hx3
                  try clear c4
                  try clear c7
                  try clear c8
                  try clear c13
                  try clear c22
                  try clear c23
                  try clear c24
                  try clear c38
                  try clear c38b0
                  try clear p38
                  try clear q38
                  try clear hx38
                  try clear c39
                  try clear c43
                  try clear c76
                  try clear c76b0
                  try clear c76b1
                  try clear c76b2
                  try clear hx381_0
                  try clear hx387_0
                  try clear p381
                  try clear p387
                  try clear q381
                  try clear q387
                  obtain ⟨x21_3, rfl, HA, HK3, HO_19, HO_20, HO_367000, HO_372000, BK366, BK371, HB⟩ := hrel
                  cases gk with
                  | zero => exact absurd HA.out (by simp [ostiarylaw10_PolicyParses.l1])
                  | succ k3 =>
                    have H := HA.out
                    clear HA
                    simp only [ostiarylaw10_PolicyParses.l1] at H
                    by_cases c83 : x21_3 < (t394.length : Int)
                    · rw [if_pos c83] at H
                      have c83b0 : decide (x21_3 < (t394.length : Int)) = true := decide_eq_true c83
                      clear c83
                      by_cases c84 : 0 ≤ x21_3
                      · rw [if_pos c84] at H
                        have c84b0 : decide (0 ≤ x21_3) = true := decide_eq_true c84
                        clear c84
                        by_cases c85 : x21_3 < (t397.length : Int)
                        · rw [if_pos c85] at H
                          have c85b0 : decide (x21_3 < (t397.length : Int)) = true := decide_eq_true c85
                          clear c85
                          replace H := Option.bind_eq_some_iff.mp H
                          obtain ⟨t402, A860, H⟩ := H
                          replace H : (if t402 = true then (ostiarylaw10_PolicyParses.l1 k3 t394 t397 (wrap64 (x21_3 + 1))) else (some false)) = some r := H
                          have A86 := Aside0.mk A860
                          clear A860
                          by_cases c87 : t402 = true
                          · subst c87
                            have H1 : (ostiarylaw10_PolicyParses.l1 k3 t394 t397 (wrap64 (x21_3 + 1))) = some r := by rw [if_pos rfl] at H; exact H
                            clear H
                            have H := H1
                            clear H1
                            have H' := Aside0.mk H
                            clear H
                            try go_wp2
                            have n0_ := Am (Kd.N_drew HO_19.out)
                            have n1_ := Am (Kd.N_drew HO_20.out)
                            have n2_ := Am (Kd.N_drew HO_367000.out)
                            have n3_ := Am (Kd.N_drew HO_372000.out)
                            have n4_ := Am (blk_drew BK366.out)
                            have n5_ := Am (blk_drew BK371.out)
                            have n6_ := Am (below_drew1 HB.out)
                            clear HO_19
                            clear HO_20
                            clear HO_367000
                            clear HO_372000
                            clear BK366
                            clear BK371
                            clear HB
                            have HO_19 := n0_
                            have HO_20 := n1_
                            have HO_367000 := n2_
                            have HO_372000 := n3_
                            have BK366 := n4_
                            have BK371 := n5_
                            have HB := n6_
                            clear n0_ n1_ n2_ n3_ n4_ n5_ n6_
                            have p400 : 0 ≤ (x21_3 : Int) := of_decide_eq_true (by first | (with_reducible assumption) | assumption)
                            have q400 : x21_3 < (t394.length : Int) := of_decide_eq_true (by first | (with_reducible assumption) | assumption)
                            obtain ⟨ad400, A400_0, c400_0, e400, hx400_0, hx400_1, hl400_0, hi400_0⟩ := at_T33 (Kd.N_reads' HO_19.out).2.2 x21_3 p400 q400
                            cases e400
                            obtain ⟨ce400, hce400, hMe400, hcc400⟩ := Kd.N_get HO_19.out z33 x21_3 p400 (by first | exact q400 | exact of_decide_eq_true (by first | (with_reducible assumption) | assumption) | (have e_ := (Kd.N_reads' HO_19.out).1; omega))
                            obtain ⟨ua400_0, uc400_0, rfl, ul400_0, ge400_0⟩ := k33_openF hMe400
                            have hv400_0 := hcc400 0 _ rfl
                            rw [Nat.add_zero] at hv400_0
                            replace hv400_0 := Option.some.inj (hv400_0.symm.trans hx400_0)
                            injection hv400_0 with hva_ hvn_ hvc_
                            rw [hva_] at ge400_0
                            rw [hvc_] at ul400_0
                            have HL400_0 := Am (show Kd.V k52 52 _ w.heap.size _ _ ((rd_T33 t394 x21_3).f0) from Kd.V_mk ul400_0 ge400_0)
                            clear hva_ hvn_ hvc_ ge400_0 ul400_0
                            clear hcc400 hce400
                            have HR400_0 := Aside0.mk hi400_0
                            have HC400_0 := Aside0.mk hl400_0
                            clear hi400_0 hl400_0
                            replace p400 := eq_true p400
                            replace q400 := eq_true q400
                            have p401 : 0 ≤ (x21_3 : Int) := of_decide_eq_true (by first | (with_reducible assumption) | assumption)
                            have q401 : x21_3 < (t397.length : Int) := of_decide_eq_true (by first | (with_reducible assumption) | assumption)
                            obtain ⟨ad401, A401_0, c401_0, e401, hx401_0, hx401_1, hl401_0, hi401_0⟩ := at_T41 (Kd.N_reads' HO_20.out).2.2 x21_3 p401 q401
                            cases e401
                            obtain ⟨ce401, hce401, hMe401, hcc401⟩ := Kd.N_get HO_20.out z41 x21_3 p401 (by first | exact q401 | exact of_decide_eq_true (by first | (with_reducible assumption) | assumption) | (have e_ := (Kd.N_reads' HO_20.out).1; omega))
                            obtain ⟨ua401_0, uc401_0, rfl, ul401_0, ge401_0⟩ := k41_openF hMe401
                            have hv401_0 := hcc401 0 _ rfl
                            rw [Nat.add_zero] at hv401_0
                            replace hv401_0 := Option.some.inj (hv401_0.symm.trans hx401_0)
                            injection hv401_0 with hva_ hvn_ hvc_
                            rw [hva_] at ge401_0
                            rw [hvc_] at ul401_0
                            have HL401_0 := Am (show Kd.V k69 69 _ w.heap.size _ _ ((rd_T41 t397 x21_3).f0) from Kd.V_mk ul401_0 ge401_0)
                            clear hva_ hvn_ hvc_ ge401_0 ul401_0
                            clear hcc401 hce401
                            have HR401_0 := Aside0.mk hi401_0
                            have HC401_0 := Aside0.mk hl401_0
                            clear hi401_0 hl401_0
                            replace p401 := eq_true p401
                            replace q401 := eq_true q401
                            refine start_ (n := 10) (S := fun w' => w'.cell? (ad400.add ((x21_3).toNat * 2)) = some (.slice A400_0 ((rd_T33 t394 x21_3).f0).length c400_0) ∧ w'.cell? ⟨(ad400.add ((x21_3).toNat * 2)).block, (ad400.add ((x21_3).toNat * 2)).off + 1, none⟩ = some (.bool ((rd_T33 t394 x21_3).f1)) ∧ w'.cell? (ad401.add ((x21_3).toNat * 2)) = some (.slice A401_0 ((rd_T41 t397 x21_3).f0).length c401_0) ∧ w'.cell? ⟨(ad401.add ((x21_3).toNat * 2)).block, (ad401.add ((x21_3).toNat * 2)).off + 1, none⟩ = some (.bool ((rd_T41 t397 x21_3).f1))) (ds := []) #[false, false, false, false, false, false, false, false, false, false] (by kernel_rfl) rfl rfl ⟨hx400_0, hx400_1, hx401_0, hx401_1⟩ (fun hHeld => ?_); refine with_tabW ostiarylaw10_PolicyParses.tab22 ostiarylaw10_PolicyParses.bits22 (fun HT_ HW_ => ?_)
                            generalize wr.drew = w88 at HO_19 HO_20 HO_367000 HO_372000 BK366 BK371 HB HL400_0 HL401_0 HR400_0 HR401_0 hx400_0 hx400_1 hx401_0 hx401_1 hHeld ⊢
                            refine pure_ (i := 0) (N := some 103) (v := ?_) (a' := ?_) #[true, false, false, false, false, false, false, false, false, false] rfl rfl (any_of HT_.out (by kernel_rfl)) (fun _ _ _ h => h) (Or.inl ⟨by rfl, ?_⟩) ?_ ?_
                            rotate_left
                            · intro w'
                              go_simp
                              with_reducible rfl
                            rotate_left
                            · simp only [Act.put, List.setIfInBounds_toArray, List.set_cons_zero, List.set_cons_succ, i64_w, i32_w]
                              rfl
                            refine pure_ (i := 1) (N := some 104) (v := ?_) (a' := ?_) #[true, true, false, false, false, false, false, false, false, false] rfl rfl (any_of HT_.out (by kernel_rfl)) (fun _ _ _ h => h) (Or.inl ⟨by rfl, ?_⟩) ?_ ?_
                            rotate_left
                            · intro w'
                              go_simp
                              with_reducible rfl
                            rotate_left
                            · simp only [Act.put, List.setIfInBounds_toArray, List.set_cons_zero, List.set_cons_succ, i64_w, i32_w]
                              rfl
                            refine pure_ (i := 2) (N := some 105) (v := ?_) (a' := ?_) #[true, true, true, false, false, false, false, false, false, false] rfl rfl (any_of HT_.out (by kernel_rfl)) (fun _ _ _ h => h) (Or.inl ⟨by rfl, ?_⟩) ?_ ?_
                            rotate_left
                            · intro w'
                              go_simp
                              with_reducible rfl
                            rotate_left
                            · simp only [Act.put, List.setIfInBounds_toArray, List.set_cons_zero, List.set_cons_succ, i64_w, i32_w]
                              rfl
                            refine pure_ (i := 4) (N := some 107) (v := ?_) (a' := ?_) #[true, true, true, false, true, false, false, false, false, false] rfl rfl (any_of HT_.out (by kernel_rfl)) (fun _ _ _ h => h) (Or.inl ⟨by rfl, ?_⟩) ?_ ?_
                            rotate_left
                            · intro w'
                              go_simp
                              with_reducible rfl
                            rotate_left
                            · simp only [Act.put, List.setIfInBounds_toArray, List.set_cons_zero, List.set_cons_succ, i64_w, i32_w]
                              rfl
                            refine pure_ (i := 5) (N := some 108) (v := ?_) (a' := ?_) #[true, true, true, false, true, true, false, false, false, false] rfl rfl (any_of HT_.out (by kernel_rfl)) (fun _ _ _ h => h) (Or.inl ⟨by rfl, ?_⟩) ?_ ?_
                            rotate_left
                            · intro w'
                              go_simp
                              with_reducible rfl
                            rotate_left
                            · simp only [Act.put, List.setIfInBounds_toArray, List.set_cons_zero, List.set_cons_succ, i64_w, i32_w]
                              rfl
                            refine pure_ (i := 6) (N := some 109) (v := ?_) (a' := ?_) #[true, true, true, false, true, true, true, false, false, false] rfl rfl (any_of HT_.out (by kernel_rfl)) (fun _ _ _ h => h) (Or.inl ⟨by rfl, ?_⟩) ?_ ?_
                            rotate_left
                            · intro w'
                              go_simp
                              with_reducible rfl
                            rotate_left
                            · simp only [Act.put, List.setIfInBounds_toArray, List.set_cons_zero, List.set_cons_succ, i64_w, i32_w]
                              rfl
                            refine take_ (i := 3) (N := some 106) (v := ?_) (a' := ?_) #[true, true, true, true, true, true, true, false, false, false] rfl rfl (take_ofW HT_.out HW_.out (by kernel_rfl)) (fun _ _ _ h => h) (Or.inl ⟨by rfl, ?_⟩) hHeld ?_ ?_
                            rotate_left
                            · rintro w' ⟨s0, s1, s2, s3⟩
                              go_simp
                              with_reducible rfl
                            rotate_left
                            · simp only [Act.put, List.setIfInBounds_toArray, List.set_cons_zero, List.set_cons_succ, i64_w, i32_w]
                              rfl
                            refine take_ (i := 7) (N := some 110) (v := ?_) (a' := ?_) #[true, true, true, true, true, true, true, true, false, false] rfl rfl (take_ofW HT_.out HW_.out (by kernel_rfl)) (fun _ _ _ h => h) (Or.inl ⟨by rfl, ?_⟩) hHeld ?_ ?_
                            rotate_left
                            · rintro w' ⟨s0, s1, s2, s3⟩
                              go_simp
                              with_reducible rfl
                            rotate_left
                            · simp only [Act.put, List.setIfInBounds_toArray, List.set_cons_zero, List.set_cons_succ, i64_w, i32_w]
                              rfl
                            refine one_ (i := 8) (N := some 111) #[true, true, true, true, true, true, true, true, true, false] rfl rfl (one_of HT_.out (by kernel_rfl)) (by decide) (fun K hK => ?_)
                            refine goes_ Tryd.func20 (by kernel_rfl) rfl #[.agg #[.slice A400_0 ((rd_T33 t394 x21_3).f0).length c400_0, .bool ((rd_T33 t394 x21_3).f1)], .agg #[.slice A401_0 ((rd_T41 t397 x21_3).f0).length c401_0, .bool ((rd_T41 t397 x21_3).f1)]] (by rfl) rfl rfl (by ((try simp only [List.map_toArray, List.map_cons, List.map_nil]); first | done | rfl | (simp only [List.length_drop, List.length_take]; rfl))) ?_
                            with_reducible refine (ostiarylaw10_same.calls k3 _ _ ((rd_T33 t394 x21_3).f0) ((rd_T33 t394 x21_3).f1) _ _ ((rd_T41 t397 x21_3).f0) ((rd_T41 t397 x21_3).f1) true _ ?side1 ?side2 ?side3 ?side4 A86.out).mono ?_
                            (case side1 => repeat (first | exact (by repeat (first | (with_reducible exact HR400_0.out) | (with_reducible refine Kd.C_alloc ?_ _) | (with_reducible refine Kd.C_drewN ?_ _) | (with_reducible refine Kd.C_drew ?_) | exact HR400_0.out)) | (first | (with_reducible refine Kd.C_alloc ?_ _) | (with_reducible refine Kd.C_drewN ?_ _) | (with_reducible refine Kd.C_drew ?_))))
                            (case side2 => exact HC400_0.out)
                            (case side3 => repeat (first | exact (by repeat (first | (with_reducible exact HR401_0.out) | (with_reducible refine Kd.C_alloc ?_ _) | (with_reducible refine Kd.C_drewN ?_ _) | (with_reducible refine Kd.C_drew ?_) | exact HR401_0.out)) | (first | (with_reducible refine Kd.C_alloc ?_ _) | (with_reducible refine Kd.C_drewN ?_ _) | (with_reducible refine Kd.C_drew ?_))))
                            (case side4 => exact HC401_0.out)
                            rintro e w89 ⟨rfl, hb⟩
                            have HS0_ := (hb.cell (World.block_lt_of_cell? _ _ (hHeld.1))).trans (hHeld.1)
                            have HS1_ := (hb.cell (World.block_lt_of_cell? _ _ (hHeld.2.1))).trans (hHeld.2.1)
                            have HS2_ := (hb.cell (World.block_lt_of_cell? _ _ (hHeld.2.2.1))).trans (hHeld.2.2.1)
                            have HS3_ := (hb.cell (World.block_lt_of_cell? _ _ (hHeld.2.2.2))).trans (hHeld.2.2.2)
                            refine ⟨_, rfl, ?_⟩
                            have n0_ := Am (Kd.N_below (by (with_reducible repeat (first | apply Kd.N_alloc | apply Kd.N_drewN | apply Kd.N_drew)); exact HO_19.out) hb)
                            have n1_ := Am (Kd.N_below (by (with_reducible repeat (first | apply Kd.N_alloc | apply Kd.N_drewN | apply Kd.N_drew)); exact HO_20.out) hb)
                            have n2_ := Am (Kd.N_below (by (with_reducible repeat (first | apply Kd.N_alloc | apply Kd.N_drewN | apply Kd.N_drew)); exact HO_367000.out) hb)
                            have n3_ := Am (Kd.N_below (by (with_reducible repeat (first | apply Kd.N_alloc | apply Kd.N_drewN | apply Kd.N_drew)); exact HO_372000.out) hb)
                            have n4_ := Am (Kd.V_below (by (with_reducible repeat (first | apply Kd.V_alloc | apply Kd.V_drewN | apply Kd.V_drew)); exact HL400_0.out) hb)
                            have n5_ := Am (Kd.V_below (by (with_reducible repeat (first | apply Kd.V_alloc | apply Kd.V_drewN | apply Kd.V_drew)); exact HL401_0.out) hb)
                            have n6_ := Am (blk_below (g := gb366) (o := .cells #[.slice Ao13 t362.length co13, .bool t365] 33 (0, 0)) (by (with_reducible repeat (first | refine blk_drewN ?_ _ | refine blk_drew ?_ | refine blk_alloc ?_ _)); exact BK366.out) hb)
                            have n7_ := Am (blk_below (g := gb371) (o := .cells #[.slice Ao17 t367.length co17, .bool t370] 41 (0, 0)) (by (with_reducible repeat (first | refine blk_drewN ?_ _ | refine blk_drew ?_ | refine blk_alloc ?_ _)); exact BK371.out) hb)
                            have n8_ := Am (Kd.C_below (by repeat (first | (with_reducible exact HR400_0.out) | (with_reducible refine Kd.C_alloc ?_ _) | (with_reducible refine Kd.C_drewN ?_ _) | (with_reducible refine Kd.C_drew ?_) | exact HR400_0.out)) hb)
                            have n9_ := Am (Kd.C_below (by repeat (first | (with_reducible exact HR401_0.out) | (with_reducible refine Kd.C_alloc ?_ _) | (with_reducible refine Kd.C_drewN ?_ _) | (with_reducible refine Kd.C_drew ?_) | exact HR401_0.out)) hb)
                            have n10_ := Am (below_step (by (repeat (first | (with_reducible first | exact HB.out | apply below_alloc | apply pw_below_drewN | apply below_drew1 | refine below_set ?_ (Aside0.out GE366) | refine below_set ?_ (Aside0.out GE371)) | exact HB.out))) hb)
                            clear HO_19
                            clear HO_20
                            clear HO_367000
                            clear HO_372000
                            clear HL400_0
                            clear HL401_0
                            clear BK366
                            clear BK371
                            clear HR400_0
                            clear HR401_0
                            clear HB
                            have HO_19 := n0_
                            have HO_20 := n1_
                            have HO_367000 := n2_
                            have HO_372000 := n3_
                            have HL400_0 := n4_
                            have HL401_0 := n5_
                            have BK366 := n6_
                            have BK371 := n7_
                            have HR400_0 := n8_
                            have HR401_0 := n9_
                            have HB := n10_
                            clear n0_ n1_ n2_ n3_ n4_ n5_ n6_ n7_ n8_ n9_ n10_
                            (try clear hb)
                            (try clear hb2)
                            (try clear hk)
                            (try clear hi)
                            refine hK.out _ _ ⟨HS0_, HS1_, HS2_, HS3_⟩ (fun hHeld => ?_)
                            clear hK K
                            refine norm_ (a' := ?_) ?_ ?_
                            rotate_left
                            · show Act.put _ (some 111) _ = _
                              simp only [Act.put, List.setIfInBounds_toArray, List.set_cons_zero, List.set_cons_succ, i64_w, i32_w]
                              rfl
                            refine pure_ (i := 9) (N := some 112) (v := ?_) (a' := ?_) #[true, true, true, true, true, true, true, true, true, true] rfl rfl (any_of HT_.out (by kernel_rfl)) (fun _ _ _ h => h) (Or.inl ⟨by rfl, ?_⟩) ?_ ?_
                            rotate_left
                            · intro w'
                              go_simp
                              with_reducible rfl
                            rotate_left
                            · simp only [Act.put, List.setIfInBounds_toArray, List.set_cons_zero, List.set_cons_succ, i64_w, i32_w]
                              rfl
                            refine done_ (done_of HT_.out (by kernel_rfl)) ?_
                            try go_wp2
                            go_roundg k3
                            case measure => have := HJ8.out; have := HK2.out; have := HK3.out; omega
                            case rel => exact ⟨(wrap64 (x21_3 + 1)), (by first | rfl | (simp; done) | (simp [*]; done)), H', ⟨by have := HJ8.out; have := HK2.out; have := HK3.out; omega⟩, ⟨by (with_reducible repeat (first | apply Kd.N_alloc | apply Kd.N_drewN | apply Kd.N_drew)); exact HO_19.out⟩, ⟨by (with_reducible repeat (first | apply Kd.N_alloc | apply Kd.N_drewN | apply Kd.N_drew)); exact HO_20.out⟩, ⟨by (with_reducible repeat (first | apply Kd.N_alloc | apply Kd.N_drewN | apply Kd.N_drew)); exact HO_367000.out⟩, ⟨by (with_reducible repeat (first | apply Kd.N_alloc | apply Kd.N_drewN | apply Kd.N_drew)); exact HO_372000.out⟩, ⟨by (with_reducible repeat (first | refine blk_drewN ?_ _ | refine blk_drew ?_ | refine blk_alloc ?_ _)); exact BK366.out⟩, ⟨by (with_reducible repeat (first | refine blk_drewN ?_ _ | refine blk_drew ?_ | refine blk_alloc ?_ _)); exact BK371.out⟩, ⟨by (repeat (first | (with_reducible first | exact HB.out | apply below_alloc | apply pw_below_drewN | apply below_drew1 | refine below_set ?_ (Aside0.out GE366) | refine below_set ?_ (Aside0.out GE371)) | exact HB.out))⟩⟩
                          · replace c87 := Bool.eq_false_iff.mpr c87
                            subst c87
                            have H1 : (some false) = some r := by rw [if_neg (show ¬ (false = true) by decide)] at H; exact H
                            clear H
                            have H := H1
                            clear H1
                            obtain rfl := Option.some.inj H
                            try go_wp2
                            have n0_ := Am (Kd.N_drew HO_19.out)
                            have n1_ := Am (Kd.N_drew HO_20.out)
                            have n2_ := Am (Kd.N_drew HO_367000.out)
                            have n3_ := Am (Kd.N_drew HO_372000.out)
                            have n4_ := Am (blk_drew BK366.out)
                            have n5_ := Am (blk_drew BK371.out)
                            have n6_ := Am (below_drew1 HB.out)
                            clear HO_19
                            clear HO_20
                            clear HO_367000
                            clear HO_372000
                            clear BK366
                            clear BK371
                            clear HB
                            have HO_19 := n0_
                            have HO_20 := n1_
                            have HO_367000 := n2_
                            have HO_372000 := n3_
                            have BK366 := n4_
                            have BK371 := n5_
                            have HB := n6_
                            clear n0_ n1_ n2_ n3_ n4_ n5_ n6_
                            have p400 : 0 ≤ (x21_3 : Int) := of_decide_eq_true (by first | (with_reducible assumption) | assumption)
                            have q400 : x21_3 < (t394.length : Int) := of_decide_eq_true (by first | (with_reducible assumption) | assumption)
                            obtain ⟨ad400, A400_0, c400_0, e400, hx400_0, hx400_1, hl400_0, hi400_0⟩ := at_T33 (Kd.N_reads' HO_19.out).2.2 x21_3 p400 q400
                            cases e400
                            obtain ⟨ce400, hce400, hMe400, hcc400⟩ := Kd.N_get HO_19.out z33 x21_3 p400 (by first | exact q400 | exact of_decide_eq_true (by first | (with_reducible assumption) | assumption) | (have e_ := (Kd.N_reads' HO_19.out).1; omega))
                            obtain ⟨ua400_0, uc400_0, rfl, ul400_0, ge400_0⟩ := k33_openF hMe400
                            have hv400_0 := hcc400 0 _ rfl
                            rw [Nat.add_zero] at hv400_0
                            replace hv400_0 := Option.some.inj (hv400_0.symm.trans hx400_0)
                            injection hv400_0 with hva_ hvn_ hvc_
                            rw [hva_] at ge400_0
                            rw [hvc_] at ul400_0
                            have HL400_0 := Am (show Kd.V k52 52 _ w.heap.size _ _ ((rd_T33 t394 x21_3).f0) from Kd.V_mk ul400_0 ge400_0)
                            clear hva_ hvn_ hvc_ ge400_0 ul400_0
                            clear hcc400 hce400
                            have HR400_0 := Aside0.mk hi400_0
                            have HC400_0 := Aside0.mk hl400_0
                            clear hi400_0 hl400_0
                            replace p400 := eq_true p400
                            replace q400 := eq_true q400
                            have p401 : 0 ≤ (x21_3 : Int) := of_decide_eq_true (by first | (with_reducible assumption) | assumption)
                            have q401 : x21_3 < (t397.length : Int) := of_decide_eq_true (by first | (with_reducible assumption) | assumption)
                            obtain ⟨ad401, A401_0, c401_0, e401, hx401_0, hx401_1, hl401_0, hi401_0⟩ := at_T41 (Kd.N_reads' HO_20.out).2.2 x21_3 p401 q401
                            cases e401
                            obtain ⟨ce401, hce401, hMe401, hcc401⟩ := Kd.N_get HO_20.out z41 x21_3 p401 (by first | exact q401 | exact of_decide_eq_true (by first | (with_reducible assumption) | assumption) | (have e_ := (Kd.N_reads' HO_20.out).1; omega))
                            obtain ⟨ua401_0, uc401_0, rfl, ul401_0, ge401_0⟩ := k41_openF hMe401
                            have hv401_0 := hcc401 0 _ rfl
                            rw [Nat.add_zero] at hv401_0
                            replace hv401_0 := Option.some.inj (hv401_0.symm.trans hx401_0)
                            injection hv401_0 with hva_ hvn_ hvc_
                            rw [hva_] at ge401_0
                            rw [hvc_] at ul401_0
                            have HL401_0 := Am (show Kd.V k69 69 _ w.heap.size _ _ ((rd_T41 t397 x21_3).f0) from Kd.V_mk ul401_0 ge401_0)
                            clear hva_ hvn_ hvc_ ge401_0 ul401_0
                            clear hcc401 hce401
                            have HR401_0 := Aside0.mk hi401_0
                            have HC401_0 := Aside0.mk hl401_0
                            clear hi401_0 hl401_0
                            replace p401 := eq_true p401
                            replace q401 := eq_true q401
                            refine start_ (n := 10) (S := fun w' => w'.cell? (ad400.add ((x21_3).toNat * 2)) = some (.slice A400_0 ((rd_T33 t394 x21_3).f0).length c400_0) ∧ w'.cell? ⟨(ad400.add ((x21_3).toNat * 2)).block, (ad400.add ((x21_3).toNat * 2)).off + 1, none⟩ = some (.bool ((rd_T33 t394 x21_3).f1)) ∧ w'.cell? (ad401.add ((x21_3).toNat * 2)) = some (.slice A401_0 ((rd_T41 t397 x21_3).f0).length c401_0) ∧ w'.cell? ⟨(ad401.add ((x21_3).toNat * 2)).block, (ad401.add ((x21_3).toNat * 2)).off + 1, none⟩ = some (.bool ((rd_T41 t397 x21_3).f1))) (ds := []) #[false, false, false, false, false, false, false, false, false, false] (by kernel_rfl) rfl rfl ⟨hx400_0, hx400_1, hx401_0, hx401_1⟩ (fun hHeld => ?_); refine with_tabW ostiarylaw10_PolicyParses.tab22 ostiarylaw10_PolicyParses.bits22 (fun HT_ HW_ => ?_)
                            generalize wr.drew = w90 at HO_19 HO_20 HO_367000 HO_372000 BK366 BK371 HB HL400_0 HL401_0 HR400_0 HR401_0 hx400_0 hx400_1 hx401_0 hx401_1 hHeld ⊢
                            refine pure_ (i := 0) (N := some 103) (v := ?_) (a' := ?_) #[true, false, false, false, false, false, false, false, false, false] rfl rfl (any_of HT_.out (by kernel_rfl)) (fun _ _ _ h => h) (Or.inl ⟨by rfl, ?_⟩) ?_ ?_
                            rotate_left
                            · intro w'
                              go_simp
                              with_reducible rfl
                            rotate_left
                            · simp only [Act.put, List.setIfInBounds_toArray, List.set_cons_zero, List.set_cons_succ, i64_w, i32_w]
                              rfl
                            refine pure_ (i := 1) (N := some 104) (v := ?_) (a' := ?_) #[true, true, false, false, false, false, false, false, false, false] rfl rfl (any_of HT_.out (by kernel_rfl)) (fun _ _ _ h => h) (Or.inl ⟨by rfl, ?_⟩) ?_ ?_
                            rotate_left
                            · intro w'
                              go_simp
                              with_reducible rfl
                            rotate_left
                            · simp only [Act.put, List.setIfInBounds_toArray, List.set_cons_zero, List.set_cons_succ, i64_w, i32_w]
                              rfl
                            refine pure_ (i := 2) (N := some 105) (v := ?_) (a' := ?_) #[true, true, true, false, false, false, false, false, false, false] rfl rfl (any_of HT_.out (by kernel_rfl)) (fun _ _ _ h => h) (Or.inl ⟨by rfl, ?_⟩) ?_ ?_
                            rotate_left
                            · intro w'
                              go_simp
                              with_reducible rfl
                            rotate_left
                            · simp only [Act.put, List.setIfInBounds_toArray, List.set_cons_zero, List.set_cons_succ, i64_w, i32_w]
                              rfl
                            refine pure_ (i := 4) (N := some 107) (v := ?_) (a' := ?_) #[true, true, true, false, true, false, false, false, false, false] rfl rfl (any_of HT_.out (by kernel_rfl)) (fun _ _ _ h => h) (Or.inl ⟨by rfl, ?_⟩) ?_ ?_
                            rotate_left
                            · intro w'
                              go_simp
                              with_reducible rfl
                            rotate_left
                            · simp only [Act.put, List.setIfInBounds_toArray, List.set_cons_zero, List.set_cons_succ, i64_w, i32_w]
                              rfl
                            refine pure_ (i := 5) (N := some 108) (v := ?_) (a' := ?_) #[true, true, true, false, true, true, false, false, false, false] rfl rfl (any_of HT_.out (by kernel_rfl)) (fun _ _ _ h => h) (Or.inl ⟨by rfl, ?_⟩) ?_ ?_
                            rotate_left
                            · intro w'
                              go_simp
                              with_reducible rfl
                            rotate_left
                            · simp only [Act.put, List.setIfInBounds_toArray, List.set_cons_zero, List.set_cons_succ, i64_w, i32_w]
                              rfl
                            refine pure_ (i := 6) (N := some 109) (v := ?_) (a' := ?_) #[true, true, true, false, true, true, true, false, false, false] rfl rfl (any_of HT_.out (by kernel_rfl)) (fun _ _ _ h => h) (Or.inl ⟨by rfl, ?_⟩) ?_ ?_
                            rotate_left
                            · intro w'
                              go_simp
                              with_reducible rfl
                            rotate_left
                            · simp only [Act.put, List.setIfInBounds_toArray, List.set_cons_zero, List.set_cons_succ, i64_w, i32_w]
                              rfl
                            refine take_ (i := 3) (N := some 106) (v := ?_) (a' := ?_) #[true, true, true, true, true, true, true, false, false, false] rfl rfl (take_ofW HT_.out HW_.out (by kernel_rfl)) (fun _ _ _ h => h) (Or.inl ⟨by rfl, ?_⟩) hHeld ?_ ?_
                            rotate_left
                            · rintro w' ⟨s0, s1, s2, s3⟩
                              go_simp
                              with_reducible rfl
                            rotate_left
                            · simp only [Act.put, List.setIfInBounds_toArray, List.set_cons_zero, List.set_cons_succ, i64_w, i32_w]
                              rfl
                            refine take_ (i := 7) (N := some 110) (v := ?_) (a' := ?_) #[true, true, true, true, true, true, true, true, false, false] rfl rfl (take_ofW HT_.out HW_.out (by kernel_rfl)) (fun _ _ _ h => h) (Or.inl ⟨by rfl, ?_⟩) hHeld ?_ ?_
                            rotate_left
                            · rintro w' ⟨s0, s1, s2, s3⟩
                              go_simp
                              with_reducible rfl
                            rotate_left
                            · simp only [Act.put, List.setIfInBounds_toArray, List.set_cons_zero, List.set_cons_succ, i64_w, i32_w]
                              rfl
                            refine one_ (i := 8) (N := some 111) #[true, true, true, true, true, true, true, true, true, false] rfl rfl (one_of HT_.out (by kernel_rfl)) (by decide) (fun K hK => ?_)
                            refine goes_ Tryd.func20 (by kernel_rfl) rfl #[.agg #[.slice A400_0 ((rd_T33 t394 x21_3).f0).length c400_0, .bool ((rd_T33 t394 x21_3).f1)], .agg #[.slice A401_0 ((rd_T41 t397 x21_3).f0).length c401_0, .bool ((rd_T41 t397 x21_3).f1)]] (by rfl) rfl rfl (by ((try simp only [List.map_toArray, List.map_cons, List.map_nil]); first | done | rfl | (simp only [List.length_drop, List.length_take]; rfl))) ?_
                            with_reducible refine (ostiarylaw10_same.calls k3 _ _ ((rd_T33 t394 x21_3).f0) ((rd_T33 t394 x21_3).f1) _ _ ((rd_T41 t397 x21_3).f0) ((rd_T41 t397 x21_3).f1) false _ ?side1 ?side2 ?side3 ?side4 A86.out).mono ?_
                            (case side1 => repeat (first | exact (by repeat (first | (with_reducible exact HR400_0.out) | (with_reducible refine Kd.C_alloc ?_ _) | (with_reducible refine Kd.C_drewN ?_ _) | (with_reducible refine Kd.C_drew ?_) | exact HR400_0.out)) | (first | (with_reducible refine Kd.C_alloc ?_ _) | (with_reducible refine Kd.C_drewN ?_ _) | (with_reducible refine Kd.C_drew ?_))))
                            (case side2 => exact HC400_0.out)
                            (case side3 => repeat (first | exact (by repeat (first | (with_reducible exact HR401_0.out) | (with_reducible refine Kd.C_alloc ?_ _) | (with_reducible refine Kd.C_drewN ?_ _) | (with_reducible refine Kd.C_drew ?_) | exact HR401_0.out)) | (first | (with_reducible refine Kd.C_alloc ?_ _) | (with_reducible refine Kd.C_drewN ?_ _) | (with_reducible refine Kd.C_drew ?_))))
                            (case side4 => exact HC401_0.out)
                            rintro e w91 ⟨rfl, hb⟩
                            have HS0_ := (hb.cell (World.block_lt_of_cell? _ _ (hHeld.1))).trans (hHeld.1)
                            have HS1_ := (hb.cell (World.block_lt_of_cell? _ _ (hHeld.2.1))).trans (hHeld.2.1)
                            have HS2_ := (hb.cell (World.block_lt_of_cell? _ _ (hHeld.2.2.1))).trans (hHeld.2.2.1)
                            have HS3_ := (hb.cell (World.block_lt_of_cell? _ _ (hHeld.2.2.2))).trans (hHeld.2.2.2)
                            refine ⟨_, rfl, ?_⟩
                            have n0_ := Am (Kd.N_below (by (with_reducible repeat (first | apply Kd.N_alloc | apply Kd.N_drewN | apply Kd.N_drew)); exact HO_19.out) hb)
                            have n1_ := Am (Kd.N_below (by (with_reducible repeat (first | apply Kd.N_alloc | apply Kd.N_drewN | apply Kd.N_drew)); exact HO_20.out) hb)
                            have n2_ := Am (Kd.N_below (by (with_reducible repeat (first | apply Kd.N_alloc | apply Kd.N_drewN | apply Kd.N_drew)); exact HO_367000.out) hb)
                            have n3_ := Am (Kd.N_below (by (with_reducible repeat (first | apply Kd.N_alloc | apply Kd.N_drewN | apply Kd.N_drew)); exact HO_372000.out) hb)
                            have n4_ := Am (Kd.V_below (by (with_reducible repeat (first | apply Kd.V_alloc | apply Kd.V_drewN | apply Kd.V_drew)); exact HL400_0.out) hb)
                            have n5_ := Am (Kd.V_below (by (with_reducible repeat (first | apply Kd.V_alloc | apply Kd.V_drewN | apply Kd.V_drew)); exact HL401_0.out) hb)
                            have n6_ := Am (blk_below (g := gb366) (o := .cells #[.slice Ao13 t362.length co13, .bool t365] 33 (0, 0)) (by (with_reducible repeat (first | refine blk_drewN ?_ _ | refine blk_drew ?_ | refine blk_alloc ?_ _)); exact BK366.out) hb)
                            have n7_ := Am (blk_below (g := gb371) (o := .cells #[.slice Ao17 t367.length co17, .bool t370] 41 (0, 0)) (by (with_reducible repeat (first | refine blk_drewN ?_ _ | refine blk_drew ?_ | refine blk_alloc ?_ _)); exact BK371.out) hb)
                            have n8_ := Am (Kd.C_below (by repeat (first | (with_reducible exact HR400_0.out) | (with_reducible refine Kd.C_alloc ?_ _) | (with_reducible refine Kd.C_drewN ?_ _) | (with_reducible refine Kd.C_drew ?_) | exact HR400_0.out)) hb)
                            have n9_ := Am (Kd.C_below (by repeat (first | (with_reducible exact HR401_0.out) | (with_reducible refine Kd.C_alloc ?_ _) | (with_reducible refine Kd.C_drewN ?_ _) | (with_reducible refine Kd.C_drew ?_) | exact HR401_0.out)) hb)
                            have n10_ := Am (below_step (by (repeat (first | (with_reducible first | exact HB.out | apply below_alloc | apply pw_below_drewN | apply below_drew1 | refine below_set ?_ (Aside0.out GE366) | refine below_set ?_ (Aside0.out GE371)) | exact HB.out))) hb)
                            clear HO_19
                            clear HO_20
                            clear HO_367000
                            clear HO_372000
                            clear HL400_0
                            clear HL401_0
                            clear BK366
                            clear BK371
                            clear HR400_0
                            clear HR401_0
                            clear HB
                            have HO_19 := n0_
                            have HO_20 := n1_
                            have HO_367000 := n2_
                            have HO_372000 := n3_
                            have HL400_0 := n4_
                            have HL401_0 := n5_
                            have BK366 := n6_
                            have BK371 := n7_
                            have HR400_0 := n8_
                            have HR401_0 := n9_
                            have HB := n10_
                            clear n0_ n1_ n2_ n3_ n4_ n5_ n6_ n7_ n8_ n9_ n10_
                            (try clear hb)
                            (try clear hb2)
                            (try clear hk)
                            (try clear hi)
                            refine hK.out _ _ ⟨HS0_, HS1_, HS2_, HS3_⟩ (fun hHeld => ?_)
                            clear hK K
                            refine norm_ (a' := ?_) ?_ ?_
                            rotate_left
                            · show Act.put _ (some 111) _ = _
                              simp only [Act.put, List.setIfInBounds_toArray, List.set_cons_zero, List.set_cons_succ, i64_w, i32_w]
                              rfl
                            refine pure_ (i := 9) (N := some 112) (v := ?_) (a' := ?_) #[true, true, true, true, true, true, true, true, true, true] rfl rfl (any_of HT_.out (by kernel_rfl)) (fun _ _ _ h => h) (Or.inl ⟨by rfl, ?_⟩) ?_ ?_
                            rotate_left
                            · intro w'
                              go_simp
                              with_reducible rfl
                            rotate_left
                            · simp only [Act.put, List.setIfInBounds_toArray, List.set_cons_zero, List.set_cons_succ, i64_w, i32_w]
                              rfl
                            refine done_ (done_of HT_.out (by kernel_rfl)) ?_
                            try go_wp2
                            go_ret
                            exact ⟨by (first | rfl | (simp [errW_none, errW_some] <;> rfl) | (simp [*, errW_none, errW_some] <;> rfl)), by (repeat (first | (with_reducible first | exact HB.out | apply below_alloc | apply pw_below_drewN | apply below_drew1 | refine below_set ?_ (Aside0.out GE366) | refine below_set ?_ (Aside0.out GE371)) | exact HB.out))⟩
                        · rw [if_neg c85] at H
                          exact absurd H (by simp)
                      · rw [if_neg c84] at H
                        exact absurd H (by simp)
                    · rw [if_neg c83] at H
                      have c83b0 : decide (x21_3 < (t394.length : Int)) = false := decide_eq_false c83
                      clear c83
                      replace H := Option.bind_eq_some_iff.mp H
                      obtain ⟨t403, A920, H⟩ := H
                      replace H : (some t403) = some r := H
                      have A92 := Aside0.mk A920
                      clear A920
                      obtain rfl := Option.some.inj H
                      go_wp2_with (first | ((with_reducible refine gate_callee (f := 16) rfl ?_); refine goesL_ (some 113) rfl rfl Tryd.func16 (by kernel_rfl) rfl #[] rfl (by ((try simp only [List.map_toArray, List.map_cons, List.map_nil]); first | done | rfl | (simp only [List.length_drop, List.length_take]; rfl))) ?_; (with_reducible refine (ostiarylaw10_known.calls k3  t403 _ A92.out).mono ?_); rintro e w93 ⟨rfl, hb⟩; refine ⟨_, rfl, ?_⟩; have n0_ := Am (Kd.N_below (by (with_reducible repeat (first | apply Kd.N_alloc | apply Kd.N_drewN | apply Kd.N_drew)); exact HO_19.out) hb); have n1_ := Am (Kd.N_below (by (with_reducible repeat (first | apply Kd.N_alloc | apply Kd.N_drewN | apply Kd.N_drew)); exact HO_20.out) hb); have n2_ := Am (Kd.N_below (by (with_reducible repeat (first | apply Kd.N_alloc | apply Kd.N_drewN | apply Kd.N_drew)); exact HO_367000.out) hb); have n3_ := Am (Kd.N_below (by (with_reducible repeat (first | apply Kd.N_alloc | apply Kd.N_drewN | apply Kd.N_drew)); exact HO_372000.out) hb); have n4_ := Am (blk_below (g := gb366) (o := .cells #[.slice Ao13 t362.length co13, .bool t365] 33 (0, 0)) (by (with_reducible repeat (first | refine blk_drewN ?_ _ | refine blk_drew ?_ | refine blk_alloc ?_ _)); exact BK366.out) hb); have n5_ := Am (blk_below (g := gb371) (o := .cells #[.slice Ao17 t367.length co17, .bool t370] 41 (0, 0)) (by (with_reducible repeat (first | refine blk_drewN ?_ _ | refine blk_drew ?_ | refine blk_alloc ?_ _)); exact BK371.out) hb); have n6_ := Am (below_step (by (repeat (first | (with_reducible first | exact HB.out | apply below_alloc | apply pw_below_drewN | apply below_drew1 | refine below_set ?_ (Aside0.out GE366) | refine below_set ?_ (Aside0.out GE371)) | exact HB.out))) hb); clear HO_19; clear HO_20; clear HO_367000; clear HO_372000; clear BK366; clear BK371; clear HB; have HO_19 := n0_; have HO_20 := n1_; have HO_367000 := n2_; have HO_372000 := n3_; have BK366 := n4_; have BK371 := n5_; have HB := n6_; clear n0_ n1_ n2_ n3_ n4_ n5_ n6_; (try clear hb); (try clear hb2); (try clear hk); (try clear hi)))
                      go_ret
                      exact ⟨by (first | rfl | (simp [errW_none, errW_some] <;> rfl) | (simp [*, errW_none, errW_some] <;> rfl)), by (repeat (first | (with_reducible first | exact HB.out | apply below_alloc | apply pw_below_drewN | apply below_drew1 | refine below_set ?_ (Aside0.out GE366) | refine below_set ?_ (Aside0.out GE371)) | exact HB.out))⟩
              · rw [if_neg c76] at H
                have c76b0 : ((t394.length : Int) == (t397.length : Int)) = false := beq_eq_false_iff_ne.mpr c76
                have c76b1 : ((t394.length : Int) != (t397.length : Int)) = true := bne_iff_ne.mpr c76
                have c76b2 : (t394.length == t397.length) = false := by first | simpa using c76 | (simp at c76 ⊢; omega)
                obtain rfl := Option.some.inj H
                obtain ⟨Ao94, co94, eo94⟩ := Kd.R_slice HO_11.out
                subst eo94
                obtain ⟨Ao95, co95, eo95⟩ := Kd.R_slice HO_2.out
                subst eo95
                go_wp2_with (first | ((with_reducible refine gate_callee (f := 13) rfl ?_); refine goesL_ (some 89) rfl rfl Tryd.func13 (by kernel_rfl) rfl #[.slice Ao95 t359.length co95] rfl (by ((try simp only [List.map_toArray, List.map_cons, List.map_nil]); first | done | rfl | (simp only [List.length_drop, List.length_take]; rfl))) ?_; (with_reducible refine (policy_From.calls k2 _ _ t359 t394 _ ?side1 ?side2 A74.out).mono ?_); (case side1 => repeat (first | exact (Kd.R_reads' HO_2.out).2.2 | (first | (with_reducible refine Kd.C_alloc ?_ _) | (with_reducible refine Kd.C_drewN ?_ _) | (with_reducible refine Kd.C_drew ?_)))); (case side2 => exact (Kd.R_reads' HO_2.out).2.1); rintro e w96 ⟨v395, rfl, ho0, hb⟩; refine ⟨_, rfl, ?_⟩; have n0_ := Am (Kd.R_below (by (with_reducible repeat (first | apply Kd.R_alloc | apply Kd.R_drewN | apply Kd.R_drew)); exact HO_2.out) hb); have n1_ := Am (Kd.R_below (by (with_reducible repeat (first | apply Kd.R_alloc | apply Kd.R_drewN | apply Kd.R_drew)); exact HO_11.out) hb); have n2_ := Am (Kd.N_elder' (by (with_reducible repeat (first | apply Kd.N_alloc | apply Kd.N_drewN | apply Kd.N_drew)); exact HO_367000.out) (by first | exact Kd.N_base ho0 | exact Kd.R_base ho0) hb); have n3_ := Am (Kd.N_elder' (by (with_reducible repeat (first | apply Kd.N_alloc | apply Kd.N_drewN | apply Kd.N_drew)); exact HO_372000.out) (by first | exact Kd.N_base ho0 | exact Kd.R_base ho0) hb); have n4_ := Am (Kd.N_lower (Kd.N_mono (ok' := fun k_ => some k_ ≠ (.slice Ao95 t359.length co95 : Value).ownBlock ∧ some k_ ≠ (.slice Ao94 y378.length co94 : Value).ownBlock ∧ some k_ ≠ (.slice Ao13 t362.length co13 : Value).ownBlock ∧ some k_ ≠ (.slice Ao17 t367.length co17 : Value).ownBlock ∧ k_ ≠ gb366 ∧ k_ ≠ gb371) (Kd.R_N (Kd.R_bound ho0)) (fun k_ hk_ => ⟨(Kd.fresh' (Kd.R_lt (by (with_reducible repeat (first | apply Kd.R_alloc | apply Kd.R_drewN | apply Kd.R_drew)); exact HO_2.out)) k_ hk_.2.1), (Kd.fresh' (Kd.R_lt (by (with_reducible repeat (first | apply Kd.R_alloc | apply Kd.R_drewN | apply Kd.R_drew)); exact HO_11.out)) k_ hk_.2.1), (Kd.fresh' (Kd.N_lt (by (with_reducible repeat (first | apply Kd.N_alloc | apply Kd.N_drewN | apply Kd.N_drew)); exact HO_367000.out)) k_ hk_.2.1), (Kd.fresh' (Kd.N_lt (by (with_reducible repeat (first | apply Kd.N_alloc | apply Kd.N_drewN | apply Kd.N_drew)); exact HO_372000.out)) k_ hk_.2.1), (Kd.freshB (g := gb366) (o := .cells #[.slice Ao13 t362.length co13, .bool t365] 33 (0, 0)) (by (with_reducible repeat (first | refine blk_drewN ?_ _ | refine blk_drew ?_ | refine blk_alloc ?_ _)); exact BK366.out) k_ hk_.2.1), (Kd.freshB (g := gb371) (o := .cells #[.slice Ao17 t367.length co17, .bool t370] 41 (0, 0)) (by (with_reducible repeat (first | refine blk_drewN ?_ _ | refine blk_drew ?_ | refine blk_alloc ?_ _)); exact BK371.out) k_ hk_.2.1)⟩)) (below_size (by (repeat (first | (with_reducible first | exact HB.out | apply below_alloc | apply pw_below_drewN | apply below_drew1 | refine below_set ?_ (Aside0.out GE366) | refine below_set ?_ (Aside0.out GE371)) | exact HB.out))))); have n5_ := Am (blk_below (g := gb366) (o := .cells #[.slice Ao13 t362.length co13, .bool t365] 33 (0, 0)) (by (with_reducible repeat (first | refine blk_drewN ?_ _ | refine blk_drew ?_ | refine blk_alloc ?_ _)); exact BK366.out) hb); have n6_ := Am (blk_below (g := gb371) (o := .cells #[.slice Ao17 t367.length co17, .bool t370] 41 (0, 0)) (by (with_reducible repeat (first | refine blk_drewN ?_ _ | refine blk_drew ?_ | refine blk_alloc ?_ _)); exact BK371.out) hb); have n7_ := Am (below_step (by (repeat (first | (with_reducible first | exact HB.out | apply below_alloc | apply pw_below_drewN | apply below_drew1 | refine below_set ?_ (Aside0.out GE366) | refine below_set ?_ (Aside0.out GE371)) | exact HB.out))) hb); clear HO_2; clear HO_11; clear HO_367000; clear HO_372000; clear BK366; clear BK371; clear HB; have HO_2 := n0_; have HO_11 := n1_; have HO_367000 := n2_; have HO_372000 := n3_; have HO396 := n4_; have BK366 := n5_; have BK371 := n6_; have HB := n7_; clear n0_ n1_ n2_ n3_ n4_ n5_ n6_ n7_; ((try clear hb); (try clear hb2); (try clear hk); (try clear hi); (try clear ho0))) | ((with_reducible refine gate_callee (f := 24) rfl ?_); refine goesL_ (some 91) rfl rfl Tryd.func24 (by kernel_rfl) rfl #[.slice Ao95 t359.length co95] rfl (by ((try simp only [List.map_toArray, List.map_cons, List.map_nil]); first | done | rfl | (simp only [List.length_drop, List.length_take]; rfl))) ?_; (with_reducible refine (ostiaryref10_From.calls k2 _ _ t359 t397 _ ?side1 ?side2 A75.out).mono ?_); (case side1 => repeat (first | exact (Kd.R_reads' HO_2.out).2.2 | (first | (with_reducible refine Kd.C_alloc ?_ _) | (with_reducible refine Kd.C_drewN ?_ _) | (with_reducible refine Kd.C_drew ?_)))); (case side2 => exact (Kd.R_reads' HO_2.out).2.1); rintro e w97 ⟨v398, rfl, ho0, hb⟩; refine ⟨_, rfl, ?_⟩; have n0_ := Am (Kd.R_below (by (with_reducible repeat (first | apply Kd.R_alloc | apply Kd.R_drewN | apply Kd.R_drew)); exact HO_2.out) hb); have n1_ := Am (Kd.R_below (by (with_reducible repeat (first | apply Kd.R_alloc | apply Kd.R_drewN | apply Kd.R_drew)); exact HO_11.out) hb); have n2_ := Am (Kd.N_elder' (by (with_reducible repeat (first | apply Kd.N_alloc | apply Kd.N_drewN | apply Kd.N_drew)); exact HO_367000.out) (by first | exact Kd.N_base ho0 | exact Kd.R_base ho0) hb); have n3_ := Am (Kd.N_elder' (by (with_reducible repeat (first | apply Kd.N_alloc | apply Kd.N_drewN | apply Kd.N_drew)); exact HO_372000.out) (by first | exact Kd.N_base ho0 | exact Kd.R_base ho0) hb); have n4_ := Am (Kd.N_elder' (by (with_reducible repeat (first | apply Kd.N_alloc | apply Kd.N_drewN | apply Kd.N_drew)); exact HO396.out) (by first | exact Kd.N_base ho0 | exact Kd.R_base ho0) hb); have n5_ := Am (Kd.N_lower (Kd.N_mono (ok' := fun k_ => some k_ ≠ (.slice Ao95 t359.length co95 : Value).ownBlock ∧ some k_ ≠ (.slice Ao94 y378.length co94 : Value).ownBlock ∧ some k_ ≠ (.slice Ao13 t362.length co13 : Value).ownBlock ∧ some k_ ≠ (.slice Ao17 t367.length co17 : Value).ownBlock ∧ some k_ ≠ (v395 : Value).ownBlock ∧ k_ ≠ gb366 ∧ k_ ≠ gb371) ho0 (fun k_ hk_ => ⟨(Kd.fresh' (Kd.R_lt (by (with_reducible repeat (first | apply Kd.R_alloc | apply Kd.R_drewN | apply Kd.R_drew)); exact HO_2.out)) k_ hk_), (Kd.fresh' (Kd.R_lt (by (with_reducible repeat (first | apply Kd.R_alloc | apply Kd.R_drewN | apply Kd.R_drew)); exact HO_11.out)) k_ hk_), (Kd.fresh' (Kd.N_lt (by (with_reducible repeat (first | apply Kd.N_alloc | apply Kd.N_drewN | apply Kd.N_drew)); exact HO_367000.out)) k_ hk_), (Kd.fresh' (Kd.N_lt (by (with_reducible repeat (first | apply Kd.N_alloc | apply Kd.N_drewN | apply Kd.N_drew)); exact HO_372000.out)) k_ hk_), (Kd.fresh' (Kd.N_lt (by (with_reducible repeat (first | apply Kd.N_alloc | apply Kd.N_drewN | apply Kd.N_drew)); exact HO396.out)) k_ hk_), (Kd.freshB (g := gb366) (o := .cells #[.slice Ao13 t362.length co13, .bool t365] 33 (0, 0)) (by (with_reducible repeat (first | refine blk_drewN ?_ _ | refine blk_drew ?_ | refine blk_alloc ?_ _)); exact BK366.out) k_ hk_), (Kd.freshB (g := gb371) (o := .cells #[.slice Ao17 t367.length co17, .bool t370] 41 (0, 0)) (by (with_reducible repeat (first | refine blk_drewN ?_ _ | refine blk_drew ?_ | refine blk_alloc ?_ _)); exact BK371.out) k_ hk_)⟩)) (below_size (by (repeat (first | (with_reducible first | exact HB.out | apply below_alloc | apply pw_below_drewN | apply below_drew1 | refine below_set ?_ (Aside0.out GE366) | refine below_set ?_ (Aside0.out GE371)) | exact HB.out))))); have n6_ := Am (blk_below (g := gb366) (o := .cells #[.slice Ao13 t362.length co13, .bool t365] 33 (0, 0)) (by (with_reducible repeat (first | refine blk_drewN ?_ _ | refine blk_drew ?_ | refine blk_alloc ?_ _)); exact BK366.out) hb); have n7_ := Am (blk_below (g := gb371) (o := .cells #[.slice Ao17 t367.length co17, .bool t370] 41 (0, 0)) (by (with_reducible repeat (first | refine blk_drewN ?_ _ | refine blk_drew ?_ | refine blk_alloc ?_ _)); exact BK371.out) hb); have n8_ := Am (below_step (by (repeat (first | (with_reducible first | exact HB.out | apply below_alloc | apply pw_below_drewN | apply below_drew1 | refine below_set ?_ (Aside0.out GE366) | refine below_set ?_ (Aside0.out GE371)) | exact HB.out))) hb); clear HO_2; clear HO_11; clear HO_367000; clear HO_372000; clear HO396; clear BK366; clear BK371; clear HB; have HO_2 := n0_; have HO_11 := n1_; have HO_367000 := n2_; have HO_372000 := n3_; have HO396 := n4_; have HO399 := n5_; have BK366 := n6_; have BK371 := n7_; have HB := n8_; clear n0_ n1_ n2_ n3_ n4_ n5_ n6_ n7_ n8_; ((try clear hb); (try clear hb2); (try clear hk); (try clear hi); (try clear ho0)); obtain ⟨Ao98, co98, eo98⟩ := Kd.N_slice HO396.out; subst eo98; obtain ⟨Ao99, co99, eo99⟩ := Kd.N_slice HO399.out; subst eo99))
                go_ret
                exact ⟨by (first | rfl | (simp [errW_none, errW_some] <;> rfl) | (simp [*, errW_none, errW_some] <;> rfl)), by (repeat (first | (with_reducible first | exact HB.out | apply below_alloc | apply pw_below_drewN | apply below_drew1 | refine below_set ?_ (Aside0.out GE366) | refine below_set ?_ (Aside0.out GE371)) | exact HB.out))⟩

end Go.Proofs.YtohcjdninpjpgaaDoor.PX
