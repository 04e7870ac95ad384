/- PolicyNumbers: the walk, printed by a program; the loop over string(rune) put in by hand. -/
import Derived.Test.YtohcjdninpjpgaaDoorPXx1
import Derived.Test.YtohcjdninpjpgaaDoorPXx2
import Derived.Test.YtohcjdninpjpgaaDoorPXx3
import Derived.Test.YtohcjdninpjpgaaDoorBytes
import Derived.Test.YtohcjdninpjpgaaDoorVGet
namespace Go.Proofs.YtohcjdninpjpgaaDoor.PX
open Go.Proofs.YtohcjdninpjpgaaDoor.Own
open Go.RowKit Go.Proofs.YtohcjdninpjpgaaDoorW.PrintWords Go.Proofs.YtohcjdninpjpgaaDoorW.PrintLast Go.Proofs.YtohcjdninpjpgaaDoorW.PrintMore
attribute [local go_sem] max2_int min2_int max_two min_two max_three min_three max_four min_four   -- for this text's walks alone
set_option linter.unusedVariables false
set_option linter.unusedSimpArgs false

def chA (x : Int) : ByteArray := Utf8.encode (97 + x % 26)
def chB (x : Int) : ByteArray := Utf8.encode (97 + x / 26)

theorem field33_0 (v b : Value) (w : World) : (Instr.field 33 (.agg #[v, b]) 0).run Tryd.prog w = .ok v w := by
  have hu33 := Tryd.underlying33
  have a31 := Tryd.isAgg31
  have z31 := Tryd.sizeOf31
  simp [Instr.field, run_underlying hu33, asAgg, part, go_sem]
theorem field33_1 (v b : Value) (w : World) : (Instr.field 33 (.agg #[v, b]) 1).run Tryd.prog w = .ok b w := by
  have hu33 := Tryd.underlying33
  have a4 := Tryd.isAgg4
  have z4 := Tryd.sizeOf4
  simp [Instr.field, run_underlying hu33, asAgg, part, go_sem]
attribute [local go_sem] field33_0 field33_1

theorem chA_at {x : Int} (h0 : 0 ≤ x) (h1 : x < 40) : (chA x).size = 1 := by
  have : ∀ n : Fin 40, (chA (n.1 : Int)).size = 1 := by decide
  have := this ⟨x.toNat, by omega⟩
  rwa [Int.toNat_of_nonneg h0] at this
theorem chB_at {x : Int} (h0 : 0 ≤ x) (h1 : x < 40) : (chB x).size = 1 := by
  have : ∀ n : Fin 40, (chB (n.1 : Int)).size = 1 := by decide
  have := this ⟨x.toNat, by omega⟩
  rwa [Int.toNat_of_nonneg h0] at this

/-! ### ostiarylaw10_PolicyNumbers: function 3 -/
mutual
def ostiarylaw10_PolicyNumbers.l0 : Nat → List ByteArray → Int → Option (Bool)
  | 0, _, _ => none
  | k + 1, x1, x2 => if x2 < (x1.length : Int) then (if 0 ≤ x2 then ((policy_Chain.f k (rdOf ByteArray.empty x1 x2)).bind fun t266 => ((ostiaryref10_Chain.f k (rdOf ByteArray.empty x1 x2)).bind fun t270 => ((ostiarybook_Same_string.f k t266 t270).bind fun t273 => (if t273 = true then (ostiarylaw10_PolicyNumbers.l0 k x1 (wrap64 (x2 + 1))) else (some false))))) else (none)) else (ostiarylaw10_PolicyNumbers.l1 k (-1))
def ostiarylaw10_PolicyNumbers.l1 : Nat → Int → Option (Bool)
  | 0, _ => none
  | k + 1, x3 => if x3 < 9 then ((policy_For.f x3).bind fun t274 => ((ostiaryref10_For.f x3).bind fun t275 => (if t274.toList = t275.toList then (ostiarylaw10_PolicyNumbers.l1 k (wrap64 (x3 + 1))) else (some false)))) else (ostiarylaw10_PolicyNumbers.l2 k (⟨#[]⟩ : ByteArray) 0)
def ostiarylaw10_PolicyNumbers.l2 : Nat → ByteArray → Int → Option (Bool)
  | 0, _, _ => none
  | k + 1, x4, x5 => if x5 < 40 then (if 0 ≤ x5 then (if x4.size + 1 ≤ 9223372036854775807 then (if (x4 ++ (⟨#[97]⟩ : ByteArray)).size + 1 ≤ 9223372036854775807 then (if ((x4 ++ (⟨#[97]⟩ : ByteArray)) ++ (chA x5)).size + 1 ≤ 9223372036854775807 then (if (((x4 ++ (⟨#[97]⟩ : ByteArray)) ++ (chA x5)) ++ (chB x5)).size + 1 ≤ 9223372036854775807 then (ostiarylaw10_PolicyNumbers.l2 k ((((x4 ++ (⟨#[97]⟩ : ByteArray)) ++ (chA x5)) ++ (chB x5)) ++ (⟨#[59]⟩ : ByteArray)) (wrap64 (x5 + 1))) else (none)) else (none)) else (none)) else (none)) else (none)) else ((policy_From.f k (([(⟨(⟨#[67, 111, 110, 116, 101, 110, 116, 45, 83, 101, 99, 117, 114, 105, 116, 121, 45, 80, 111, 108, 105, 99, 121, 45, 82, 101, 112, 111, 114, 116, 45, 79, 110, 108, 121]⟩ : ByteArray), (⟨#[97]⟩ : ByteArray)⟩ : S29), (⟨(⟨#[99, 111, 110, 116, 101, 110, 116, 45, 115, 101, 99, 117, 114, 105, 116, 121, 45, 112, 111, 108, 105, 99, 121]⟩ : ByteArray), (⟨#[98, 44, 32, 44, 99, 32, 100]⟩ : ByteArray)⟩ : S29)] : List (S29)))).bind fun t279 => ((policy_Parse.f k x4 false).bind fun bt282 => (if (bt282.1.length : Int) = 32 then ((policy_Parse.f k (⟨#[]⟩ : ByteArray) true).bind fun bt286 => (if (bt286.1.length : Int) = 0 then ((policy_Parse.f k (⟨#[]⟩ : ByteArray) true).bind fun bt290 => (if bt290.2 = true then (if (t279.length : Int) = 3 then (if 0 < (t279.length : Int) then ((policy_Text.f k ((rd_T33 t279 0).f0) ((rd_T33 t279 0).f1)).bind fun t295 => (if t295.toList = ([98] : List UInt8) then (if 1 < (t279.length : Int) then ((policy_Text.f k ((rd_T33 t279 1).f0) ((rd_T33 t279 1).f1)).bind fun t297 => (if t297.toList = ([99, 32, 100] : List UInt8) then (if 2 < (t279.length : Int) then (if (rd_T33 t279 2).f1 = true then ((policy_From.f k ([] : List (S29))).bind fun t299 => (if (t299.length : Int) = 0 then ((ostiarylaw10_known.f k).bind fun t302 => (some t302)) else (some false))) else (some false)) else (none)) else (some false))) else (none)) else (some false))) else (none)) else (some false)) else (some false))) else (some false))) else (some false))))
end
def ostiarylaw10_PolicyNumbers.f (k : Nat)  : Option (Bool) := ostiarylaw10_PolicyNumbers.l0 k (([(⟨#[120]⟩ : ByteArray), (⟨#[]⟩ : ByteArray), (⟨#[115, 99, 114, 105, 112, 116, 45, 115, 114, 99, 45, 101, 108, 101, 109]⟩ : ByteArray), (⟨#[115, 116, 121, 108, 101, 45, 115, 114, 99, 45, 101, 108, 101, 109]⟩ : ByteArray), (⟨#[119, 111, 114, 107, 101, 114, 45, 115, 114, 99]⟩ : ByteArray), (⟨#[102, 114, 97, 109, 101, 45, 115, 114, 99]⟩ : ByteArray), (⟨#[99, 111, 110, 110, 101, 99, 116, 45, 115, 114, 99]⟩ : ByteArray), (⟨#[102, 111, 110, 116, 45, 115, 114, 99]⟩ : ByteArray), (⟨#[105, 109, 103, 45, 115, 114, 99]⟩ : ByteArray), (⟨#[109, 101, 100, 105, 97, 45, 115, 114, 99]⟩ : ByteArray), (⟨#[115, 99, 114, 105, 112, 116, 45, 115, 114, 99]⟩ : ByteArray), (⟨#[115, 116, 121, 108, 101, 45, 115, 114, 99]⟩ : ByteArray), (⟨#[99, 104, 105, 108, 100, 45, 115, 114, 99]⟩ : ByteArray), (⟨#[111, 98, 106, 101, 99, 116, 45, 115, 114, 99]⟩ : ByteArray), (⟨#[100, 101, 102, 97, 117, 108, 116, 45, 115, 114, 99]⟩ : ByteArray)] : List ByteArray)) 0
theorem ostiarylaw10_PolicyNumbers.mono_l : ∀ k, (∀ y0 y1, LeO (ostiarylaw10_PolicyNumbers.l0 k y0 y1) (ostiarylaw10_PolicyNumbers.l0 (k + 1) y0 y1)) ∧ (∀ y0, LeO (ostiarylaw10_PolicyNumbers.l1 k y0) (ostiarylaw10_PolicyNumbers.l1 (k + 1) y0)) ∧ (∀ y0 y1, LeO (ostiarylaw10_PolicyNumbers.l2 k y0 y1) (ostiarylaw10_PolicyNumbers.l2 (k + 1) y0 y1))
  | 0 => ⟨fun _ _ r h => by simp [ostiarylaw10_PolicyNumbers.l0] at h, fun _ r h => by simp [ostiarylaw10_PolicyNumbers.l1] at h, fun _ _ r h => by simp [ostiarylaw10_PolicyNumbers.l2] at h⟩
  | k + 1 => by
    obtain ⟨ih0, ih1, ih2⟩ := ostiarylaw10_PolicyNumbers.mono_l k
    refine ⟨?_, ?_, ?_⟩
    · intro y0 y1
      unfold ostiarylaw10_PolicyNumbers.l0
      repeat' first
      | (with_reducible exact ih0 _ _)
      | (with_reducible exact ih1 _)
      | (with_reducible exact ih2 _ _)
      | (with_reducible exact ostiarybook_Same_string.mono _ _ _)
      | (with_reducible exact ostiarylaw10_known.mono _)
      | (with_reducible exact ostiaryref10_Chain.mono _ _)
      | (with_reducible exact policy_Chain.mono _ _)
      | (with_reducible exact policy_From.mono _ _)
      | (with_reducible exact policy_Parse.mono _ _ _)
      | (with_reducible exact policy_Text.mono _ _ _)
      | (with_reducible exact LeO.refl _)
      | (with_reducible exact LeO.none _)
      | (with_reducible refine LeO.ite ?_ ?_)
      | (with_reducible refine LeO.bind ?_ (fun _ => ?_))
      | exact ih0 _ _
      | exact ih1 _
      | exact ih2 _ _
      | exact ostiarybook_Same_string.mono _ _ _
      | exact ostiarylaw10_known.mono _
      | exact ostiaryref10_Chain.mono _ _
      | exact policy_Chain.mono _ _
      | exact policy_From.mono _ _
      | exact policy_Parse.mono _ _ _
      | exact policy_Text.mono _ _ _
      | exact LeO.none _
      | refine LeO.ite ?_ ?_
      | refine LeO.bind ?_ (fun _ => ?_)
    · intro y0
      unfold ostiarylaw10_PolicyNumbers.l1
      repeat' first
      | (with_reducible exact ih0 _ _)
      | (with_reducible exact ih1 _)
      | (with_reducible exact ih2 _ _)
      | (with_reducible exact ostiarybook_Same_string.mono _ _ _)
      | (with_reducible exact ostiarylaw10_known.mono _)
      | (with_reducible exact ostiaryref10_Chain.mono _ _)
      | (with_reducible exact policy_Chain.mono _ _)
      | (with_reducible exact policy_From.mono _ _)
      | (with_reducible exact policy_Parse.mono _ _ _)
      | (with_reducible exact policy_Text.mono _ _ _)
      | (with_reducible exact LeO.refl _)
      | (with_reducible exact LeO.none _)
      | (with_reducible refine LeO.ite ?_ ?_)
      | (with_reducible refine LeO.bind ?_ (fun _ => ?_))
      | exact ih0 _ _
      | exact ih1 _
      | exact ih2 _ _
      | exact ostiarybook_Same_string.mono _ _ _
      | exact ostiarylaw10_known.mono _
      | exact ostiaryref10_Chain.mono _ _
      | exact policy_Chain.mono _ _
      | exact policy_From.mono _ _
      | exact policy_Parse.mono _ _ _
      | exact policy_Text.mono _ _ _
      | exact LeO.none _
      | refine LeO.ite ?_ ?_
      | refine LeO.bind ?_ (fun _ => ?_)
    · intro y0 y1
      unfold ostiarylaw10_PolicyNumbers.l2
      repeat' first
      | (with_reducible exact ih0 _ _)
      | (with_reducible exact ih1 _)
      | (with_reducible exact ih2 _ _)
      | (with_reducible exact ostiarybook_Same_string.mono _ _ _)
      | (with_reducible exact ostiarylaw10_known.mono _)
      | (with_reducible exact ostiaryref10_Chain.mono _ _)
      | (with_reducible exact policy_Chain.mono _ _)
      | (with_reducible exact policy_From.mono _ _)
      | (with_reducible exact policy_Parse.mono _ _ _)
      | (with_reducible exact policy_Text.mono _ _ _)
      | (with_reducible exact LeO.refl _)
      | (with_reducible exact LeO.none _)
      | (with_reducible refine LeO.ite ?_ ?_)
      | (with_reducible refine LeO.bind ?_ (fun _ => ?_))
      | exact ih0 _ _
      | exact ih1 _
      | exact ih2 _ _
      | exact ostiarybook_Same_string.mono _ _ _
      | exact ostiarylaw10_known.mono _
      | exact ostiaryref10_Chain.mono _ _
      | exact policy_Chain.mono _ _
      | exact policy_From.mono _ _
      | exact policy_Parse.mono _ _ _
      | exact policy_Text.mono _ _ _
      | exact LeO.none _
      | refine LeO.ite ?_ ?_
      | refine LeO.bind ?_ (fun _ => ?_)
theorem ostiarylaw10_PolicyNumbers.mono : ∀ k, LeO (ostiarylaw10_PolicyNumbers.f k ) (ostiarylaw10_PolicyNumbers.f (k + 1) ) := by
  intro  k
  obtain ⟨ih0, ih1, ih2⟩ := ostiarylaw10_PolicyNumbers.mono_l k
  unfold ostiarylaw10_PolicyNumbers.f
  repeat' first
      | (with_reducible exact ih0 _ _)
      | (with_reducible exact ih1 _)
      | (with_reducible exact ih2 _ _)
      | (with_reducible exact ostiarybook_Same_string.mono _ _ _)
      | (with_reducible exact ostiarylaw10_known.mono _)
      | (with_reducible exact ostiaryref10_Chain.mono _ _)
      | (with_reducible exact policy_Chain.mono _ _)
      | (with_reducible exact policy_From.mono _ _)
      | (with_reducible exact policy_Parse.mono _ _ _)
      | (with_reducible exact policy_Text.mono _ _ _)
      | (with_reducible exact LeO.refl _)
      | (with_reducible exact LeO.none _)
      | (with_reducible refine LeO.ite ?_ ?_)
      | (with_reducible refine LeO.bind ?_ (fun _ => ?_))
      | exact ih0 _ _
      | exact ih1 _
      | exact ih2 _ _
      | exact ostiarybook_Same_string.mono _ _ _
      | exact ostiarylaw10_known.mono _
      | exact ostiaryref10_Chain.mono _ _
      | exact policy_Chain.mono _ _
      | exact policy_From.mono _ _
      | exact policy_Parse.mono _ _ _
      | exact policy_Text.mono _ _ _
      | exact LeO.none _
      | refine LeO.ite ?_ ?_
      | refine LeO.bind ?_ (fun _ => ?_)
def ostiarylaw10_PolicyNumbers.T5 : Bool × List (List Nat × List Nat) := (true, [([], []), ([], []), ([0, 1], [0, 1]), ([2], [2]), ([3], [3]), ([], []), ([], []), ([5, 6], [5, 6]), ([7], [7]), ([8, 4], [8]), ([4, 9, 9], [4, 9]), ([10], [10])])
def ostiarylaw10_PolicyNumbers.B5 : List Nat := [0, 0, 3, 7, 15, 0, 0, 96, 224, 511, 1023, 2047]
theorem ostiarylaw10_PolicyNumbers.tab5 : rtab .any (opsOf Tryd.f3 5) = ostiarylaw10_PolicyNumbers.T5 := by kernel_rfl
theorem ostiarylaw10_PolicyNumbers.bits5 : waitsOk ostiarylaw10_PolicyNumbers.T5.2 ostiarylaw10_PolicyNumbers.B5 = true := by kernel_rfl
set_option maxHeartbeats 8000000 in
set_option maxRecDepth 100000 in
theorem ostiarylaw10_PolicyNumbers.calls (k : Nat)  (r : Bool) (w : World) (h : ostiarylaw10_PolicyNumbers.f k  = some r) (hrt : Aside0 (r = true)) :
    Calls Tryd.prog 3 #[] w fun e w' => e = .returned (.bool r) ∧ Below w.heap.size w w' := by
  have hu29 := Tryd.underlying29
  have hu33 := Tryd.underlying33
  have HB := Am (Below.refl w.heap.size w)
  have H : (ostiarylaw10_PolicyNumbers.l0 k (([(⟨#[120]⟩ : ByteArray), (⟨#[]⟩ : ByteArray), (⟨#[115, 99, 114, 105, 112, 116, 45, 115, 114, 99, 45, 101, 108, 101, 109]⟩ : ByteArray), (⟨#[115, 116, 121, 108, 101, 45, 115, 114, 99, 45, 101, 108, 101, 109]⟩ : ByteArray), (⟨#[119, 111, 114, 107, 101, 114, 45, 115, 114, 99]⟩ : ByteArray), (⟨#[102, 114, 97, 109, 101, 45, 115, 114, 99]⟩ : ByteArray), (⟨#[99, 111, 110, 110, 101, 99, 116, 45, 115, 114, 99]⟩ : ByteArray), (⟨#[102, 111, 110, 116, 45, 115, 114, 99]⟩ : ByteArray), (⟨#[105, 109, 103, 45, 115, 114, 99]⟩ : ByteArray), (⟨#[109, 101, 100, 105, 97, 45, 115, 114, 99]⟩ : ByteArray), (⟨#[115, 99, 114, 105, 112, 116, 45, 115, 114, 99]⟩ : ByteArray), (⟨#[115, 116, 121, 108, 101, 45, 115, 114, 99]⟩ : ByteArray), (⟨#[99, 104, 105, 108, 100, 45, 115, 114, 99]⟩ : ByteArray), (⟨#[111, 98, 106, 101, 99, 116, 45, 115, 114, 99]⟩ : ByteArray), (⟨#[100, 101, 102, 97, 117, 108, 116, 45, 115, 114, 99]⟩ : ByteArray)] : List ByteArray)) 0) = some r := h
  clear h
  obtain ⟨y262, hy262⟩ : ∃ y_ : List ByteArray, y_ = (([(⟨#[120]⟩ : ByteArray), (⟨#[]⟩ : ByteArray), (⟨#[115, 99, 114, 105, 112, 116, 45, 115, 114, 99, 45, 101, 108, 101, 109]⟩ : ByteArray), (⟨#[115, 116, 121, 108, 101, 45, 115, 114, 99, 45, 101, 108, 101, 109]⟩ : ByteArray), (⟨#[119, 111, 114, 107, 101, 114, 45, 115, 114, 99]⟩ : ByteArray), (⟨#[102, 114, 97, 109, 101, 45, 115, 114, 99]⟩ : ByteArray), (⟨#[99, 111, 110, 110, 101, 99, 116, 45, 115, 114, 99]⟩ : ByteArray), (⟨#[102, 111, 110, 116, 45, 115, 114, 99]⟩ : ByteArray), (⟨#[105, 109, 103, 45, 115, 114, 99]⟩ : ByteArray), (⟨#[109, 101, 100, 105, 97, 45, 115, 114, 99]⟩ : ByteArray), (⟨#[115, 99, 114, 105, 112, 116, 45, 115, 114, 99]⟩ : ByteArray), (⟨#[115, 116, 121, 108, 101, 45, 115, 114, 99]⟩ : ByteArray), (⟨#[99, 104, 105, 108, 100, 45, 115, 114, 99]⟩ : ByteArray), (⟨#[111, 98, 106, 101, 99, 116, 45, 115, 114, 99]⟩ : ByteArray), (⟨#[100, 101, 102, 97, 117, 108, 116, 45, 115, 114, 99]⟩ : ByteArray)] : List ByteArray)) := ⟨_, rfl⟩
  replace H : (ostiarylaw10_PolicyNumbers.l0 k y262 0) = some r := by first | (rw [hy262]; with_reducible exact H) | (have H2_ := (Option.bind_some _ _).symm.trans H; rw [hy262]; with_reducible exact H2_) | (have H2_ := (Option.bind_some _ _).symm.trans H; with_reducible exact H2_) | with_reducible exact H | (rw [hy262]; exact H) | exact H
  have Ny262 := Aside0.mk hy262
  clear hy262
  have H' := Aside0.mk H
  clear H
  go_enter Tryd.func3, Tryd.ntmps3
  go_wp2_with (first | ((with_reducible refine gate_dst (N := 7) rfl ?_); (try (refine gate_guard (by rfl) ?_; dsimp only)); refine Kd.R_lit Kd.string _ 9 ?hg (N := 7) ?hd (xs := ([(⟨#[120]⟩ : ByteArray), (⟨#[]⟩ : ByteArray), (⟨#[115, 99, 114, 105, 112, 116, 45, 115, 114, 99, 45, 101, 108, 101, 109]⟩ : ByteArray), (⟨#[115, 116, 121, 108, 101, 45, 115, 114, 99, 45, 101, 108, 101, 109]⟩ : ByteArray), (⟨#[119, 111, 114, 107, 101, 114, 45, 115, 114, 99]⟩ : ByteArray), (⟨#[102, 114, 97, 109, 101, 45, 115, 114, 99]⟩ : ByteArray), (⟨#[99, 111, 110, 110, 101, 99, 116, 45, 115, 114, 99]⟩ : ByteArray), (⟨#[102, 111, 110, 116, 45, 115, 114, 99]⟩ : ByteArray), (⟨#[105, 109, 103, 45, 115, 114, 99]⟩ : ByteArray), (⟨#[109, 101, 100, 105, 97, 45, 115, 114, 99]⟩ : ByteArray), (⟨#[115, 99, 114, 105, 112, 116, 45, 115, 114, 99]⟩ : ByteArray), (⟨#[115, 116, 121, 108, 101, 45, 115, 114, 99]⟩ : ByteArray), (⟨#[99, 104, 105, 108, 100, 45, 115, 114, 99]⟩ : ByteArray), (⟨#[111, 98, 106, 101, 99, 116, 45, 115, 114, 99]⟩ : ByteArray), (⟨#[100, 101, 102, 97, 117, 108, 116, 45, 115, 114, 99]⟩ : ByteArray)] : List ByteArray)) (inner := [.string (⟨#[120]⟩ : ByteArray), .string (⟨#[]⟩ : ByteArray), .string (⟨#[115, 99, 114, 105, 112, 116, 45, 115, 114, 99, 45, 101, 108, 101, 109]⟩ : ByteArray), .string (⟨#[115, 116, 121, 108, 101, 45, 115, 114, 99, 45, 101, 108, 101, 109]⟩ : ByteArray), .string (⟨#[119, 111, 114, 107, 101, 114, 45, 115, 114, 99]⟩ : ByteArray), .string (⟨#[102, 114, 97, 109, 101, 45, 115, 114, 99]⟩ : ByteArray), .string (⟨#[99, 111, 110, 110, 101, 99, 116, 45, 115, 114, 99]⟩ : ByteArray), .string (⟨#[102, 111, 110, 116, 45, 115, 114, 99]⟩ : ByteArray), .string (⟨#[105, 109, 103, 45, 115, 114, 99]⟩ : ByteArray), .string (⟨#[109, 101, 100, 105, 97, 45, 115, 114, 99]⟩ : ByteArray), .string (⟨#[115, 99, 114, 105, 112, 116, 45, 115, 114, 99]⟩ : ByteArray), .string (⟨#[115, 116, 121, 108, 101, 45, 115, 114, 99]⟩ : ByteArray), .string (⟨#[99, 104, 105, 108, 100, 45, 115, 114, 99]⟩ : ByteArray), .string (⟨#[111, 98, 106, 101, 99, 116, 45, 115, 114, 99]⟩ : ByteArray), .string (⟨#[100, 101, 102, 97, 117, 108, 116, 45, 115, 114, 99]⟩ : ByteArray)]) (ok := fun _ => True) (okp := fun _ => True) ?hr ?hp (fun _ hk => hk) trivial (Below.refl _ _) (Nat.le_refl _) (by simp) ?_; ((case hd => rfl); (case hg => rfl); (case hr => first | (go_simp; done) | (go_simp; rfl))); (case hp => exact (Reps.one (show Kd.M Kd.string _ _ _ (⟨#[120]⟩ : ByteArray) [.string (⟨#[120]⟩ : ByteArray)] from rfl) (Reps.one (show Kd.M Kd.string _ _ _ (⟨#[]⟩ : ByteArray) [.string (⟨#[]⟩ : ByteArray)] from rfl) (Reps.one (show Kd.M Kd.string _ _ _ (⟨#[115, 99, 114, 105, 112, 116, 45, 115, 114, 99, 45, 101, 108, 101, 109]⟩ : ByteArray) [.string (⟨#[115, 99, 114, 105, 112, 116, 45, 115, 114, 99, 45, 101, 108, 101, 109]⟩ : ByteArray)] from rfl) (Reps.one (show Kd.M Kd.string _ _ _ (⟨#[115, 116, 121, 108, 101, 45, 115, 114, 99, 45, 101, 108, 101, 109]⟩ : ByteArray) [.string (⟨#[115, 116, 121, 108, 101, 45, 115, 114, 99, 45, 101, 108, 101, 109]⟩ : ByteArray)] from rfl) (Reps.one (show Kd.M Kd.string _ _ _ (⟨#[119, 111, 114, 107, 101, 114, 45, 115, 114, 99]⟩ : ByteArray) [.string (⟨#[119, 111, 114, 107, 101, 114, 45, 115, 114, 99]⟩ : ByteArray)] from rfl) (Reps.one (show Kd.M Kd.string _ _ _ (⟨#[102, 114, 97, 109, 101, 45, 115, 114, 99]⟩ : ByteArray) [.string (⟨#[102, 114, 97, 109, 101, 45, 115, 114, 99]⟩ : ByteArray)] from rfl) (Reps.one (show Kd.M Kd.string _ _ _ (⟨#[99, 111, 110, 110, 101, 99, 116, 45, 115, 114, 99]⟩ : ByteArray) [.string (⟨#[99, 111, 110, 110, 101, 99, 116, 45, 115, 114, 99]⟩ : ByteArray)] from rfl) (Reps.one (show Kd.M Kd.string _ _ _ (⟨#[102, 111, 110, 116, 45, 115, 114, 99]⟩ : ByteArray) [.string (⟨#[102, 111, 110, 116, 45, 115, 114, 99]⟩ : ByteArray)] from rfl) (Reps.one (show Kd.M Kd.string _ _ _ (⟨#[105, 109, 103, 45, 115, 114, 99]⟩ : ByteArray) [.string (⟨#[105, 109, 103, 45, 115, 114, 99]⟩ : ByteArray)] from rfl) (Reps.one (show Kd.M Kd.string _ _ _ (⟨#[109, 101, 100, 105, 97, 45, 115, 114, 99]⟩ : ByteArray) [.string (⟨#[109, 101, 100, 105, 97, 45, 115, 114, 99]⟩ : ByteArray)] from rfl) (Reps.one (show Kd.M Kd.string _ _ _ (⟨#[115, 99, 114, 105, 112, 116, 45, 115, 114, 99]⟩ : ByteArray) [.string (⟨#[115, 99, 114, 105, 112, 116, 45, 115, 114, 99]⟩ : ByteArray)] from rfl) (Reps.one (show Kd.M Kd.string _ _ _ (⟨#[115, 116, 121, 108, 101, 45, 115, 114, 99]⟩ : ByteArray) [.string (⟨#[115, 116, 121, 108, 101, 45, 115, 114, 99]⟩ : ByteArray)] from rfl) (Reps.one (show Kd.M Kd.string _ _ _ (⟨#[99, 104, 105, 108, 100, 45, 115, 114, 99]⟩ : ByteArray) [.string (⟨#[99, 104, 105, 108, 100, 45, 115, 114, 99]⟩ : ByteArray)] from rfl) (Reps.one (show Kd.M Kd.string _ _ _ (⟨#[111, 98, 106, 101, 99, 116, 45, 115, 114, 99]⟩ : ByteArray) [.string (⟨#[111, 98, 106, 101, 99, 116, 45, 115, 114, 99]⟩ : ByteArray)] from rfl) (Reps.one (show Kd.M Kd.string _ _ _ (⟨#[100, 101, 102, 97, 117, 108, 116, 45, 115, 114, 99]⟩ : ByteArray) [.string (⟨#[100, 101, 102, 97, 117, 108, 116, 45, 115, 114, 99]⟩ : ByteArray)] from rfl) (Reps.none _ _))))))))))))))))); intro v263 w1 ho2 hb hg_ hnew_; clear hg_ hnew_; (first | rw [← Ny262.out] at ho2 | (simp only [Int.reduceToNat] at ho2; rw [← Ny262.out] at ho2)); have n0_ := Am (Kd.R_lower ho2 (below_size (by (repeat (first | (with_reducible first | exact HB.out | apply below_alloc | apply pw_below_drewN | apply below_drew1) | exact HB.out))))); have n1_ := Am (below_step (by (repeat (first | (with_reducible first | exact HB.out | apply below_alloc | apply pw_below_drewN | apply below_drew1) | exact HB.out))) hb); clear HB; have HO264 := n0_; have HB := n1_; clear n0_ n1_; clear hb ho2))
  go_loopg [2] k (fun kq v2 w' => ∃ (x2_1 : Int), v2 = .int .i64 x2_1 ∧ Aside0 (ostiarylaw10_PolicyNumbers.l0 kq y262 x2_1 = some r) ∧ Aside0 (kq ≤ k) ∧ Aside0 (Kd.R Kd.string 9 w' w.heap.size (fun _ => True) v263 y262) ∧ Aside0 (Below w.heap.size w w'))
  case atStart => exact ⟨(0), (by first | rfl | (simp; done) | (simp [*]; done)), H', ⟨Nat.le_refl _⟩, ⟨by (with_reducible repeat (first | apply Kd.R_alloc | apply Kd.R_drewN | apply Kd.R_drew)); exact HO264.out⟩, ⟨by (repeat (first | (with_reducible first | exact HB.out | apply below_alloc | apply pw_below_drewN | apply below_drew1) | exact HB.out))⟩⟩
  case round =>
    clear H'
    try clear p2
    obtain ⟨x2_1, rfl, HA, HK1, HO_1, HB⟩ := hrel
    cases gk with
    | zero => exact absurd HA.out (by simp [ostiarylaw10_PolicyNumbers.l0])
    | succ k1 =>
      have H := HA.out
      clear HA
      simp only [ostiarylaw10_PolicyNumbers.l0] at H
      by_cases c3 : x2_1 < (y262.length : Int)
      · rw [if_pos c3] at H
        have c3b0 : decide (x2_1 < (y262.length : Int)) = true := decide_eq_true c3
        clear c3
        by_cases c4 : 0 ≤ x2_1
        · rw [if_pos c4] at H
          have c4b0 : decide (0 ≤ x2_1) = true := decide_eq_true c4
          clear c4
          replace H := Option.bind_eq_some_iff.mp H
          obtain ⟨t266, A50, H⟩ := H
          replace H : ((ostiaryref10_Chain.f k1 (rdOf ByteArray.empty y262 x2_1)).bind fun t270 => ((ostiarybook_Same_string.f k1 t266 t270).bind fun t273 => (if t273 = true then (ostiarylaw10_PolicyNumbers.l0 k1 y262 (wrap64 (x2_1 + 1))) else (some false)))) = some r := H
          have A5 := Aside0.mk A50
          clear A50
          replace H := Option.bind_eq_some_iff.mp H
          obtain ⟨t270, A60, H⟩ := H
          replace H : ((ostiarybook_Same_string.f k1 t266 t270).bind fun t273 => (if t273 = true then (ostiarylaw10_PolicyNumbers.l0 k1 y262 (wrap64 (x2_1 + 1))) else (some false))) = some r := H
          have A6 := Aside0.mk A60
          clear A60
          replace H := Option.bind_eq_some_iff.mp H
          obtain ⟨t273, A70, H⟩ := H
          replace H : (if t273 = true then (ostiarylaw10_PolicyNumbers.l0 k1 y262 (wrap64 (x2_1 + 1))) else (some false)) = some r := H
          have A7 := Aside0.mk A70
          clear A70
          by_cases c8 : t273 = true
          · subst c8
            have H1 : (ostiarylaw10_PolicyNumbers.l0 k1 y262 (wrap64 (x2_1 + 1))) = some r := by rw [if_pos rfl] at H; exact H
            clear H
            have H := H1
            clear H1
            have H' := Aside0.mk H
            clear H
            obtain ⟨Ao9, co9, eo9⟩ := Kd.R_slice HO_1.out
            subst eo9
            try go_wp2
            have n0_ := Am (Kd.R_drew HO_1.out)
            have n1_ := Am (below_drew1 HB.out)
            clear HO_1
            clear HB
            have HO_1 := n0_
            have HB := n1_
            clear n0_ n1_
            have p265 : 0 ≤ (x2_1 : Int) := of_decide_eq_true (by first | (with_reducible assumption) | assumption)
            have q265 : x2_1 < (y262.length : Int) := of_decide_eq_true (by first | (with_reducible assumption) | assumption)
            obtain ⟨ad265, e265, hx265_0⟩ := Kd.at_string (Kd.R_reads' HO_1.out).2.2 x2_1 p265 q265
            cases e265
            replace p265 := eq_true p265
            replace q265 := eq_true q265
            have p269 : 0 ≤ (x2_1 : Int) := of_decide_eq_true (by first | (with_reducible assumption) | assumption)
            have q269 : x2_1 < (y262.length : Int) := of_decide_eq_true (by first | (with_reducible assumption) | assumption)
            obtain ⟨ad269, e269, hx269_0⟩ := Kd.at_string (Kd.R_reads' HO_1.out).2.2 x2_1 p269 q269
            obtain rfl : ad265 = ad269 := (by injection e269)
            replace p269 := eq_true p269
            replace q269 := eq_true q269
            refine start_ (n := 12) (S := fun w' => w'.cell? (ad265.add (x2_1).toNat) = some (.string (rdOf ByteArray.empty y262 x2_1)) ∧ w'.cell? (ad265.add (x2_1).toNat) = some (.string (rdOf ByteArray.empty y262 x2_1))) (ds := []) #[false, false, false, false, false, false, false, false, false, false, false, false] (by kernel_rfl) rfl rfl ⟨hx265_0, hx269_0⟩ (fun hHeld => ?_); refine with_tabW ostiarylaw10_PolicyNumbers.tab5 ostiarylaw10_PolicyNumbers.bits5 (fun HT_ HW_ => ?_)
            generalize wr.drew = w10 at HO_1 HB hx265_0 hx269_0 hHeld ⊢
            refine pure_ (i := 0) (N := some 14) (v := ?_) (a' := ?_) #[true, false, false, false, false, false, false, false, false, false, false, false] rfl rfl (any_of HT_.out (by kernel_rfl)) (fun _ _ _ h => h) (Or.inl ⟨by rfl, ?_⟩) ?_ ?_
            rotate_left
            · intro w'
              go_simp
              with_reducible rfl
            rotate_left
            · simp only [Act.put, List.setIfInBounds_toArray, List.set_cons_zero, List.set_cons_succ, i64_w, i32_w]
              rfl
            refine pure_ (i := 1) (N := some 15) (v := ?_) (a' := ?_) #[true, true, false, false, false, false, false, false, false, false, false, false] rfl rfl (any_of HT_.out (by kernel_rfl)) (fun _ _ _ h => h) (Or.inl ⟨by rfl, ?_⟩) ?_ ?_
            rotate_left
            · intro w'
              go_simp
              with_reducible rfl
            rotate_left
            · simp only [Act.put, List.setIfInBounds_toArray, List.set_cons_zero, List.set_cons_succ, i64_w, i32_w]
              rfl
            refine pure_ (i := 2) (N := some 16) (v := ?_) (a' := ?_) #[true, true, true, false, false, false, false, false, false, false, false, false] rfl rfl (any_of HT_.out (by kernel_rfl)) (fun _ _ _ h => h) (Or.inl ⟨by rfl, ?_⟩) ?_ ?_
            rotate_left
            · intro w'
              go_simp
              with_reducible rfl
            rotate_left
            · simp only [Act.put, List.setIfInBounds_toArray, List.set_cons_zero, List.set_cons_succ, i64_w, i32_w]
              rfl
            refine pure_ (i := 5) (N := some 19) (v := ?_) (a' := ?_) #[true, true, true, false, false, true, false, false, false, false, false, false] rfl rfl (any_of HT_.out (by kernel_rfl)) (fun _ _ _ h => h) (Or.inl ⟨by rfl, ?_⟩) ?_ ?_
            rotate_left
            · intro w'
              go_simp
              with_reducible rfl
            rotate_left
            · simp only [Act.put, List.setIfInBounds_toArray, List.set_cons_zero, List.set_cons_succ, i64_w, i32_w]
              rfl
            refine pure_ (i := 6) (N := some 20) (v := ?_) (a' := ?_) #[true, true, true, false, false, true, true, false, false, false, false, false] rfl rfl (any_of HT_.out (by kernel_rfl)) (fun _ _ _ h => h) (Or.inl ⟨by rfl, ?_⟩) ?_ ?_
            rotate_left
            · intro w'
              go_simp
              with_reducible rfl
            rotate_left
            · simp only [Act.put, List.setIfInBounds_toArray, List.set_cons_zero, List.set_cons_succ, i64_w, i32_w]
              rfl
            refine pure_ (i := 7) (N := some 21) (v := ?_) (a' := ?_) #[true, true, true, false, false, true, true, true, false, false, false, false] rfl rfl (any_of HT_.out (by kernel_rfl)) (fun _ _ _ h => h) (Or.inl ⟨by rfl, ?_⟩) ?_ ?_
            rotate_left
            · intro w'
              go_simp
              with_reducible rfl
            rotate_left
            · simp only [Act.put, List.setIfInBounds_toArray, List.set_cons_zero, List.set_cons_succ, i64_w, i32_w]
              rfl
            refine take_ (i := 3) (N := some 17) (v := ?_) (a' := ?_) #[true, true, true, true, false, true, true, true, false, false, false, false] rfl rfl (take_ofW HT_.out HW_.out (by kernel_rfl)) (fun _ _ _ h => h) (Or.inl ⟨by rfl, ?_⟩) hHeld ?_ ?_
            rotate_left
            · rintro w' ⟨s0, s1⟩
              go_simp
              with_reducible rfl
            rotate_left
            · simp only [Act.put, List.setIfInBounds_toArray, List.set_cons_zero, List.set_cons_succ, i64_w, i32_w]
              rfl
            refine take_ (i := 8) (N := some 22) (v := ?_) (a' := ?_) #[true, true, true, true, false, true, true, true, true, false, false, false] rfl rfl (take_ofW HT_.out HW_.out (by kernel_rfl)) (fun _ _ _ h => h) (Or.inl ⟨by rfl, ?_⟩) hHeld ?_ ?_
            rotate_left
            · rintro w' ⟨s0, s1⟩
              go_simp
              with_reducible rfl
            rotate_left
            · simp only [Act.put, List.setIfInBounds_toArray, List.set_cons_zero, List.set_cons_succ, i64_w, i32_w]
              rfl
            refine one_ (i := 4) (N := some 18) #[true, true, true, true, true, true, true, true, true, false, false, false] rfl rfl (one_of HT_.out (by kernel_rfl)) (by decide) (fun K hK => ?_)
            refine goes_ Tryd.func9 (by kernel_rfl) rfl #[.string (rdOf ByteArray.empty y262 x2_1)] (by rfl) rfl rfl (by ((try simp only [List.map_toArray, List.map_cons, List.map_nil]); first | done | rfl | (simp only [List.length_drop, List.length_take]; rfl))) ?_
            with_reducible refine (policy_Chain.calls k1 (rdOf ByteArray.empty y262 x2_1) t266 _ A5.out).mono ?_
            rintro e w11 ⟨v267, rfl, ho0, hb⟩
            have HS0_ := (hb.cell (World.block_lt_of_cell? _ _ (hHeld.1))).trans (hHeld.1)
            have HS1_ := (hb.cell (World.block_lt_of_cell? _ _ (hHeld.2))).trans (hHeld.2)
            refine ⟨_, rfl, ?_⟩
            have n0_ := Am (Kd.R_elder' (by (with_reducible repeat (first | apply Kd.R_alloc | apply Kd.R_drewN | apply Kd.R_drew)); exact HO_1.out) (Kd.R_base ho0) hb)
            have n1_ := Am (Kd.R_lower (Kd.R_new' ho0 (Kd.R_lt (by (with_reducible repeat (first | apply Kd.R_alloc | apply Kd.R_drewN | apply Kd.R_drew)); exact HO_1.out))) (below_size (by (repeat (first | (with_reducible first | exact HB.out | apply below_alloc | apply pw_below_drewN | apply below_drew1) | exact HB.out)))))
            have n2_ := Am (below_step (by (repeat (first | (with_reducible first | exact HB.out | apply below_alloc | apply pw_below_drewN | apply below_drew1) | exact HB.out))) hb)
            clear HO_1
            clear HB
            have HO_1 := n0_
            have HO268 := n1_
            have HB := n2_
            clear n0_ n1_ n2_
            (try clear hb)
            (try clear hb2)
            (try clear hk)
            (try clear hi)
            (try clear ho0)
            refine hK.out _ _ ⟨HS0_, HS1_⟩ (fun hHeld => ?_)
            clear hK K
            refine norm_ (a' := ?_) ?_ ?_
            rotate_left
            · show Act.put _ (some 18) _ = _
              simp only [Act.put, List.setIfInBounds_toArray, List.set_cons_zero, List.set_cons_succ, i64_w, i32_w]
              rfl
            refine one_ (i := 9) (N := some 23) #[true, true, true, true, true, true, true, true, true, true, false, false] rfl rfl (one_of HT_.out (by kernel_rfl)) (by decide) (fun K hK => ?_)
            refine goes_ Tryd.func10 (by kernel_rfl) rfl #[.string (rdOf ByteArray.empty y262 x2_1)] (by rfl) rfl rfl (by ((try simp only [List.map_toArray, List.map_cons, List.map_nil]); first | done | rfl | (simp only [List.length_drop, List.length_take]; rfl))) ?_
            with_reducible refine (ostiaryref10_Chain.calls k1 (rdOf ByteArray.empty y262 x2_1) t270 _ A6.out).mono ?_
            rintro e w12 ⟨v271, rfl, ho0, hb⟩
            have HS0_ := (hb.cell (World.block_lt_of_cell? _ _ (hHeld.1))).trans (hHeld.1)
            have HS1_ := (hb.cell (World.block_lt_of_cell? _ _ (hHeld.2))).trans (hHeld.2)
            refine ⟨_, rfl, ?_⟩
            have n0_ := Am (Kd.R_elder' (by (with_reducible repeat (first | apply Kd.R_alloc | apply Kd.R_drewN | apply Kd.R_drew)); exact HO_1.out) (Kd.R_base ho0) hb)
            have n1_ := Am (Kd.R_elder' (by (with_reducible repeat (first | apply Kd.R_alloc | apply Kd.R_drewN | apply Kd.R_drew)); exact HO268.out) (Kd.R_base ho0) hb)
            have n2_ := Am (Kd.R_lower (Kd.R_new' (Kd.R_new' ho0 (Kd.R_lt (by (with_reducible repeat (first | apply Kd.R_alloc | apply Kd.R_drewN | apply Kd.R_drew)); exact HO_1.out))) (Kd.R_lt (by (with_reducible repeat (first | apply Kd.R_alloc | apply Kd.R_drewN | apply Kd.R_drew)); exact HO268.out))) (below_size (by (repeat (first | (with_reducible first | exact HB.out | apply below_alloc | apply pw_below_drewN | apply below_drew1) | exact HB.out)))))
            have n3_ := Am (below_step (by (repeat (first | (with_reducible first | exact HB.out | apply below_alloc | apply pw_below_drewN | apply below_drew1) | exact HB.out))) hb)
            clear HO_1
            clear HO268
            clear HB
            have HO_1 := n0_
            have HO268 := n1_
            have HO272 := n2_
            have HB := n3_
            clear n0_ n1_ n2_ n3_
            (try clear hb)
            (try clear hb2)
            (try clear hk)
            (try clear hi)
            (try clear ho0)
            obtain ⟨Ao13, co13, eo13⟩ := Kd.R_slice HO268.out
            (first | subst eo13 | (injection eo13 with f1_ f2_ f3_; have f4_ := f1_.symm; have f5_ := f3_.symm; clear f1_ f2_ f3_; subst f4_; subst f5_))
            obtain ⟨Ao14, co14, eo14⟩ := Kd.R_slice HO272.out
            (first | subst eo14 | (injection eo14 with f1_ f2_ f3_; have f4_ := f1_.symm; have f5_ := f3_.symm; clear f1_ f2_ f3_; subst f4_; subst f5_))
            refine hK.out _ _ ⟨HS0_, HS1_⟩ (fun hHeld => ?_)
            clear hK K
            refine norm_ (a' := ?_) ?_ ?_
            rotate_left
            · show Act.put _ (some 23) _ = _
              simp only [Act.put, List.setIfInBounds_toArray, List.set_cons_zero, List.set_cons_succ, i64_w, i32_w]
              rfl
            refine one_ (i := 10) (N := some 24) #[true, true, true, true, true, true, true, true, true, true, true, false] rfl rfl (one_of HT_.out (by kernel_rfl)) (by decide) (fun K hK => ?_)
            refine goes_ Tryd.func8 (by kernel_rfl) rfl #[.slice Ao13 t266.length co13, .slice Ao14 t270.length co14] (by rfl) rfl rfl (by ((try simp only [List.map_toArray, List.map_cons, List.map_nil]); first | done | rfl | (simp only [List.length_drop, List.length_take]; rfl))) ?_
            with_reducible refine (ostiarybook_Same_string.calls k1 _ _ t266 _ _ t270 true _ ?side1 ?side2 ?side3 ?side4 A7.out).mono ?_
            (case side1 => repeat (first | exact (Kd.R_reads' HO268.out).2.2 | (first | (with_reducible refine Kd.C_alloc ?_ _) | (with_reducible refine Kd.C_drewN ?_ _) | (with_reducible refine Kd.C_drew ?_))))
            (case side2 => exact (Kd.R_reads' HO268.out).2.1)
            (case side3 => repeat (first | exact (Kd.R_reads' HO272.out).2.2 | (first | (with_reducible refine Kd.C_alloc ?_ _) | (with_reducible refine Kd.C_drewN ?_ _) | (with_reducible refine Kd.C_drew ?_))))
            (case side4 => exact (Kd.R_reads' HO272.out).2.1)
            rintro e w' ⟨rfl, ⟨nd, rfl⟩⟩
            refine ⟨_, rfl, ?_⟩
            refine hK.out _ _ ⟨hHeld.1, hHeld.2⟩ (fun hHeld => ?_)
            clear hK K
            refine norm_ (a' := ?_) ?_ ?_
            rotate_left
            · show Act.put _ (some 24) _ = _
              simp only [Act.put, List.setIfInBounds_toArray, List.set_cons_zero, List.set_cons_succ, i64_w, i32_w]
              rfl
            refine pure_ (i := 11) (N := some 25) (v := ?_) (a' := ?_) #[true, true, true, true, true, true, true, true, true, true, true, true] rfl rfl (any_of HT_.out (by kernel_rfl)) (fun _ _ _ h => h) (Or.inl ⟨by rfl, ?_⟩) ?_ ?_
            rotate_left
            · intro w'
              go_simp
              with_reducible rfl
            rotate_left
            · simp only [Act.put, List.setIfInBounds_toArray, List.set_cons_zero, List.set_cons_succ, i64_w, i32_w]
              rfl
            refine done_ (done_of HT_.out (by kernel_rfl)) ?_
            try go_wp2
            go_roundg k1
            case measure => have := HK1.out; omega
            case rel => exact ⟨(wrap64 (x2_1 + 1)), (by first | rfl | (simp; done) | (simp [*]; done)), H', ⟨by have := HK1.out; omega⟩, ⟨by (with_reducible repeat (first | apply Kd.R_alloc | apply Kd.R_drewN | apply Kd.R_drew)); exact Kd.R_mono HO_1.out (fun _ hk => trivial)⟩, ⟨by (repeat (first | (with_reducible first | exact HB.out | apply below_alloc | apply pw_below_drewN | apply below_drew1) | exact HB.out))⟩⟩
          · replace c8 := Bool.eq_false_iff.mpr c8
            subst c8
            have H1 : (some false) = some r := by rw [if_neg (show ¬ (false = true) by decide)] at H; exact H
            clear H
            have H := H1
            clear H1
            exact absurd ((Option.some.inj H).trans hrt.out) (by decide)
        · rw [if_neg c4] at H
          exact absurd H (by simp)
      · rw [if_neg c3] at H
        have c3b0 : decide (x2_1 < (y262.length : Int)) = false := decide_eq_false c3
        clear c3
        have H' := Aside0.mk H
        clear H
        obtain ⟨Ao21, co21, eo21⟩ := Kd.R_slice HO_1.out
        subst eo21
        go_wp2
        go_loopg [3] k1 (fun kq v3 w' => ∃ (x3_2 : Int), v3 = .int .i64 x3_2 ∧ Aside0 (ostiarylaw10_PolicyNumbers.l1 kq x3_2 = some r) ∧ Aside0 (kq ≤ k1) ∧ Aside0 (Below w.heap.size w w'))
        case atStart => exact ⟨((-1)), (by first | rfl | (simp; done) | (simp [*]; done)), H', ⟨Nat.le_refl _⟩, ⟨by (repeat (first | (with_reducible first | exact HB.out | apply below_alloc | apply pw_below_drewN | apply below_drew1) | exact HB.out))⟩⟩
        case round =>
          clear H'
          try clear c1
          try clear p2
          try clear q2
          try clear hx2
          try clear c3
          try clear c3b0
          try clear c4
          try clear c4b0
          try clear p6
          try clear c8
          try clear c9
          try clear c10
          try clear hx265_0
          try clear hx269_0
          try clear p2
          try clear p265
          try clear p269
          try clear q265
          try clear q269
          obtain ⟨x3_2, rfl, HA, HK2, HB⟩ := hrel
          cases gk with
          | zero => exact absurd HA.out (by simp [ostiarylaw10_PolicyNumbers.l1])
          | succ k2 =>
            have H := HA.out
            clear HA
            simp only [ostiarylaw10_PolicyNumbers.l1] at H
            by_cases c22 : x3_2 < 9
            · rw [if_pos c22] at H
              have c22b0 : decide (x3_2 < 9) = true := decide_eq_true c22
              clear c22
              replace H := Option.bind_eq_some_iff.mp H
              obtain ⟨t274, A230, H⟩ := H
              replace H : ((ostiaryref10_For.f x3_2).bind fun t275 => (if t274.toList = t275.toList then (ostiarylaw10_PolicyNumbers.l1 k2 (wrap64 (x3_2 + 1))) else (some false))) = some r := H
              have A23 := Aside0.mk A230
              clear A230
              replace H := Option.bind_eq_some_iff.mp H
              obtain ⟨t275, A240, H⟩ := H
              replace H : (if t274.toList = t275.toList then (ostiarylaw10_PolicyNumbers.l1 k2 (wrap64 (x3_2 + 1))) else (some false)) = some r := H
              have A24 := Aside0.mk A240
              clear A240
              by_cases c25 : t274.toList = t275.toList
              · rw [if_pos c25] at H
                have c25b0 : (t274.toList == t275.toList) = true := beq_iff_eq.mpr c25
                have c25b1 : (t274.toList != t275.toList) = false := bne_eq_false_iff_eq.mpr c25
                clear c25
                have H' := Aside0.mk H
                clear H
                go_wp2_with (first | ((with_reducible refine gate_callee (f := 11) rfl ?_); refine goesL_ (some 31) rfl rfl Tryd.func11 (by kernel_rfl) rfl #[.int .i64 x3_2] rfl (by ((try simp only [List.map_toArray, List.map_cons, List.map_nil]); first | done | rfl | (simp only [List.length_drop, List.length_take]; rfl))) ?_; (with_reducible refine (policy_For.calls x3_2 t274 _ A23.out).mono ?_); rintro e w' ⟨rfl, ⟨nd, rfl⟩⟩; refine ⟨_, rfl, ?_⟩) | ((with_reducible refine gate_callee (f := 12) rfl ?_); refine goesL_ (some 33) rfl rfl Tryd.func12 (by kernel_rfl) rfl #[.int .i64 x3_2] rfl (by ((try simp only [List.map_toArray, List.map_cons, List.map_nil]); first | done | rfl | (simp only [List.length_drop, List.length_take]; rfl))) ?_; (with_reducible refine (ostiaryref10_For.calls x3_2 t275 _ A24.out).mono ?_); rintro e w' ⟨rfl, ⟨nd, rfl⟩⟩; refine ⟨_, rfl, ?_⟩))
                go_roundg k2
                case measure => have := HK1.out; have := HK2.out; omega
                case rel => exact ⟨(wrap64 (x3_2 + 1)), (by first | rfl | (simp; done) | (simp [*]; done)), H', ⟨by have := HK1.out; have := HK2.out; omega⟩, ⟨by (repeat (first | (with_reducible first | exact HB.out | apply below_alloc | apply pw_below_drewN | apply below_drew1) | exact HB.out))⟩⟩
              · rw [if_neg c25] at H
                have c25b0 : (t274.toList == t275.toList) = false := beq_eq_false_iff_ne.mpr c25
                have c25b1 : (t274.toList != t275.toList) = true := bne_iff_ne.mpr c25
                exact absurd ((Option.some.inj H).trans hrt.out) (by decide)
            · rw [if_neg c22] at H
              have c22b0 : decide (x3_2 < 9) = false := decide_eq_false c22
              clear c22
              have H' := Aside0.mk H
              clear H
              go_wp2
              go_loopg [4, 5] k2 (fun kq v4 v5 w' => ∃ (x4_3 : ByteArray) (x5_3 : Int), v4 = .string x4_3 ∧ v5 = .int .i64 x5_3 ∧ Aside0 (ostiarylaw10_PolicyNumbers.l2 kq x4_3 x5_3 = some r) ∧ Aside0 (kq ≤ k2) ∧ Aside0 (Below w.heap.size w w'))
              case atStart => exact ⟨((⟨#[]⟩ : ByteArray)), (0), (by first | rfl | (simp; done) | (simp [*]; done)), (by first | rfl | (simp; done) | (simp [*]; done)), H', ⟨Nat.le_refl _⟩, ⟨by (repeat (first | (with_reducible first | exact HB.out | apply below_alloc | apply pw_below_drewN | apply below_drew1) | exact HB.out))⟩⟩
              case round =>
                clear H'
                try clear c1
                try clear c2
                try clear p2
                try clear q2
                try clear hx2
                try clear c3
                try clear c3b0
                try clear c4
                try clear c4b0
                try clear p6
                try clear c8
                try clear c9
                try clear c10
                try clear c11
                try clear c12
                try clear c22
                try clear c22b0
                try clear c25
                try clear c25b0
                try clear c25b1
                try clear hx265_0
                try clear hx269_0
                try clear p2
                try clear p265
                try clear p269
                try clear p6
                try clear q2
                try clear q265
                try clear q269
                obtain ⟨x4_3, x5_3, rfl, rfl, HA, HK3, HB⟩ := hrel
                cases gk with
                | zero => exact absurd HA.out (by simp [ostiarylaw10_PolicyNumbers.l2])
                | succ k3 =>
                  have H := HA.out
                  clear HA
                  simp only [ostiarylaw10_PolicyNumbers.l2] at H
                  by_cases c26 : x5_3 < 40
                  · rw [if_pos c26] at H
                    have c26b0 : decide (x5_3 < 40) = true := decide_eq_true c26
                    have c26n := c26
                    clear c26
                    by_cases c26z : 0 ≤ x5_3
                    rotate_left
                    · rw [if_neg c26z] at H
                      exact absurd H (by simp)
                    rw [if_pos c26z] at H
                    unfold chA chB at H
                    have hszA : (Utf8.encode (97 + x5_3 % 26)).size = 1 := chA_at c26z c26n
                    have hszB : (Utf8.encode (97 + x5_3 / 26)).size = 1 := chB_at c26z c26n
                    by_cases c27 : x4_3.size + 1 ≤ 9223372036854775807
                    · rw [if_pos c27] at H
                      have c27b0 := eq_true c27
                      have c27b1 : decide (x4_3.size + 1 ≤ 9223372036854775807) = true := decide_eq_true c27
                      try have c27b2 : (9223372036854775807 < x4_3.size + 1) = False := eq_false (Nat.not_lt.2 c27)
                      by_cases c28 : (x4_3 ++ (⟨#[97]⟩ : ByteArray)).size + 1 ≤ 9223372036854775807
                      · rw [if_pos c28] at H
                        have c28b0 := eq_true c28
                        have c28b1 : decide ((x4_3 ++ (⟨#[97]⟩ : ByteArray)).size + 1 ≤ 9223372036854775807) = true := decide_eq_true c28
                        try have c28b2 : (9223372036854775807 < (x4_3 ++ (⟨#[97]⟩ : ByteArray)).size + 1) = False := eq_false (Nat.not_lt.2 c28)
                        by_cases c29 : ((x4_3 ++ (⟨#[97]⟩ : ByteArray)) ++ (Utf8.encode (97 + x5_3 % 26))).size + 1 ≤ 9223372036854775807
                        · rw [if_pos c29] at H
                          have c29b0 := eq_true c29
                          have c29b1 : decide (((x4_3 ++ (⟨#[97]⟩ : ByteArray)) ++ (Utf8.encode (97 + x5_3 % 26))).size + 1 ≤ 9223372036854775807) = true := decide_eq_true c29
                          try have c29b2 : (9223372036854775807 < ((x4_3 ++ (⟨#[97]⟩ : ByteArray)) ++ (Utf8.encode (97 + x5_3 % 26))).size + 1) = False := eq_false (Nat.not_lt.2 c29)
                          by_cases c30 : (((x4_3 ++ (⟨#[97]⟩ : ByteArray)) ++ (Utf8.encode (97 + x5_3 % 26))) ++ (Utf8.encode (97 + x5_3 / 26))).size + 1 ≤ 9223372036854775807
                          · rw [if_pos c30] at H
                            have c30b0 := eq_true c30
                            have c30b1 : decide ((((x4_3 ++ (⟨#[97]⟩ : ByteArray)) ++ (Utf8.encode (97 + x5_3 % 26))) ++ (Utf8.encode (97 + x5_3 / 26))).size + 1 ≤ 9223372036854775807) = true := decide_eq_true c30
                            try have c30b2 : (9223372036854775807 < (((x4_3 ++ (⟨#[97]⟩ : ByteArray)) ++ (Utf8.encode (97 + x5_3 % 26))) ++ (Utf8.encode (97 + x5_3 / 26))).size + 1) = False := eq_false (Nat.not_lt.2 c30)
                            have H' := Aside0.mk H
                            clear H
                            have hb4 : (9223372036854775807 < x4_3.size + 1 + 1 + 1 + 1) = False := eq_false (by
                              have h := c30
                              rw [ByteArray.size_append, ByteArray.size_append, ByteArray.size_append, hszA, hszB] at h
                              have h1 : (⟨#[97]⟩ : ByteArray).size = 1 := rfl
                              omega)
                            go_wp2
                            go_roundg k3
                            case measure => have := HK1.out; have := HK2.out; have := HK3.out; omega
                            case rel => exact ⟨((((x4_3 ++ (⟨#[97]⟩ : ByteArray)) ++ (Utf8.encode (97 + x5_3 % 26))) ++ (Utf8.encode (97 + x5_3 / 26))) ++ (⟨#[59]⟩ : ByteArray)), (wrap64 (x5_3 + 1)), (by first | rfl | (simp; done) | (simp [*]; done)), (by rw [Go.Proofs.YtohcjdninpjpgaaDoor.Pl.wrap_in (x := x5_3 + 1) (by have := c26n; have := c26z; omega)]), H', ⟨by have := HK1.out; have := HK2.out; have := HK3.out; omega⟩, ⟨by (repeat (first | (with_reducible first | exact HB.out | apply below_alloc | apply pw_below_drewN | apply below_drew1) | exact HB.out))⟩⟩
                          · rw [if_neg c30] at H
                            exact absurd H (by simp)
                        · rw [if_neg c29] at H
                          exact absurd H (by simp)
                      · rw [if_neg c28] at H
                        exact absurd H (by simp)
                    · rw [if_neg c27] at H
                      exact absurd H (by simp)
                  · rw [if_neg c26] at H
                    have c26b0 : decide (x5_3 < 40) = false := decide_eq_false c26
                    clear c26
                    obtain ⟨y276, hy276⟩ : ∃ y_ : List (S29), y_ = (([(⟨(⟨#[67, 111, 110, 116, 101, 110, 116, 45, 83, 101, 99, 117, 114, 105, 116, 121, 45, 80, 111, 108, 105, 99, 121, 45, 82, 101, 112, 111, 114, 116, 45, 79, 110, 108, 121]⟩ : ByteArray), (⟨#[97]⟩ : ByteArray)⟩ : S29), (⟨(⟨#[99, 111, 110, 116, 101, 110, 116, 45, 115, 101, 99, 117, 114, 105, 116, 121, 45, 112, 111, 108, 105, 99, 121]⟩ : ByteArray), (⟨#[98, 44, 32, 44, 99, 32, 100]⟩ : ByteArray)⟩ : S29)] : List (S29))) := ⟨_, rfl⟩
                    replace H : ((policy_From.f k3 y276).bind fun t279 => ((policy_Parse.f k3 x4_3 false).bind fun bt282 => (if (bt282.1.length : Int) = 32 then ((policy_Parse.f k3 (⟨#[]⟩ : ByteArray) true).bind fun bt286 => (if (bt286.1.length : Int) = 0 then ((policy_Parse.f k3 (⟨#[]⟩ : ByteArray) true).bind fun bt290 => (if bt290.2 = true then (if (t279.length : Int) = 3 then (if 0 < (t279.length : Int) then ((policy_Text.f k3 ((rd_T33 t279 0).f0) ((rd_T33 t279 0).f1)).bind fun t295 => (if t295.toList = ([98] : List UInt8) then (if 1 < (t279.length : Int) then ((policy_Text.f k3 ((rd_T33 t279 1).f0) ((rd_T33 t279 1).f1)).bind fun t297 => (if t297.toList = ([99, 32, 100] : List UInt8) then (if 2 < (t279.length : Int) then (if (rd_T33 t279 2).f1 = true then ((policy_From.f k3 ([] : List (S29))).bind fun t299 => (if (t299.length : Int) = 0 then ((ostiarylaw10_known.f k3).bind fun t302 => (some t302)) else (some false))) else (some false)) else (none)) else (some false))) else (none)) else (some false))) else (none)) else (some false)) else (some false))) else (some false))) else (some false)))) = some r := by first | (rw [hy276]; with_reducible exact H) | (have H2_ := (Option.bind_some _ _).symm.trans H; rw [hy276]; with_reducible exact H2_) | (have H2_ := (Option.bind_some _ _).symm.trans H; with_reducible exact H2_) | with_reducible exact H | (rw [hy276]; exact H) | exact H
                    have Ny276 := Aside0.mk hy276
                    clear hy276
                    replace H := Option.bind_eq_some_iff.mp H
                    obtain ⟨t279, A310, H⟩ := H
                    replace H : ((policy_Parse.f k3 x4_3 false).bind fun bt282 => (if (bt282.1.length : Int) = 32 then ((policy_Parse.f k3 (⟨#[]⟩ : ByteArray) true).bind fun bt286 => (if (bt286.1.length : Int) = 0 then ((policy_Parse.f k3 (⟨#[]⟩ : ByteArray) true).bind fun bt290 => (if bt290.2 = true then (if (t279.length : Int) = 3 then (if 0 < (t279.length : Int) then ((policy_Text.f k3 ((rd_T33 t279 0).f0) ((rd_T33 t279 0).f1)).bind fun t295 => (if t295.toList = ([98] : List UInt8) then (if 1 < (t279.length : Int) then ((policy_Text.f k3 ((rd_T33 t279 1).f0) ((rd_T33 t279 1).f1)).bind fun t297 => (if t297.toList = ([99, 32, 100] : List UInt8) then (if 2 < (t279.length : Int) then (if (rd_T33 t279 2).f1 = true then ((policy_From.f k3 ([] : List (S29))).bind fun t299 => (if (t299.length : Int) = 0 then ((ostiarylaw10_known.f k3).bind fun t302 => (some t302)) else (some false))) else (some false)) else (none)) else (some false))) else (none)) else (some false))) else (none)) else (some false)) else (some false))) else (some false))) else (some false))) = some r := H
                    have A31 := Aside0.mk A310
                    clear A310
                    replace H := Option.bind_eq_some_iff.mp H
                    obtain ⟨⟨t282, t285⟩, A320, H⟩ := H
                    replace H : (if (t282.length : Int) = 32 then ((policy_Parse.f k3 (⟨#[]⟩ : ByteArray) true).bind fun bt286 => (if (bt286.1.length : Int) = 0 then ((policy_Parse.f k3 (⟨#[]⟩ : ByteArray) true).bind fun bt290 => (if bt290.2 = true then (if (t279.length : Int) = 3 then (if 0 < (t279.length : Int) then ((policy_Text.f k3 ((rd_T33 t279 0).f0) ((rd_T33 t279 0).f1)).bind fun t295 => (if t295.toList = ([98] : List UInt8) then (if 1 < (t279.length : Int) then ((policy_Text.f k3 ((rd_T33 t279 1).f0) ((rd_T33 t279 1).f1)).bind fun t297 => (if t297.toList = ([99, 32, 100] : List UInt8) then (if 2 < (t279.length : Int) then (if (rd_T33 t279 2).f1 = true then ((policy_From.f k3 ([] : List (S29))).bind fun t299 => (if (t299.length : Int) = 0 then ((ostiarylaw10_known.f k3).bind fun t302 => (some t302)) else (some false))) else (some false)) else (none)) else (some false))) else (none)) else (some false))) else (none)) else (some false)) else (some false))) else (some false))) else (some false)) = some r := H
                    have A32 := Aside0.mk A320
                    clear A320
                    by_cases c33 : (t282.length : Int) = 32
                    · rw [if_pos c33] at H
                      have c33b0 : ((t282.length : Int) == 32) = true := beq_iff_eq.mpr c33
                      have c33b1 : ((t282.length : Int) != 32) = false := bne_eq_false_iff_eq.mpr c33
                      clear c33
                      replace H := Option.bind_eq_some_iff.mp H
                      obtain ⟨⟨t286, t289⟩, A340, H⟩ := H
                      replace H : (if (t286.length : Int) = 0 then ((policy_Parse.f k3 (⟨#[]⟩ : ByteArray) true).bind fun bt290 => (if bt290.2 = true then (if (t279.length : Int) = 3 then (if 0 < (t279.length : Int) then ((policy_Text.f k3 ((rd_T33 t279 0).f0) ((rd_T33 t279 0).f1)).bind fun t295 => (if t295.toList = ([98] : List UInt8) then (if 1 < (t279.length : Int) then ((policy_Text.f k3 ((rd_T33 t279 1).f0) ((rd_T33 t279 1).f1)).bind fun t297 => (if t297.toList = ([99, 32, 100] : List UInt8) then (if 2 < (t279.length : Int) then (if (rd_T33 t279 2).f1 = true then ((policy_From.f k3 ([] : List (S29))).bind fun t299 => (if (t299.length : Int) = 0 then ((ostiarylaw10_known.f k3).bind fun t302 => (some t302)) else (some false))) else (some false)) else (none)) else (some false))) else (none)) else (some false))) else (none)) else (some false)) else (some false))) else (some false)) = some r := H
                      have A34 := Aside0.mk A340
                      clear A340
                      by_cases c35 : (t286.length : Int) = 0
                      · rw [if_pos c35] at H
                        have c35b0 : ((t286.length : Int) == 0) = true := beq_iff_eq.mpr c35
                        have c35b1 : ((t286.length : Int) != 0) = false := bne_eq_false_iff_eq.mpr c35
                        clear c35
                        replace H := Option.bind_eq_some_iff.mp H
                        obtain ⟨⟨t290, t293⟩, A360, H⟩ := H
                        replace H : (if t293 = true then (if (t279.length : Int) = 3 then (if 0 < (t279.length : Int) then ((policy_Text.f k3 ((rd_T33 t279 0).f0) ((rd_T33 t279 0).f1)).bind fun t295 => (if t295.toList = ([98] : List UInt8) then (if 1 < (t279.length : Int) then ((policy_Text.f k3 ((rd_T33 t279 1).f0) ((rd_T33 t279 1).f1)).bind fun t297 => (if t297.toList = ([99, 32, 100] : List UInt8) then (if 2 < (t279.length : Int) then (if (rd_T33 t279 2).f1 = true then ((policy_From.f k3 ([] : List (S29))).bind fun t299 => (if (t299.length : Int) = 0 then ((ostiarylaw10_known.f k3).bind fun t302 => (some t302)) else (some false))) else (some false)) else (none)) else (some false))) else (none)) else (some false))) else (none)) else (some false)) else (some false)) = some r := H
                        have A36 := Aside0.mk A360
                        clear A360
                        by_cases c37 : t293 = true
                        · subst c37
                          have H1 : (if (t279.length : Int) = 3 then (if 0 < (t279.length : Int) then ((policy_Text.f k3 ((rd_T33 t279 0).f0) ((rd_T33 t279 0).f1)).bind fun t295 => (if t295.toList = ([98] : List UInt8) then (if 1 < (t279.length : Int) then ((policy_Text.f k3 ((rd_T33 t279 1).f0) ((rd_T33 t279 1).f1)).bind fun t297 => (if t297.toList = ([99, 32, 100] : List UInt8) then (if 2 < (t279.length : Int) then (if (rd_T33 t279 2).f1 = true then ((policy_From.f k3 ([] : List (S29))).bind fun t299 => (if (t299.length : Int) = 0 then ((ostiarylaw10_known.f k3).bind fun t302 => (some t302)) else (some false))) else (some false)) else (none)) else (some false))) else (none)) else (some false))) else (none)) else (some false)) = some r := by rw [if_pos rfl] at H; exact H
                          clear H
                          have H := H1
                          clear H1
                          by_cases c38 : (t279.length : Int) = 3
                          · rw [if_pos c38] at H
                            have c38b0 : ((t279.length : Int) == 3) = true := beq_iff_eq.mpr c38
                            have c38b1 : ((t279.length : Int) != 3) = false := bne_eq_false_iff_eq.mpr c38
                            clear c38
                            by_cases c39 : 0 < (t279.length : Int)
                            · rw [if_pos c39] at H
                              have c39b0 : decide (0 < (t279.length : Int)) = true := decide_eq_true c39
                              have c39b1 : decide (0 < t279.length) = true := decide_eq_true (by omega)
                              clear c39
                              replace H := Option.bind_eq_some_iff.mp H
                              obtain ⟨t295, A400, H⟩ := H
                              replace H : (if t295.toList = ([98] : List UInt8) then (if 1 < (t279.length : Int) then ((policy_Text.f k3 ((rd_T33 t279 1).f0) ((rd_T33 t279 1).f1)).bind fun t297 => (if t297.toList = ([99, 32, 100] : List UInt8) then (if 2 < (t279.length : Int) then (if (rd_T33 t279 2).f1 = true then ((policy_From.f k3 ([] : List (S29))).bind fun t299 => (if (t299.length : Int) = 0 then ((ostiarylaw10_known.f k3).bind fun t302 => (some t302)) else (some false))) else (some false)) else (none)) else (some false))) else (none)) else (some false)) = some r := H
                              have A40 := Aside0.mk A400
                              clear A400
                              by_cases c41 : t295.toList = ([98] : List UInt8)
                              · rw [if_pos c41] at H
                                have c41b0 : (t295.toList == ([98] : List UInt8)) = true := beq_iff_eq.mpr c41
                                have c41b1 : (t295.toList != ([98] : List UInt8)) = false := bne_eq_false_iff_eq.mpr c41
                                clear c41
                                by_cases c42 : 1 < (t279.length : Int)
                                · rw [if_pos c42] at H
                                  have c42b0 : decide (1 < (t279.length : Int)) = true := decide_eq_true c42
                                  have c42b1 : decide (1 < t279.length) = true := decide_eq_true (by omega)
                                  clear c42
                                  replace H := Option.bind_eq_some_iff.mp H
                                  obtain ⟨t297, A430, H⟩ := H
                                  replace H : (if t297.toList = ([99, 32, 100] : List UInt8) then (if 2 < (t279.length : Int) then (if (rd_T33 t279 2).f1 = true then ((policy_From.f k3 ([] : List (S29))).bind fun t299 => (if (t299.length : Int) = 0 then ((ostiarylaw10_known.f k3).bind fun t302 => (some t302)) else (some false))) else (some false)) else (none)) else (some false)) = some r := H
                                  have A43 := Aside0.mk A430
                                  clear A430
                                  by_cases c44 : t297.toList = ([99, 32, 100] : List UInt8)
                                  · rw [if_pos c44] at H
                                    have c44b0 : (t297.toList == ([99, 32, 100] : List UInt8)) = true := beq_iff_eq.mpr c44
                                    have c44b1 : (t297.toList != ([99, 32, 100] : List UInt8)) = false := bne_eq_false_iff_eq.mpr c44
                                    clear c44
                                    by_cases c45 : 2 < (t279.length : Int)
                                    · rw [if_pos c45] at H
                                      have c45b0 : decide (2 < (t279.length : Int)) = true := decide_eq_true c45
                                      have c45b1 : decide (2 < t279.length) = true := decide_eq_true (by omega)
                                      clear c45
                                      obtain ⟨bq46, hbq46⟩ : ∃ b_ : Bool, b_ = ((rd_T33 t279 2).f1) := ⟨_, rfl⟩
                                      replace H : (if bq46 = true then ((policy_From.f k3 ([] : List (S29))).bind fun t299 => (if (t299.length : Int) = 0 then ((ostiarylaw10_known.f k3).bind fun t302 => (some t302)) else (some false))) else (some false)) = some r := by rw [← hbq46] at H; exact H
                                      have Nbq46 := Aside0.mk hbq46
                                      clear hbq46
                                      by_cases c47 : bq46 = true
                                      · subst c47
                                        have H1 : ((policy_From.f k3 ([] : List (S29))).bind fun t299 => (if (t299.length : Int) = 0 then ((ostiarylaw10_known.f k3).bind fun t302 => (some t302)) else (some false))) = some r := by rw [if_pos rfl] at H; exact H
                                        clear H
                                        have H := H1
                                        clear H1
                                        replace H := Option.bind_eq_some_iff.mp H
                                        obtain ⟨t299, A480, H⟩ := H
                                        replace H : (if (t299.length : Int) = 0 then ((ostiarylaw10_known.f k3).bind fun t302 => (some t302)) else (some false)) = some r := H
                                        have A48 := Aside0.mk A480
                                        clear A480
                                        by_cases c49 : (t299.length : Int) = 0
                                        · rw [if_pos c49] at H
                                          have c49b0 : ((t299.length : Int) == 0) = true := beq_iff_eq.mpr c49
                                          have c49b1 : ((t299.length : Int) != 0) = false := bne_eq_false_iff_eq.mpr c49
                                          clear c49
                                          replace H := Option.bind_eq_some_iff.mp H
                                          obtain ⟨t302, A500, H⟩ := H
                                          replace H : (some t302) = some r := H
                                          have A50 := Aside0.mk A500
                                          clear A500
                                          obtain rfl := Option.some.inj H
                                          clear hrt
                                          go_wp2_with (first | ((with_reducible refine gate_dst (N := 56) rfl ?_); (try (refine gate_guard (by rfl) ?_; dsimp only)); refine Kd.R_lit k29 _ 29 ?hg (N := 56) ?hd (xs := ([(⟨(⟨#[67, 111, 110, 116, 101, 110, 116, 45, 83, 101, 99, 117, 114, 105, 116, 121, 45, 80, 111, 108, 105, 99, 121, 45, 82, 101, 112, 111, 114, 116, 45, 79, 110, 108, 121]⟩ : ByteArray), (⟨#[97]⟩ : ByteArray)⟩ : S29), (⟨(⟨#[99, 111, 110, 116, 101, 110, 116, 45, 115, 101, 99, 117, 114, 105, 116, 121, 45, 112, 111, 108, 105, 99, 121]⟩ : ByteArray), (⟨#[98, 44, 32, 44, 99, 32, 100]⟩ : ByteArray)⟩ : S29)] : List (S29))) (inner := [.string (⟨#[67, 111, 110, 116, 101, 110, 116, 45, 83, 101, 99, 117, 114, 105, 116, 121, 45, 80, 111, 108, 105, 99, 121, 45, 82, 101, 112, 111, 114, 116, 45, 79, 110, 108, 121]⟩ : ByteArray), .string (⟨#[97]⟩ : ByteArray), .string (⟨#[99, 111, 110, 116, 101, 110, 116, 45, 115, 101, 99, 117, 114, 105, 116, 121, 45, 112, 111, 108, 105, 99, 121]⟩ : ByteArray), .string (⟨#[98, 44, 32, 44, 99, 32, 100]⟩ : ByteArray)]) (ok := fun _ => True) (okp := fun _ => True) ?hr ?hp (fun _ hk => hk) trivial (Below.refl _ _) (Nat.le_refl _) (by simp) ?_; ((case hd => rfl); (case hg => rfl); (case hr => first | (go_simp; done) | (go_simp; rfl))); (case hp => exact (Reps.c2 (show Kd.M k29 _ _ _ (⟨(⟨#[67, 111, 110, 116, 101, 110, 116, 45, 83, 101, 99, 117, 114, 105, 116, 121, 45, 80, 111, 108, 105, 99, 121, 45, 82, 101, 112, 111, 114, 116, 45, 79, 110, 108, 121]⟩ : ByteArray), (⟨#[97]⟩ : ByteArray)⟩ : S29) [.string (⟨#[67, 111, 110, 116, 101, 110, 116, 45, 83, 101, 99, 117, 114, 105, 116, 121, 45, 80, 111, 108, 105, 99, 121, 45, 82, 101, 112, 111, 114, 116, 45, 79, 110, 108, 121]⟩ : ByteArray), .string (⟨#[97]⟩ : ByteArray)] from (k29_mkM _ _ _ (⟨(⟨#[67, 111, 110, 116, 101, 110, 116, 45, 83, 101, 99, 117, 114, 105, 116, 121, 45, 80, 111, 108, 105, 99, 121, 45, 82, 101, 112, 111, 114, 116, 45, 79, 110, 108, 121]⟩ : ByteArray), (⟨#[97]⟩ : ByteArray)⟩ : S29) )) (Reps.c2 (show Kd.M k29 _ _ _ (⟨(⟨#[99, 111, 110, 116, 101, 110, 116, 45, 115, 101, 99, 117, 114, 105, 116, 121, 45, 112, 111, 108, 105, 99, 121]⟩ : ByteArray), (⟨#[98, 44, 32, 44, 99, 32, 100]⟩ : ByteArray)⟩ : S29) [.string (⟨#[99, 111, 110, 116, 101, 110, 116, 45, 115, 101, 99, 117, 114, 105, 116, 121, 45, 112, 111, 108, 105, 99, 121]⟩ : ByteArray), .string (⟨#[98, 44, 32, 44, 99, 32, 100]⟩ : ByteArray)] from (k29_mkM _ _ _ (⟨(⟨#[99, 111, 110, 116, 101, 110, 116, 45, 115, 101, 99, 117, 114, 105, 116, 121, 45, 112, 111, 108, 105, 99, 121]⟩ : ByteArray), (⟨#[98, 44, 32, 44, 99, 32, 100]⟩ : ByteArray)⟩ : S29) )) (Reps.none _ _)))); intro v277 w51 ho52 hb hg_ hnew_; clear hg_ hnew_; (first | rw [← Ny276.out] at ho52 | (simp only [Int.reduceToNat] at ho52; rw [← Ny276.out] at ho52)); have n0_ := Am (Kd.R_lower ho52 (below_size (by (repeat (first | (with_reducible first | exact HB.out | apply below_alloc | apply pw_below_drewN | apply below_drew1) | exact HB.out))))); have n1_ := Am (below_step (by (repeat (first | (with_reducible first | exact HB.out | apply below_alloc | apply pw_below_drewN | apply below_drew1) | exact HB.out))) hb); clear HB; have HO278 := n0_; have HB := n1_; clear n0_ n1_; clear hb ho52; obtain ⟨Ao53, co53, eo53⟩ := Kd.R_slice HO278.out; subst eo53) | ((with_reducible refine gate_callee (f := 13) rfl ?_); refine goesL_ (some 57) rfl rfl Tryd.func13 (by kernel_rfl) rfl #[.slice Ao53 y276.length co53] rfl (by ((try simp only [List.map_toArray, List.map_cons, List.map_nil]); first | done | rfl | (simp only [List.length_drop, List.length_take]; rfl))) ?_; (with_reducible refine (policy_From.calls k3 _ _ y276 t279 _ ?side1 ?side2 A31.out).mono ?_); (case side1 => repeat (first | exact (Kd.R_reads' HO278.out).2.2 | (first | (with_reducible refine Kd.C_alloc ?_ _) | (with_reducible refine Kd.C_drewN ?_ _) | (with_reducible refine Kd.C_drew ?_)))); (case side2 => exact (Kd.R_reads' HO278.out).2.1); rintro e w54 ⟨v280, rfl, ho0, hb⟩; refine ⟨_, rfl, ?_⟩; have n0_ := Am (Kd.R_below (by (with_reducible repeat (first | apply Kd.R_alloc | apply Kd.R_drewN | apply Kd.R_drew)); exact HO278.out) hb); have n1_ := Am (Kd.R_lower ho0 (below_size (by (repeat (first | (with_reducible first | exact HB.out | apply below_alloc | apply pw_below_drewN | apply below_drew1) | exact HB.out))))); have n2_ := Am (below_step (by (repeat (first | (with_reducible first | exact HB.out | apply below_alloc | apply pw_below_drewN | apply below_drew1) | exact HB.out))) hb); clear HO278; clear HB; have HO278 := n0_; have HO281 := n1_; have HB := n2_; clear n0_ n1_ n2_; ((try clear hb); (try clear hb2); (try clear hk); (try clear hi); (try clear ho0))) | ((with_reducible refine gate_callee (f := 14) rfl ?_); refine goesL_ (some 59) rfl rfl Tryd.func14 (by kernel_rfl) rfl #[.string x4_3, .bool false] rfl (by ((try simp only [List.map_toArray, List.map_cons, List.map_nil]); first | done | rfl | (simp only [List.length_drop, List.length_take]; rfl))) ?_; (with_reducible refine (policy_Parse.calls k3 x4_3 false t282 t285 _ A32.out).mono ?_); rintro e w55 ⟨v283, rfl, ho0, hb⟩; refine ⟨_, rfl, ?_⟩; have n0_ := Am (Kd.R_below (by (with_reducible repeat (first | apply Kd.R_alloc | apply Kd.R_drewN | apply Kd.R_drew)); exact HO278.out) hb); have n1_ := Am (Kd.R_elder' (by (with_reducible repeat (first | apply Kd.R_alloc | apply Kd.R_drewN | apply Kd.R_drew)); exact HO281.out) (Kd.S_base ho0) hb); have n2_ := Am (Kd.S_lower ho0 (below_size (by (repeat (first | (with_reducible first | exact HB.out | apply below_alloc | apply pw_below_drewN | apply below_drew1) | exact HB.out))))); have n3_ := Am (below_step (by (repeat (first | (with_reducible first | exact HB.out | apply below_alloc | apply pw_below_drewN | apply below_drew1) | exact HB.out))) hb); clear HO278; clear HO281; clear HB; have HO278 := n0_; have HO281 := n1_; have HO284 := n2_; have HB := n3_; clear n0_ n1_ n2_ n3_; ((try clear hb); (try clear hb2); (try clear hk); (try clear hi); (try clear ho0)); obtain ⟨Ao56, co56, eo56⟩ := Kd.S_slice HO284.out; subst eo56) | (go_at_call 14; (fail_if_success have h_ := HO288); (with_reducible refine (policy_Parse.calls k3 (⟨#[]⟩ : ByteArray) true t286 t289 _ A34.out).mono ?_); rintro e w57 ⟨v287, rfl, ho0, hb⟩; have n0_ := Am (Kd.R_below (by (with_reducible repeat (first | apply Kd.R_alloc | apply Kd.R_drewN | apply Kd.R_drew)); exact HO278.out) hb); have n1_ := Am (Kd.R_elder' (by (with_reducible repeat (first | apply Kd.R_alloc | apply Kd.R_drewN | apply Kd.R_drew)); exact HO281.out) (Kd.S_base ho0) hb); have n2_ := Am (Kd.S_elder' (by (with_reducible repeat (first | apply Kd.S_alloc | apply Kd.S_drewN | apply Kd.S_drew)); exact HO284.out) (Kd.S_base ho0) hb); have n3_ := Am (Kd.S_lower (Kd.S_new' ho0 (Kd.S_lt (by (with_reducible repeat (first | apply Kd.S_alloc | apply Kd.S_drewN | apply Kd.S_drew)); exact HO284.out))) (below_size (by (repeat (first | (with_reducible first | exact HB.out | apply below_alloc | apply pw_below_drewN | apply below_drew1) | exact HB.out))))); have n4_ := Am (below_step (by (repeat (first | (with_reducible first | exact HB.out | apply below_alloc | apply pw_below_drewN | apply below_drew1) | exact HB.out))) hb); clear HO278; clear HO281; clear HO284; clear HB; have HO278 := n0_; have HO281 := n1_; have HO284 := n2_; have HO288 := n3_; have HB := n4_; clear n0_ n1_ n2_ n3_ n4_; ((try clear hb); (try clear hb2); (try clear hk); (try clear hi); (try clear ho0)); obtain ⟨Ao58, co58, eo58⟩ := Kd.S_slice HO288.out; subst eo58) | (go_at_call 14; (with_reducible refine (policy_Parse.calls k3 (⟨#[]⟩ : ByteArray) true t290 true _ A36.out).mono ?_); rintro e w59 ⟨v291, rfl, ho0, hb⟩; have n0_ := Am (Kd.R_below (by (with_reducible repeat (first | apply Kd.R_alloc | apply Kd.R_drewN | apply Kd.R_drew)); exact HO278.out) hb); have n1_ := Am (Kd.R_elder' (by (with_reducible repeat (first | apply Kd.R_alloc | apply Kd.R_drewN | apply Kd.R_drew)); exact HO281.out) (Kd.S_base ho0) hb); have n2_ := Am (Kd.S_elder' (by (with_reducible repeat (first | apply Kd.S_alloc | apply Kd.S_drewN | apply Kd.S_drew)); exact HO284.out) (Kd.S_base ho0) hb); have n3_ := Am (Kd.S_elder' (by (with_reducible repeat (first | apply Kd.S_alloc | apply Kd.S_drewN | apply Kd.S_drew)); exact HO288.out) (Kd.S_base ho0) hb); have n4_ := Am (Kd.S_lower (Kd.S_new' (Kd.S_new' ho0 (Kd.S_lt (by (with_reducible repeat (first | apply Kd.S_alloc | apply Kd.S_drewN | apply Kd.S_drew)); exact HO284.out))) (Kd.S_lt (by (with_reducible repeat (first | apply Kd.S_alloc | apply Kd.S_drewN | apply Kd.S_drew)); exact HO288.out))) (below_size (by (repeat (first | (with_reducible first | exact HB.out | apply below_alloc | apply pw_below_drewN | apply below_drew1) | exact HB.out))))); have n5_ := Am (below_step (by (repeat (first | (with_reducible first | exact HB.out | apply below_alloc | apply pw_below_drewN | apply below_drew1) | exact HB.out))) hb); clear HO278; clear HO281; clear HO284; clear HO288; clear HB; have HO278 := n0_; have HO281 := n1_; have HO284 := n2_; have HO288 := n3_; have HO292 := n4_; have HB := n5_; clear n0_ n1_ n2_ n3_ n4_ n5_; ((try clear hb); (try clear hb2); (try clear hk); (try clear hi); (try clear ho0)); obtain ⟨Ao60, co60, eo60⟩ := Kd.R_slice HO281.out; subst eo60; have p294 : 0 ≤ (0 : Int) := (by omega); have q294 : 0 < (t279.length : Int) := of_decide_eq_true (by first | (with_reducible assumption) | assumption); obtain ⟨ad294, A294_0, c294_0, e294, hx294_0, hx294_1, hl294_0, hi294_0⟩ := at_T33 (Kd.R_reads' HO281.out).2.2 0 p294 q294; (try rw [← Nbq46.out] at hx294_1); cases e294; obtain ⟨ce294, hce294, hMe294, hcc294⟩ := Kd.R_get HO281.out z33 0 p294 (by first | exact q294 | exact of_decide_eq_true (by first | (with_reducible assumption) | assumption) | (have e_ := (Kd.R_reads' HO281.out).1; omega)); obtain ⟨ve294_0, rfl, ge294_0⟩ := k33_openM hMe294; have hv294_0 := hcc294 0 _ rfl; rw [Nat.add_zero] at hv294_0; replace hv294_0 := Option.some.inj (hv294_0.symm.trans hx294_0); rw [hv294_0] at ge294_0; have HL294_0 := Am (show Kd.R k52 52 _ _ _ _ ((rd_T33 t279 0).f0) from ge294_0); clear hv294_0 ge294_0; clear hcc294 hce294; have qi294 : (0 < t279.length) = True := eq_true (by omega); (try rw [show ((0 : Int)).toNat = 0 from rfl] at hx294_0); (try rw [show 0 * 2 = 0 from rfl] at hx294_0); (try rw [Addr.add_zero'] at hx294_0); (try rw [show ((0 : Int)).toNat = 0 from rfl] at hx294_1); (try rw [show 0 * 2 = 0 from rfl] at hx294_1); (try rw [Addr.add_zero'] at hx294_1); have HR294_0 := Aside0.mk hi294_0; have HC294_0 := Aside0.mk hl294_0; clear hi294_0 hl294_0; replace p294 := eq_true p294; replace q294 := eq_true q294) | (go_at_call 15; (with_reducible refine (policy_Text.calls k3 _ _ ((rd_T33 t279 0).f0) ((rd_T33 t279 0).f1) t295 _ ?side1 ?side2 A40.out).mono ?_); (case side1 => repeat (first | exact (by repeat (first | (with_reducible exact HR294_0.out) | (with_reducible refine Kd.C_alloc ?_ _) | (with_reducible refine Kd.C_drewN ?_ _) | (with_reducible refine Kd.C_drew ?_) | exact HR294_0.out)) | (first | (with_reducible refine Kd.C_alloc ?_ _) | (with_reducible refine Kd.C_drewN ?_ _) | (with_reducible refine Kd.C_drew ?_)))); (case side2 => exact HC294_0.out); rintro e w61 ⟨rfl, hb⟩; have n0_ := Am (Kd.R_below (by (with_reducible repeat (first | apply Kd.R_alloc | apply Kd.R_drewN | apply Kd.R_drew)); exact HO278.out) hb); have n1_ := Am (Kd.R_below (by (with_reducible repeat (first | apply Kd.R_alloc | apply Kd.R_drewN | apply Kd.R_drew)); exact HO281.out) hb); have n2_ := Am (Kd.S_below (by (with_reducible repeat (first | apply Kd.S_alloc | apply Kd.S_drewN | apply Kd.S_drew)); exact HO284.out) hb); have n3_ := Am (Kd.S_below (by (with_reducible repeat (first | apply Kd.S_alloc | apply Kd.S_drewN | apply Kd.S_drew)); exact HO288.out) hb); have n4_ := Am (Kd.S_below (by (with_reducible repeat (first | apply Kd.S_alloc | apply Kd.S_drewN | apply Kd.S_drew)); exact HO292.out) hb); have n5_ := Am (Kd.R_below (by (with_reducible repeat (first | apply Kd.R_alloc | apply Kd.R_drewN | apply Kd.R_drew)); exact HL294_0.out) hb); have n6_ := Am (Kd.C_below (by repeat (first | (with_reducible exact HR294_0.out) | (with_reducible refine Kd.C_alloc ?_ _) | (with_reducible refine Kd.C_drewN ?_ _) | (with_reducible refine Kd.C_drew ?_) | exact HR294_0.out)) hb); have n7_ := Am (below_step (by (repeat (first | (with_reducible first | exact HB.out | apply below_alloc | apply pw_below_drewN | apply below_drew1) | exact HB.out))) hb); clear HO278; clear HO281; clear HO284; clear HO288; clear HO292; clear HL294_0; clear HR294_0; clear HB; have HO278 := n0_; have HO281 := n1_; have HO284 := n2_; have HO288 := n3_; have HO292 := n4_; have HL294_0 := n5_; have HR294_0 := n6_; have HB := n7_; clear n0_ n1_ n2_ n3_ n4_ n5_ n6_ n7_; (try clear hb); (try clear hb2); (try clear hk); (try clear hi); have p296 : 0 ≤ (1 : Int) := (by omega); have q296 : 1 < (t279.length : Int) := of_decide_eq_true (by first | (with_reducible assumption) | assumption); obtain ⟨ad296, A296_0, c296_0, e296, hx296_0, hx296_1, hl296_0, hi296_0⟩ := at_T33 (Kd.R_reads' HO281.out).2.2 1 p296 q296; (try rw [← Nbq46.out] at hx296_1); obtain rfl : ad294 = ad296 := (by injection e296); obtain ⟨ce296, hce296, hMe296, hcc296⟩ := Kd.R_get HO281.out z33 1 p296 (by first | exact q296 | exact of_decide_eq_true (by first | (with_reducible assumption) | assumption) | (have e_ := (Kd.R_reads' HO281.out).1; omega)); obtain ⟨ve296_0, rfl, ge296_0⟩ := k33_openM hMe296; have hv296_0 := hcc296 0 _ rfl; rw [Nat.add_zero] at hv296_0; replace hv296_0 := Option.some.inj (hv296_0.symm.trans hx296_0); rw [hv296_0] at ge296_0; have HL296_0 := Am (show Kd.R k52 52 _ _ _ _ ((rd_T33 t279 1).f0) from ge296_0); clear hv296_0 ge296_0; clear hcc296 hce296; (try simp only [show (1 : Int).toNat = 1 from rfl, Nat.reduceMul, Nat.reduceEqDiff, Go.Addr.add, ↓reduceIte] at hx296_0); (try simp only [show (1 : Int).toNat = 1 from rfl, Nat.reduceMul, Nat.reduceEqDiff, Go.Addr.add, ↓reduceIte] at hx296_1); have qi296 : (1 < t279.length) = True := eq_true (by omega); (try rw [show ((1 : Int)).toNat = 1 from rfl] at hx296_0); (try rw [show 1 * 2 = 2 from rfl] at hx296_0); (try rw [show ((1 : Int)).toNat = 1 from rfl] at hx296_1); (try rw [show 1 * 2 = 2 from rfl] at hx296_1); have HR296_0 := Aside0.mk hi296_0; have HC296_0 := Aside0.mk hl296_0; clear hi296_0 hl296_0; replace p296 := eq_true p296; replace q296 := eq_true q296) | (go_at_call 15; (with_reducible refine (policy_Text.calls k3 _ _ ((rd_T33 t279 1).f0) ((rd_T33 t279 1).f1) t297 _ ?side1 ?side2 A43.out).mono ?_); (case side1 => repeat (first | exact (by repeat (first | (with_reducible exact HR296_0.out) | (with_reducible refine Kd.C_alloc ?_ _) | (with_reducible refine Kd.C_drewN ?_ _) | (with_reducible refine Kd.C_drew ?_) | exact HR296_0.out)) | (first | (with_reducible refine Kd.C_alloc ?_ _) | (with_reducible refine Kd.C_drewN ?_ _) | (with_reducible refine Kd.C_drew ?_)))); (case side2 => exact HC296_0.out); rintro e w62 ⟨rfl, hb⟩; have n0_ := Am (Kd.R_below (by (with_reducible repeat (first | apply Kd.R_alloc | apply Kd.R_drewN | apply Kd.R_drew)); exact HO278.out) hb); have n1_ := Am (Kd.R_below (by (with_reducible repeat (first | apply Kd.R_alloc | apply Kd.R_drewN | apply Kd.R_drew)); exact HO281.out) hb); have n2_ := Am (Kd.S_below (by (with_reducible repeat (first | apply Kd.S_alloc | apply Kd.S_drewN | apply Kd.S_drew)); exact HO284.out) hb); have n3_ := Am (Kd.S_below (by (with_reducible repeat (first | apply Kd.S_alloc | apply Kd.S_drewN | apply Kd.S_drew)); exact HO288.out) hb); have n4_ := Am (Kd.S_below (by (with_reducible repeat (first | apply Kd.S_alloc | apply Kd.S_drewN | apply Kd.S_drew)); exact HO292.out) hb); have n5_ := Am (Kd.R_below (by (with_reducible repeat (first | apply Kd.R_alloc | apply Kd.R_drewN | apply Kd.R_drew)); exact HL294_0.out) hb); have n6_ := Am (Kd.R_below (by (with_reducible repeat (first | apply Kd.R_alloc | apply Kd.R_drewN | apply Kd.R_drew)); exact HL296_0.out) hb); have n7_ := Am (Kd.C_below (by repeat (first | (with_reducible exact HR294_0.out) | (with_reducible refine Kd.C_alloc ?_ _) | (with_reducible refine Kd.C_drewN ?_ _) | (with_reducible refine Kd.C_drew ?_) | exact HR294_0.out)) hb); have n8_ := Am (Kd.C_below (by repeat (first | (with_reducible exact HR296_0.out) | (with_reducible refine Kd.C_alloc ?_ _) | (with_reducible refine Kd.C_drewN ?_ _) | (with_reducible refine Kd.C_drew ?_) | exact HR296_0.out)) hb); have n9_ := Am (below_step (by (repeat (first | (with_reducible first | exact HB.out | apply below_alloc | apply pw_below_drewN | apply below_drew1) | exact HB.out))) hb); clear HO278; clear HO281; clear HO284; clear HO288; clear HO292; clear HL294_0; clear HL296_0; clear HR294_0; clear HR296_0; clear HB; have HO278 := n0_; have HO281 := n1_; have HO284 := n2_; have HO288 := n3_; have HO292 := n4_; have HL294_0 := n5_; have HL296_0 := n6_; have HR294_0 := n7_; have HR296_0 := n8_; have HB := n9_; clear n0_ n1_ n2_ n3_ n4_ n5_ n6_ n7_ n8_ n9_; (try clear hb); (try clear hb2); (try clear hk); (try clear hi); have p298 : 0 ≤ (2 : Int) := (by omega); have q298 : 2 < (t279.length : Int) := of_decide_eq_true (by first | (with_reducible assumption) | assumption); obtain ⟨ad298, A298_0, c298_0, e298, hx298_0, hx298_1, hl298_0, hi298_0⟩ := at_T33 (Kd.R_reads' HO281.out).2.2 2 p298 q298; (try rw [← Nbq46.out] at hx298_1); obtain rfl : ad294 = ad298 := (by injection e298); obtain ⟨ce298, hce298, hMe298, hcc298⟩ := Kd.R_get HO281.out z33 2 p298 (by first | exact q298 | exact of_decide_eq_true (by first | (with_reducible assumption) | assumption) | (have e_ := (Kd.R_reads' HO281.out).1; omega)); obtain ⟨ve298_0, rfl, ge298_0⟩ := k33_openM hMe298; have hv298_0 := hcc298 0 _ rfl; rw [Nat.add_zero] at hv298_0; replace hv298_0 := Option.some.inj (hv298_0.symm.trans hx298_0); rw [hv298_0] at ge298_0; have HL298_0 := Am (show Kd.R k52 52 _ _ _ _ ((rd_T33 t279 2).f0) from ge298_0); clear hv298_0 ge298_0; clear hcc298 hce298; (try simp only [show (2 : Int).toNat = 2 from rfl, Nat.reduceMul, Nat.reduceEqDiff, Go.Addr.add, ↓reduceIte] at hx298_0); (try simp only [show (2 : Int).toNat = 2 from rfl, Nat.reduceMul, Nat.reduceEqDiff, Go.Addr.add, ↓reduceIte] at hx298_1); have qi298 : (2 < t279.length) = True := eq_true (by omega); (try rw [show ((2 : Int)).toNat = 2 from rfl] at hx298_0); (try rw [show 2 * 2 = 4 from rfl] at hx298_0); (try rw [show ((2 : Int)).toNat = 2 from rfl] at hx298_1); (try rw [show 2 * 2 = 4 from rfl] at hx298_1); have HR298_0 := Aside0.mk hi298_0; have HC298_0 := Aside0.mk hl298_0; clear hi298_0 hl298_0; replace p298 := eq_true p298; replace q298 := eq_true q298) | (go_at_call 13; (refine (policy_From.calls k3 _ _ ([] : List (S29)) t299 _ ?side1 ?side2 A48.out).mono ?_); (case side1 => exact Kd.C_nil _ _); (case side2 => exact Nat.le_refl _); rintro e w63 ⟨v300, rfl, ho0, hb⟩; have n0_ := Am (Kd.R_below (by (with_reducible repeat (first | apply Kd.R_alloc | apply Kd.R_drewN | apply Kd.R_drew)); exact HO278.out) hb); have n1_ := Am (Kd.R_elder' (by (with_reducible repeat (first | apply Kd.R_alloc | apply Kd.R_drewN | apply Kd.R_drew)); exact HO281.out) (Kd.R_base ho0) hb); have n2_ := Am (Kd.S_below (by (with_reducible repeat (first | apply Kd.S_alloc | apply Kd.S_drewN | apply Kd.S_drew)); exact HO284.out) hb); have n3_ := Am (Kd.S_below (by (with_reducible repeat (first | apply Kd.S_alloc | apply Kd.S_drewN | apply Kd.S_drew)); exact HO288.out) hb); have n4_ := Am (Kd.S_below (by (with_reducible repeat (first | apply Kd.S_alloc | apply Kd.S_drewN | apply Kd.S_drew)); exact HO292.out) hb); have n5_ := Am (Kd.R_below (by (with_reducible repeat (first | apply Kd.R_alloc | apply Kd.R_drewN | apply Kd.R_drew)); exact HL294_0.out) hb); have n6_ := Am (Kd.R_below (by (with_reducible repeat (first | apply Kd.R_alloc | apply Kd.R_drewN | apply Kd.R_drew)); exact HL296_0.out) hb); have n7_ := Am (Kd.R_below (by (with_reducible repeat (first | apply Kd.R_alloc | apply Kd.R_drewN | apply Kd.R_drew)); exact HL298_0.out) hb); have n8_ := Am (Kd.R_lower (Kd.R_new' (Kd.R_new' (Kd.R_new' (Kd.R_new' (Kd.R_new' (Kd.R_new' (Kd.R_new' ho0 (Kd.R_lt (by (with_reducible repeat (first | apply Kd.R_alloc | apply Kd.R_drewN | apply Kd.R_drew)); exact HO281.out))) (Kd.S_lt (by (with_reducible repeat (first | apply Kd.S_alloc | apply Kd.S_drewN | apply Kd.S_drew)); exact HO284.out))) (Kd.S_lt (by (with_reducible repeat (first | apply Kd.S_alloc | apply Kd.S_drewN | apply Kd.S_drew)); exact HO288.out))) (Kd.S_lt (by (with_reducible repeat (first | apply Kd.S_alloc | apply Kd.S_drewN | apply Kd.S_drew)); exact HO292.out))) (Kd.R_lt (by (with_reducible repeat (first | apply Kd.R_alloc | apply Kd.R_drewN | apply Kd.R_drew)); exact HL294_0.out))) (Kd.R_lt (by (with_reducible repeat (first | apply Kd.R_alloc | apply Kd.R_drewN | apply Kd.R_drew)); exact HL296_0.out))) (Kd.R_lt (by (with_reducible repeat (first | apply Kd.R_alloc | apply Kd.R_drewN | apply Kd.R_drew)); exact HL298_0.out))) (below_size (by (repeat (first | (with_reducible first | exact HB.out | apply below_alloc | apply pw_below_drewN | apply below_drew1) | exact HB.out))))); have n9_ := Am (Kd.C_below (by repeat (first | (with_reducible exact HR294_0.out) | (with_reducible refine Kd.C_alloc ?_ _) | (with_reducible refine Kd.C_drewN ?_ _) | (with_reducible refine Kd.C_drew ?_) | exact HR294_0.out)) hb); have n10_ := Am (Kd.C_below (by repeat (first | (with_reducible exact HR296_0.out) | (with_reducible refine Kd.C_alloc ?_ _) | (with_reducible refine Kd.C_drewN ?_ _) | (with_reducible refine Kd.C_drew ?_) | exact HR296_0.out)) hb); have n11_ := Am (Kd.C_below (by repeat (first | (with_reducible exact HR298_0.out) | (with_reducible refine Kd.C_alloc ?_ _) | (with_reducible refine Kd.C_drewN ?_ _) | (with_reducible refine Kd.C_drew ?_) | exact HR298_0.out)) hb); have n12_ := Am (below_step (by (repeat (first | (with_reducible first | exact HB.out | apply below_alloc | apply pw_below_drewN | apply below_drew1) | exact HB.out))) hb); clear HO278; clear HO281; clear HO284; clear HO288; clear HO292; clear HL294_0; clear HL296_0; clear HL298_0; clear HR294_0; clear HR296_0; clear HR298_0; clear HB; have HO278 := n0_; have HO281 := n1_; have HO284 := n2_; have HO288 := n3_; have HO292 := n4_; have HL294_0 := n5_; have HL296_0 := n6_; have HL298_0 := n7_; have HO301 := n8_; have HR294_0 := n9_; have HR296_0 := n10_; have HR298_0 := n11_; have HB := n12_; clear n0_ n1_ n2_ n3_ n4_ n5_ n6_ n7_ n8_ n9_ n10_ n11_ n12_; ((try clear hb); (try clear hb2); (try clear hk); (try clear hi); (try clear ho0)); obtain ⟨Ao64, co64, eo64⟩ := Kd.R_slice HO301.out; subst eo64) | (go_at_call 16; (with_reducible refine (ostiarylaw10_known.calls k3  t302 _ A50.out).mono ?_); rintro e w65 ⟨rfl, hb⟩; have n0_ := Am (Kd.R_below (by (with_reducible repeat (first | apply Kd.R_alloc | apply Kd.R_drewN | apply Kd.R_drew)); exact HO278.out) hb); have n1_ := Am (Kd.R_below (by (with_reducible repeat (first | apply Kd.R_alloc | apply Kd.R_drewN | apply Kd.R_drew)); exact HO281.out) hb); have n2_ := Am (Kd.S_below (by (with_reducible repeat (first | apply Kd.S_alloc | apply Kd.S_drewN | apply Kd.S_drew)); exact HO284.out) hb); have n3_ := Am (Kd.S_below (by (with_reducible repeat (first | apply Kd.S_alloc | apply Kd.S_drewN | apply Kd.S_drew)); exact HO288.out) hb); have n4_ := Am (Kd.S_below (by (with_reducible repeat (first | apply Kd.S_alloc | apply Kd.S_drewN | apply Kd.S_drew)); exact HO292.out) hb); have n5_ := Am (Kd.R_below (by (with_reducible repeat (first | apply Kd.R_alloc | apply Kd.R_drewN | apply Kd.R_drew)); exact HL294_0.out) hb); have n6_ := Am (Kd.R_below (by (with_reducible repeat (first | apply Kd.R_alloc | apply Kd.R_drewN | apply Kd.R_drew)); exact HL296_0.out) hb); have n7_ := Am (Kd.R_below (by (with_reducible repeat (first | apply Kd.R_alloc | apply Kd.R_drewN | apply Kd.R_drew)); exact HL298_0.out) hb); have n8_ := Am (Kd.R_below (by (with_reducible repeat (first | apply Kd.R_alloc | apply Kd.R_drewN | apply Kd.R_drew)); exact HO301.out) hb); have n9_ := Am (Kd.C_below (by repeat (first | (with_reducible exact HR294_0.out) | (with_reducible refine Kd.C_alloc ?_ _) | (with_reducible refine Kd.C_drewN ?_ _) | (with_reducible refine Kd.C_drew ?_) | exact HR294_0.out)) hb); have n10_ := Am (Kd.C_below (by repeat (first | (with_reducible exact HR296_0.out) | (with_reducible refine Kd.C_alloc ?_ _) | (with_reducible refine Kd.C_drewN ?_ _) | (with_reducible refine Kd.C_drew ?_) | exact HR296_0.out)) hb); have n11_ := Am (Kd.C_below (by repeat (first | (with_reducible exact HR298_0.out) | (with_reducible refine Kd.C_alloc ?_ _) | (with_reducible refine Kd.C_drewN ?_ _) | (with_reducible refine Kd.C_drew ?_) | exact HR298_0.out)) hb); have n12_ := Am (below_step (by (repeat (first | (with_reducible first | exact HB.out | apply below_alloc | apply pw_below_drewN | apply below_drew1) | exact HB.out))) hb); clear HO278; clear HO281; clear HO284; clear HO288; clear HO292; clear HL294_0; clear HL296_0; clear HL298_0; clear HO301; clear HR294_0; clear HR296_0; clear HR298_0; clear HB; have HO278 := n0_; have HO281 := n1_; have HO284 := n2_; have HO288 := n3_; have HO292 := n4_; have HL294_0 := n5_; have HL296_0 := n6_; have HL298_0 := n7_; have HO301 := n8_; have HR294_0 := n9_; have HR296_0 := n10_; have HR298_0 := n11_; have HB := n12_; clear n0_ n1_ n2_ n3_ n4_ n5_ n6_ n7_ n8_ n9_ n10_ n11_ n12_; (try clear hb); (try clear hb2); (try clear hk); (try clear hi)))
                                          go_ret
                                          exact ⟨by (first | rfl | (simp [errW_none, errW_some] <;> rfl) | (simp [*, errW_none, errW_some] <;> rfl)), by (repeat (first | (with_reducible first | exact HB.out | apply below_alloc | apply pw_below_drewN | apply below_drew1) | exact HB.out))⟩
                                        · rw [if_neg c49] at H
                                          have c49b0 : ((t299.length : Int) == 0) = false := beq_eq_false_iff_ne.mpr c49
                                          have c49b1 : ((t299.length : Int) != 0) = true := bne_iff_ne.mpr c49
                                          have c49b2 : ¬ (t299 = []) := fun h_ => c49 (by rw [h_]; rfl)
                                          exact absurd ((Option.some.inj H).trans hrt.out) (by decide)
                                      · replace c47 := Bool.eq_false_iff.mpr c47
                                        subst c47
                                        have H1 : (some false) = some r := by rw [if_neg (show ¬ (false = true) by decide)] at H; exact H
                                        clear H
                                        have H := H1
                                        clear H1
                                        exact absurd ((Option.some.inj H).trans hrt.out) (by decide)
                                    · rw [if_neg c45] at H
                                      exact absurd H (by simp)
                                  · rw [if_neg c44] at H
                                    have c44b0 : (t297.toList == ([99, 32, 100] : List UInt8)) = false := beq_eq_false_iff_ne.mpr c44
                                    have c44b1 : (t297.toList != ([99, 32, 100] : List UInt8)) = true := bne_iff_ne.mpr c44
                                    exact absurd ((Option.some.inj H).trans hrt.out) (by decide)
                                · rw [if_neg c42] at H
                                  exact absurd H (by simp)
                              · rw [if_neg c41] at H
                                have c41b0 : (t295.toList == ([98] : List UInt8)) = false := beq_eq_false_iff_ne.mpr c41
                                have c41b1 : (t295.toList != ([98] : List UInt8)) = true := bne_iff_ne.mpr c41
                                exact absurd ((Option.some.inj H).trans hrt.out) (by decide)
                            · rw [if_neg c39] at H
                              exact absurd H (by simp)
                          · rw [if_neg c38] at H
                            have c38b0 : ((t279.length : Int) == 3) = false := beq_eq_false_iff_ne.mpr c38
                            have c38b1 : ((t279.length : Int) != 3) = true := bne_iff_ne.mpr c38
                            exact absurd ((Option.some.inj H).trans hrt.out) (by decide)
                        · replace c37 := Bool.eq_false_iff.mpr c37
                          subst c37
                          have H1 : (some false) = some r := by rw [if_neg (show ¬ (false = true) by decide)] at H; exact H
                          clear H
                          have H := H1
                          clear H1
                          exact absurd ((Option.some.inj H).trans hrt.out) (by decide)
                      · rw [if_neg c35] at H
                        have c35b0 : ((t286.length : Int) == 0) = false := beq_eq_false_iff_ne.mpr c35
                        have c35b1 : ((t286.length : Int) != 0) = true := bne_iff_ne.mpr c35
                        have c35b2 : ¬ (t286 = []) := fun h_ => c35 (by rw [h_]; rfl)
                        exact absurd ((Option.some.inj H).trans hrt.out) (by decide)
                    · rw [if_neg c33] at H
                      have c33b0 : ((t282.length : Int) == 32) = false := beq_eq_false_iff_ne.mpr c33
                      have c33b1 : ((t282.length : Int) != 32) = true := bne_iff_ne.mpr c33
                      exact absurd ((Option.some.inj H).trans hrt.out) (by decide)

/-- THE ONE PURE STATEMENT of ostiarylaw10_PolicyNumbers: yours. -/
def ostiarylaw10_PolicyNumbers.Pure : Prop := ∃ k, ostiarylaw10_PolicyNumbers.f k  = some true
theorem ostiarylaw10_PolicyNumbers.walk (P : ostiarylaw10_PolicyNumbers.Pure)  (w : World)  :
    Calls Tryd.prog 3 #[] w fun e w' => e = .returned (.bool true) ∧ Below w.heap.size w w' := by
  obtain ⟨k, h⟩ := P  
  refine (ostiarylaw10_PolicyNumbers.calls k  true w h ⟨rfl⟩).mono ?_
  rintro e w' ⟨rfl, hd⟩
  exact ⟨rfl, hd⟩

end Go.Proofs.YtohcjdninpjpgaaDoor.PX
