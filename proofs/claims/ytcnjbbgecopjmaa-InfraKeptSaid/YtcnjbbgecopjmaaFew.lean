/- Walk: ostiarykeep.FewBytes of a slice that came in: its beginning, in place. -/
import Derived.Test.YtcnjbbgecopjmaaBytes
namespace Go.Proofs.Ytcnjbbgecopjmaa.Own
open Go.RowKit Go.Proofs.Ytcnjbbgecopjmaa.PX Go.Proofs.YtcnjbbgecopjmaaW.PrintWords Go.Proofs.YtcnjbbgecopjmaaW.PrintLast

theorem few_any (A : Option Addr) (n c : Nat) (j : Int) (hj : 0 ≤ j) (hnc : n ≤ c) (w : World) :
    Calls Try.prog 8 #[.slice A n c, .int .i64 j] w fun e w' => e = .returned (.slice A (min n j.toNat) c) ∧ w' = w := by
  by_cases h : j < (n : Int)
  · have hb : decide (j < (n : Int)) = true := decide_eq_true h
    obtain ⟨i0, hi0, _, hsz, _⟩ := info_parts info5
    have hcut := fun w => cut_to (P := Try.prog) 22 5 .i64 Try.underlying22 hi0 A n c j hj (by omega) hnc w
    have hmin : min n j.toNat = j.toNat := by omega
    rw [hmin]
    clear hmin hi0 hsz h
    go_enter Try.func8, Try.ntmps8
    go_wp2
    go_ret
    exact ⟨rfl, rfl⟩
  · have hb : decide (j < (n : Int)) = false := decide_eq_false h
    have hmin : min n j.toNat = n := by omega
    rw [hmin]
    clear hmin h
    go_enter Try.func8, Try.ntmps8
    go_wp2
    go_ret
    exact ⟨rfl, rfl⟩

theorem few_500 (A : Option Addr) (n c : Nat) (hnc : n ≤ c) (w : World) :
    Calls Try.prog 8 #[.slice A n c, .int .i64 500] w fun e w' => e = .returned (.slice A (min n 500) c) ∧ w' = w := few_any A n c 500 (by decide) hnc w

theorem few_1500 (A : Option Addr) (n c : Nat) (hnc : n ≤ c) (w : World) :
    Calls Try.prog 8 #[.slice A n c, .int .i64 1500] w fun e w' => e = .returned (.slice A (min n 1500) c) ∧ w' = w := few_any A n c 1500 (by decide) hnc w

theorem few_300 (A : Option Addr) (n c : Nat) (hnc : n ≤ c) (w : World) :
    Calls Try.prog 8 #[.slice A n c, .int .i64 300] w fun e w' => e = .returned (.slice A (min n 300) c) ∧ w' = w := few_any A n c 300 (by decide) hnc w

/-- The beginning's bytes. -/
theorem few_C {w : World} {A : Option Addr} {n m : Nat} {xs : List Int} (hC : (Kd.int .u8).C w A n xs) : (Kd.int .u8).C w A (min n m) (xs.take m) := by
  have hl : xs.length = n := hC.1
  subst hl
  have h2 := Kd.C_take (m := min xs.length m) hC (by omega)
  have e : xs.take (min xs.length m) = xs.take m := by
    rw [List.take_eq_take_iff]
    omega
  rw [e] at h2
  have e2 : (xs.take m).length = min xs.length m := by rw [List.length_take]; omega
  rwa [e2] at h2

theorem few_string {w : World} {A : Option Addr} {n c m : Nat} {xs : List Int} {s : ByteArray} (hC : (Kd.int .u8).C w A n xs) (hs : s = strOfNums (xs.take m)) :
    (convert 22 9 (.slice A (min n m) c)).run Try.prog w = .ok (.string s) w := by
  rw [hs]
  exact Kd.C_string Try.underlying22 Try.underlying5 Try.underlying9 (few_C hC)

end Go.Proofs.Ytcnjbbgecopjmaa.Own
