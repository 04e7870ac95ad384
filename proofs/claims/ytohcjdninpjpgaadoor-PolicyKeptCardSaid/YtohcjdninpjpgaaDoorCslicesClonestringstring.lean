/- A contract: slices.Clone of strings. -/
import Derived.Test.YtohcjdninpjpgaaDoorStrs
namespace Go.Proofs.YtohcjdninpjpgaaDoor.Own
open Go.RowKit Go.Proofs.YtohcjdninpjpgaaDoorW.PrintWords Go.Proofs.YtohcjdninpjpgaaDoorW.PrintLast Go.Proofs.YtohcjdninpjpgaaDoorW.PrintMore

def slices_Clone_string_string.f (l0 : List ByteArray) : Option (List ByteArray) := if l0.length < 100000000 then some l0 else none

theorem slices_Clone_string_string.calls (A0 : Option Addr) (c0 : Nat) (l0 r : List ByteArray) (w : World) (hr0 : Kd.C Kd.string w A0 l0.length l0) (hc0 : l0.length ≤ c0) (h : slices_Clone_string_string.f l0 = some r) :
    Calls Tryd.prog 34 #[.slice A0 l0.length c0] w fun e w' => ∃ v0_, e = .returned (v0_) ∧ Kd.R Kd.string 9 w' w.heap.size (fun _ => True) v0_ r ∧ Below w.heap.size w w' := by
  unfold slices_Clone_string_string.f at h
  split at h
  · rename_i hs
    injection h with h
    subst h
    by_cases hn : 0 < l0.length
    · obtain ⟨b, off, rfl, hb, hc⟩ := C_plain hr0 hn
      refine (Tryd.slices_Clone_string b off l0.length c0 l0 w (Nat.le_refl _) (by omega) (fun j hj => hc j _ ?_)).mono ?_
      · rw [List.getD_eq_getElem?_getD, List.getElem?_eq_getElem hj]
        rfl
      · rintro e w' ⟨v', rfl, ho, _, hB⟩
        rw [List.take_length] at ho
        exact ⟨v', rfl, R_strs ho (fun _ _ => trivial), hB⟩
    · have e0 : l0 = [] := List.length_eq_zero_iff.1 (by omega)
      subst e0
      cases A0 with
      | none =>
        refine (Tryd.slices_Clone_string_nil 0 c0 w).mono ?_
        rintro e w' ⟨rfl, rfl⟩
        exact ⟨_, rfl, Kd.R_nil _ _ _ _ _, Below.refl _ _⟩
      | some a =>
        refine (Tryd.slices_Clone_string_zero a c0 w).mono ?_
        rintro e w' ⟨v', rfl, ho, _, hB⟩
        exact ⟨v', rfl, R_strs (xs := []) ho (fun _ _ => trivial), hB⟩
  · exact nomatch h

end Go.Proofs.YtohcjdninpjpgaaDoor.Own
