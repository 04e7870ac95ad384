/- Plain law: Same of two equal lists of texts. -/
import Derived.Test.YtohcjdninpjpgaaDoorPXx1
namespace Go.Proofs.YtohcjdninpjpgaaDoor.Own
open Go.RowKit Go.Proofs.YtohcjdninpjpgaaDoor.PX Go.Proofs.YtohcjdninpjpgaaDoorW.PrintWords

theorem sameT_l0 (l : List ByteArray) (hl : l.length < 4000000000) : ∀ (d i K : Nat), i + d = l.length → d + 1 ≤ K → ostiarybook_Same_string.l0 K l l (i : Int) = some true := by
  intro d
  induction d with
  | zero =>
    intro i K hi hK
    obtain ⟨K, rfl⟩ : ∃ k, K = k + 1 := ⟨K - 1, by omega⟩
    rw [ostiarybook_Same_string.l0, if_neg (by omega)]
  | succ d ih =>
    intro i K hi hK
    obtain ⟨K, rfl⟩ : ∃ k, K = k + 1 := ⟨K - 1, by omega⟩
    have hw : wrap64 ((i : Int) + 1) = ((i + 1 : Nat) : Int) := by unfold wrap64; omega
    rw [ostiarybook_Same_string.l0, if_pos (by omega), if_pos (by omega), if_pos (by omega), if_pos rfl, hw]
    exact ih (i + 1) K (by omega) (by omega)

theorem sameT_f (l : List ByteArray) (hl : l.length < 4000000000) (K : Nat) (hK : l.length + 1 ≤ K) : ostiarybook_Same_string.f K l l = some true := by
  unfold ostiarybook_Same_string.f
  rw [if_pos rfl]
  exact sameT_l0 l hl l.length 0 K (by omega) hK

end Go.Proofs.YtohcjdninpjpgaaDoor.Own
