/- How a slice of int64 that came in is opened. -/
import Derived.Test.YtfbifmgaehgcmaaOpen
import Derived.Test.YtfbifmgaehgcmaaApp
namespace Go.Proofs.Ytfbifmgaehgcmaa
open Go.ChangeShapes Go.WideShapes Go.ChangeAt Go.RowKit

theorem open_slice_i64 {H : Type} {enc : TypeId × Value → H} {w : World} {b0 : Nat} {r : Reach} {v : Value} {d : DataW H} {ps : List MemPlace}
    (hval : Value.okWide Try.prog w r b0 28 v) (h : DataW.Trod enc Try.prog w 0 (fun _ => true) true 28 v d ps) :
    ∃ a len cap zs, v = .slice a len cap ∧ SliceI w a len cap zs ∧ cap ≤ 9223372036854775807 := by
  obtain ⟨a0, len0, cap0, rfl⟩ := okWide_slice Try.underlying28 hval
  obtain ⟨fuel, hf⟩ := h
  rcases open_ints Try.underlying28 Try.underlying2 (by kernel_rfl) hf with ⟨hcs, _⟩ | ⟨x, l, c, zs, hcs, _, hl, hm, hz, _, hcell, _⟩
  · simp [Value.cells] at hcs
    obtain ⟨rfl, rfl, rfl⟩ := hcs
    exact ⟨_, _, _, [], rfl, ⟨rfl, Nat.le_refl _, .inl ⟨rfl, rfl, rfl⟩⟩, by omega⟩
  · simp [Value.cells] at hcs
    obtain ⟨rfl, rfl, rfl⟩ := hcs
    have hz' : zs.length = cap0 := by simpa using hz
    unfold maxLen at hm
    refine ⟨_, _, _, zs.take len0, rfl, ⟨by simp; omega, hl, ?_⟩, by omega⟩
    by_cases h0 : len0 = 0
    · exact .inr (.inl ⟨h0, x, rfl⟩)
    · obtain ⟨b, off, spot⟩ := x
      have hc := hcell 0 (by omega)
      have hspot : spot = none := by simpa [Addr.add] using World.cell?_spot hc
      subst hspot
      refine .inr (.inr ⟨b, off, rfl, fun i hi => ?_⟩)
      have hci := hcell i (by omega)
      have e : (⟨b, off, none⟩ : Addr).add i = ⟨b, off + i, none⟩ := by unfold Addr.add; split <;> simp_all
      rw [e] at hci
      refine ⟨World.block_lt_of_cell? _ _ hci, ?_⟩
      rw [hci, List.getD_eq_getElem?_getD, List.getD_eq_getElem?_getD, List.getElem?_take_of_lt hi]

end Go.Proofs.Ytfbifmgaehgcmaa
