/- How an array of four int64 that came in is opened; how an argument that was only read is handed back. -/
import Derived.Test.YtfbifmgaehgcmaaRows
import Derived.ProofKit
import Derived.OpenShut
import Derived.ChangeOld
import Derived.Below
namespace Go.Proofs.Ytfbifmgaehgcmaa
open Go.ChangeShapes Go.WideShapes Go.ChangeAt Go.RowKit

theorem Try.own : ownKnob Try.prog.godebug = none := by kernel_rfl
theorem Try.laidOut : laidOutB Try.prog = true := by kernel_rfl
theorem Try.cells22 : Try.prog.cellsOf 22 = 4 := by kernel_rfl
theorem Try.cellsOf2 : Try.prog.cellsOf 2 = 1 := by kernel_rfl

/-- An array of four int64: its four numbers. -/
theorem open_four {H : Type} {enc : TypeId × Value → H} {w : World} {base b0 : Nat} {spare : Nat → Bool} {held : Bool} {r : Reach} {v : Value} {d : DataW H} {ps : List MemPlace}
    (hval : Value.okWide Try.prog w r b0 22 v) (h : DataW.Trod enc Try.prog w base spare held 22 v d ps) :
    ∃ n0 n1 n2 n3, v = .agg #[.int .i64 n0, .int .i64 n1, .int .i64 n2, .int .i64 n3] ∧ (Lit.int .i64 n0).wf = true ∧ (Lit.int .i64 n1).wf = true ∧ (Lit.int .i64 n2).wf = true ∧ (Lit.int .i64 n3).wf = true := by
  unfold Value.okWide at hval
  rw [Try.underlying22] at hval
  simp only at hval
  obtain ⟨cs, rfl, hs, _⟩ := hval
  rw [Try.cells22] at hs
  obtain ⟨fuel, hf⟩ := h
  obtain ⟨xs, m, _, _, _, hl, hx⟩ := DataW.trod_array Try.underlying22 hf
  have hone : ∀ i, i < 4 → ∃ n, cs[i]? = some (.int .i64 n) ∧ (Lit.int .i64 n).wf = true := by
    intro i hi
    have h1 := hx i hi
    rw [Try.cellsOf2, Nat.mul_one] at h1
    have hlt : i < cs.size := by omega
    have e : ((Value.agg cs).cells.toList.drop i).take 1 = [cs[i]] := by
      show (cs.toList.drop i).take 1 = _
      rw [List.drop_eq_getElem_cons (by simpa using hlt)]
      simp
    rw [e, List.getElem?_eq_getElem (by omega)] at h1
    obtain ⟨n, hn, _, hw⟩ := DataW.trod_int Try.underlying2 h1
    refine ⟨n, ?_, hw⟩
    rw [Array.getElem?_eq_getElem hlt]
    simpa using hn
  obtain ⟨n0, e0, w0⟩ := hone 0 (by omega)
  obtain ⟨n1, e1, w1⟩ := hone 1 (by omega)
  obtain ⟨n2, e2, w2⟩ := hone 2 (by omega)
  obtain ⟨n3, e3, w3⟩ := hone 3 (by omega)
  refine ⟨n0, n1, n2, n3, ?_, w0, w1, w2, w3⟩
  congr 1
  refine Array.ext_getElem? fun i => ?_
  by_cases hi : i < 4
  · rcases (by omega : i = 0 ∨ i = 1 ∨ i = 2 ∨ i = 3) with rfl | rfl | rfl | rfl
    · rw [e0]; rfl
    · rw [e1]; rfl
    · rw [e2]; rfl
    · rw [e3]; rfl
  · rw [Array.getElem?_eq_none (by omega), Array.getElem?_eq_none (by simp; omega)]

end Go.Proofs.Ytfbifmgaehgcmaa
