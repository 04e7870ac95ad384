/- Rows of strings: where their cells lie. -/
import Derived.Test.YtohcjdninpjpgaaDoorPXx0
import Derived.Test.YtohcjdninpjpgaaDoorShelf
namespace Go.Proofs.YtohcjdninpjpgaaDoor.Own
open Go.RowKit Go.Proofs.YtohcjdninpjpgaaDoorW.PrintWords Go.Proofs.YtohcjdninpjpgaaDoorW.PrintLast Go.Proofs.YtohcjdninpjpgaaDoorW.PrintMore

theorem C_plain {w : World} {A : Option Addr} {n : Nat} {xs : List ByteArray} (h : Kd.C Kd.string w A n xs) (hn : 0 < n) :
    ∃ b off, A = some ⟨b, off, none⟩ ∧ b < w.heap.size ∧ ∀ j x, xs[j]? = some x → w.cell? ⟨b, off + j, none⟩ = some (.string x) := by
  obtain ⟨hl, _, hr⟩ := h
  obtain ⟨⟨b, off, sp⟩, rfl, hc⟩ := hr hn
  have hcell : ∀ j x, xs[j]? = some x → w.cell? ((⟨b, off, sp⟩ : Addr).add j) = some (.string x) := by
    intro j x hj
    obtain ⟨c, hl2, hp, hx⟩ := hc j x hj
    have hp' : c = [.string x] := hp
    have := hx 0 (.string x) (by rw [hp']; rfl)
    have e : j * Kd.string.sz + 0 = j := by show j * 1 + 0 = j; omega
    rw [e] at this
    exact this
  obtain ⟨x0, hx0⟩ : ∃ x, xs[0]? = some x := ⟨xs[0]'(by omega), List.getElem?_eq_getElem (by omega)⟩
  have h0 := hcell 0 x0 hx0
  have hsp : sp = none := by
    cases sp with
    | none => rfl
    | some q =>
      exfalso
      unfold Addr.add at h0
      rw [if_pos rfl] at h0
      unfold World.cell? at h0
      split at h0
      · simp at h0
      · exact nomatch h0
  subst hsp
  have hb : b < w.heap.size := by
    have h1 := h0
    unfold Addr.add at h1
    rw [if_pos rfl] at h1
    exact World.block_lt_of_cell? _ _ h1
  refine ⟨b, off, rfl, hb, fun j x hj => ?_⟩
  have := hcell j x hj
  rwa [Go.WideShapes.add_plain] at this

theorem R_strs {w : World} {base : Nat} {ok : Nat → Prop} {v : Value} {xs : List ByteArray} (ho : w.ownsRow base 9 1 v xs.length (xs.map Value.string)) (hok : ∀ k, v.ownBlock = some k → ok k) : Kd.R Kd.string 9 w base ok v xs := Kd.R_of_own ho hok

end Go.Proofs.YtohcjdninpjpgaaDoor.Own
