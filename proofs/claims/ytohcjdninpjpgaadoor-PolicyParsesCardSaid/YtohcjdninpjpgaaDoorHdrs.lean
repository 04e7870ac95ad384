/- A slice of headers that is read: its rows. -/
import Derived.Test.YtohcjdninpjpgaaDoorPXx0
import Derived.Deep.SlicePairs
namespace Go.Proofs.YtohcjdninpjpgaaDoor.Own
open Go.Deep Go.ChangeShapes Go.WideShapes Go.RowKit Go.Proofs.YtohcjdninpjpgaaDoor.PX Go.Proofs.YtohcjdninpjpgaaDoorW.PrintWords Go.Proofs.YtohcjdninpjpgaaDoorW.PrintLast Go.Proofs.YtohcjdninpjpgaaDoorW.PrintMore

abbrev HdrsOf (W : World) (A : Option Addr) (l : List S29) : Prop := Kd.C k29 W A l.length l

theorem open_hdrs {H : Type} {enc : TypeId × Value → H} {W : World} {base : Nat} {spare : Nat → Bool} {held : Bool} {fuel : Nat} {A : Option Addr} {len cap : Nat} {x : DataW H × List MemPlace}
    (h : DataW.trod enc Tryd.prog W base spare held fuel 30 [.slice A len cap] = some x) : ∃ l : List S29, l.length = len ∧ len ≤ cap ∧ HdrsOf W A l := by
  rcases open_slice_pairs (P := Tryd.prog) (e := 29) Tryd.underlying30 Tryd.underlying29 (by kernel_rfl) rfl rfl (by kernel_rfl) (by kernel_rfl) h with ⟨hc, _⟩ | ⟨a, l, c, m, n, V0, V1, D0, D1, P0, P1, hcs, _, hl, hm, hmm, _, hx⟩
  · simp only [List.cons.injEq, Value.slice.injEq, and_true] at hc
    obtain ⟨rfl, rfl, rfl⟩ := hc
    exact ⟨[], rfl, Nat.le_refl _, Kd.C_nil _ _⟩
  · simp only [List.cons.injEq, Value.slice.injEq, and_true] at hcs
    obtain ⟨rfl, rfl, rfl⟩ := hcs
    have hlm : len ≤ m := by rw [hmm]; split <;> omega
    have each : ∀ i, i < m → ∃ q : ByteArray × ByteArray, V0 i = .string q.1 ∧ V1 i = .string q.2 := fun i hi => by
      obtain ⟨_, _, h1, h2⟩ := hx i hi
      obtain ⟨s, e1, _⟩ := DataW.trod_string Tryd.underlying9 h1
      obtain ⟨t, e2, _⟩ := DataW.trod_string Tryd.underlying9 h2
      exact ⟨(s, t), by simpa using e1, by simpa using e2⟩
    obtain ⟨f, hf⟩ := choose_lt each
    have hlen : ((List.range len).map fun i => (⟨(f i).1, (f i).2⟩ : S29)).length = len := by simp
    refine ⟨(List.range len).map fun i => (⟨(f i).1, (f i).2⟩ : S29), hlen, hl, ?_⟩
    show Kd.C k29 W (some a) _ _
    rw [hlen]
    refine ⟨hlen, Nat.le_trans (Nat.le_trans hl hm) (by decide), fun _ => ⟨a, rfl, fun j p hj => ?_⟩⟩
    obtain ⟨hj1, hj2⟩ := List.getElem?_eq_some_iff.1 hj
    have hjl : j < len := by rw [hlen] at hj1; exact hj1
    rw [List.getElem_map, List.getElem_range] at hj2
    obtain ⟨c0, c1, _, _⟩ := hx j (by omega)
    obtain ⟨e0, e1⟩ := hf j (by omega)
    refine ⟨[.string p.f0, .string p.f1], rfl, k29_mk W p, fun i u hu => ?_⟩
    subst hj2
    cases i with
    | zero =>
      have : u = .string (f j).1 := by simpa using hu.symm
      rw [this, ← e0]
      exact c0
    | succ i =>
      cases i with
      | zero =>
        have : u = .string (f j).2 := by simpa using hu.symm
        rw [this, ← e1]
        exact c1
      | succ i => simp at hu

end Go.Proofs.YtohcjdninpjpgaaDoor.Own
