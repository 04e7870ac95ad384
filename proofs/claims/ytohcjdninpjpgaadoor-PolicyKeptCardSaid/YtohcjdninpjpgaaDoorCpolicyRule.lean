/- The search among the rules: a closure over the boxed name. -/
import Derived.Test.YtohcjdninpjpgaaDoorPXx0
import Derived.Test.YtohcjdninpjpgaaDoorStrs
import Derived.Shelf.SlicesQ.IndexFunc
namespace Go.Proofs.YtohcjdninpjpgaaDoor.Own
open Go.Proofs.YtohcjdninpjpgaaDoor.PX
open Go.RowKit Go.Proofs.YtohcjdninpjpgaaDoorW.PrintWords Go.Proofs.YtohcjdninpjpgaaDoorW.PrintLast Go.Proofs.YtohcjdninpjpgaaDoorW.PrintMore

def ruleFrom (name : ByteArray) : List S52 → Nat → Int
  | [], _ => -1
  | x :: r, i => if x.f0.toList == name.toList then (i : Int) else ruleFrom name r (i + 1)

def policy_Rule.f (l0 : List S52) (a1 : ByteArray) : Option Int := if l0.length ≤ 9223372036854775807 then some (ruleFrom a1 l0 0) else none

abbrev RowOf := ByteArray × Option Addr × Nat × Nat

def rowEnc (x : RowOf) : List Value := [.string x.1, .slice x.2.1 x.2.2.1 x.2.2.2]

def ren6 : Go.Shelf.Ren := ⟨fun | 6 => 48 | n => n, fun | 0 => 0 | 3 => 3 | 4 => 4 | 22 => 31 | 23 => 52 | 25 => 81 | n => n, fun n => n⟩

theorem lays6 : SlLaysH0.n6 Tryd.prog ren6 := {
  mixed := by kernel_rfl
  f6 := ⟨Tryd.f48.name, by decide, Tryd.func48.trans (congrArg some (by kernel_rfl))⟩
  t0 := Tryd.underlying0
  a0 := Tryd.isAgg0
  z0 := Tryd.sizeOf0
  v0 := Tryd.zeroValue0
  t3 := Tryd.underlying3
  a3 := Tryd.isAgg3
  z3 := Tryd.sizeOf3
  v3 := Tryd.zeroValue3
  t4 := Tryd.underlying4
  a4 := Tryd.isAgg4
  z4 := Tryd.sizeOf4
  v4 := Tryd.zeroValue4
  t22 := Tryd.underlying31
  a22 := Tryd.isAgg31
  z22 := Tryd.sizeOf31
  v22 := Tryd.zeroValue31
  t25 := Tryd.underlying81
  a25 := Tryd.isAgg81
  z25 := Tryd.sizeOf81
  v25 := Tryd.zeroValue81 }

theorem idx_from (name : ByteArray) (d : RowOf) : ∀ (zs : List RowOf) (l : List S52) (i : Nat), zs.map (·.1) = l.map (·.f0) → Lib.idxByFrom (fun _ (y : RowOf) => y.1.toList == name.toList) d zs i = ruleFrom name l i
  | [], [], _, _ => rfl
  | [], _ :: _, _, h => by simp at h
  | _ :: _, [], _, h => by simp at h
  | z :: zs, x :: l, i, h => by
    simp only [List.map_cons, List.cons.injEq] at h
    unfold Lib.idxByFrom ruleFrom
    rw [h.1, idx_from name d zs l (i + 1) h.2]

theorem rows_of {w : World} {ad : Addr} : ∀ (l : List S52) (k : Nat), (∀ j x, l[j]? = some x → ∃ A c, w.cell? (ad.add ((k + j) * 2)) = some (.string x.f0) ∧ w.cell? (ad.add ((k + j) * 2 + 1)) = some (.slice A x.f1.length c)) →
    ∃ zs : List RowOf, zs.map (·.1) = l.map (·.f0) ∧ ∀ j x, zs[j]? = some x → ∀ i v, (rowEnc x)[i]? = some v → w.cell? (ad.add ((k + j) * 2 + i)) = some v
  | [], _, _ => ⟨[], rfl, fun j x h => by simp at h⟩
  | x :: l, k, h => by
    obtain ⟨A, c, h0, h1⟩ := h 0 x rfl
    obtain ⟨zs, e, hz⟩ := rows_of (w := w) (ad := ad) l (k + 1) (fun j y hj => by
      have := h (j + 1) y hj
      rwa [show k + (j + 1) = k + 1 + j by omega] at this)
    refine ⟨(x.f0, A, x.f1.length, c) :: zs, by simp [e], fun j y hj i v hi => ?_⟩
    cases j with
    | zero =>
      have e2 : y = (x.f0, A, x.f1.length, c) := by simpa using hj.symm
      subst e2
      cases i with
      | zero =>
        have : v = .string x.f0 := by simpa [rowEnc] using hi.symm
        subst this
        exact h0
      | succ i =>
        cases i with
        | zero =>
          have : v = .slice A x.f1.length c := by simpa [rowEnc] using hi.symm
          subst this
          exact h1
        | succ i => simp [rowEnc] at hi
    | succ j =>
      have := hz j y (by simpa using hj) i v hi
      rwa [show k + 1 + j = k + (j + 1) by omega] at this

set_option maxHeartbeats 2000000 in
theorem closure_any (x : RowOf) (name : ByteArray) (gb : Nat) (w : World) (hbk : w.heap[gb]? = some (.cells #[.string name] 9 (0, 0))) :
    Calls Tryd.prog 49 #[.agg (rowEnc x).toArray, .pointer (some ⟨gb, 0, none⟩)] w fun e w' => e = .returned (.bool (x.1.toList == name.toList)) ∧ Below w.heap.size w w' := by
  obtain ⟨x0, A, n, c⟩ := x
  have hu52 := Tryd.underlying52
  have HB := Aside0.mk (Below.refl w.heap.size w)
  have BKn := Aside0.mk hbk
  show Calls Tryd.prog 49 #[.agg #[.string x0, .slice A n c], .pointer (some ⟨gb, 0, none⟩)] w fun e w' => e = .returned (.bool (x0.toList == name.toList)) ∧ Below w.heap.size w w'
  go_enter Tryd.func49, Tryd.ntmps49
  go_wp2_with (((with_reducible refine gate_dst (N := 2) rfl ?_); refine box_event ?hg (N := 2) ?hd (cs := #[.string x0, .slice A n c]) (t := 52) ?hr ?_; (case hd => rfl); (case hg => rfl); (case hr => first | (go_simp; done) | (go_simp; rfl)); intro gx hg wx hbox hb; have n0_ := Aside0.mk (blk_below (g := gb) (o := .cells #[.string name] 9 (0, 0)) BKn.out hb); have n1_ := Aside0.mk (below_step HB.out hb); have n2_ := Aside0.mk hbox; clear BKn HB; have BKn := n0_; have HB := n1_; have BKx := n2_; clear n0_ n1_ n2_; have hc0 : wx.cell? ⟨gx, 0, none⟩ = some (.string x0) := (blk_cell BKx.out 0).trans rfl; have hc1 : wx.cell? ⟨gx, 1, none⟩ = some (.slice A n c) := (blk_cell BKx.out 1).trans rfl; have hcn : wx.cell? ⟨gb, 0, none⟩ = some (.string name) := (blk_cell BKn.out 0).trans rfl; clear hb hbox hg))
  go_ret
  exact ⟨by first | rfl | (simp; done), HB.out⟩

set_option maxHeartbeats 2000000 in
theorem ruleIdx_any (A0 : Option Addr) (c0 : Nat) (l0 : List S52) (name : ByteArray) (gb : Nat) (r : Int) (w : World) (hr0 : Kd.C k52 w A0 l0.length l0) (hbk : w.heap[gb]? = some (.cells #[.string name] 9 (0, 0))) (h : policy_Rule.f l0 name = some r) :
    Calls Tryd.prog 48 #[.slice A0 l0.length c0, .func (.func 49) #[] #[.pointer (some ⟨gb, 0, none⟩)]] w fun e w' => e = .returned (.int .i64 r) ∧ Below w.heap.size w w' := by
  unfold policy_Rule.f at h
  split at h
  · rename_i hbig
    injection h with h
    subst h
    by_cases hn : 0 < l0.length
    · obtain ⟨ad0, _, _, e0, _⟩ := at_T52 hr0 0 (by omega) (by omega)
      subst e0
      have hcells : ∀ j x, l0[j]? = some x → ∃ A c, w.cell? (ad0.add ((0 + j) * 2)) = some (.string x.f0) ∧ w.cell? (ad0.add ((0 + j) * 2 + 1)) = some (.slice A x.f1.length c) := by
        intro j x hj
        obtain ⟨hl, hx⟩ := List.getElem?_eq_some_iff.1 hj
        obtain ⟨ad, A, c, e, h0, h1, _⟩ := at_T52 hr0 j (by omega) (by omega)
        cases e
        have hrd : rd_T52 l0 (j : Int) = x := by
          unfold rd_T52
          rw [Int.toNat_natCast, List.getD_eq_getElem?_getD, hj]
          rfl
        rw [hrd, Int.toNat_natCast] at h0 h1
        rw [Nat.zero_add]
        exact ⟨A, c, h0, by rw [add_field _ _ 1 (by omega)]; exact h1⟩
      obtain ⟨zs, hz, hzc⟩ := rows_of l0 0 hcells
      have hzl : zs.length = l0.length := by
        have := congrArg List.length hz
        simpa using this
      obtain ⟨b, off, sp⟩ := ad0
      obtain ⟨z0, hz0⟩ : ∃ z, zs[0]? = some z := ⟨zs[0]'(by omega), List.getElem?_eq_getElem (by omega)⟩
      have hfirst := hzc 0 z0 hz0 0 (.string z0.1) rfl
      have hsp : sp = none := by
        cases sp with
        | none => rfl
        | some q =>
          exfalso
          unfold Addr.add at hfirst
          rw [if_pos (by rfl)] at hfirst
          unfold World.cell? at hfirst
          split at hfirst
          · simp at hfirst
          · exact nomatch hfirst
      subst hsp
      have hb : b < w.heap.size := by
        have := hfirst
        rw [Go.WideShapes.add_plain] at this
        exact World.block_lt_of_cell? _ _ this
      have hp : PredBelow Tryd.prog 49 #[.pointer (some ⟨gb, 0, none⟩)] (fun x : RowOf => .agg (rowEnc x).toArray) (fun x => x.1.toList == name.toList) w := fun W x hB => by
        refine (closure_any x name gb W (blk_below (g := gb) (o := .cells #[.string name] 9 (0, 0)) hbk hB)).mono ?_
        rintro e w' ⟨rfl, hb'⟩
        exact ⟨rfl, below_step hB hb'⟩
      have := AnyQ.slices_IndexFunc lays6 2 Tryd.isAgg52 Tryd.sizeOf52 rowEnc (fun _ => rfl) (fun x => x.1.toList == name.toList) 49 #[.pointer (some ⟨gb, 0, none⟩)] (enters_of Tryd.func49 (by kernel_rfl) rfl) b off l0.length c0 zs w hp (by omega) hbig hb (fun j hj i v hi => by
        have hj2 : zs[j]? = some zs[j]! := by rw [List.getElem?_eq_getElem hj, getElem!_pos zs j hj]
        have := hzc j _ hj2 i v hi
        rw [Nat.zero_add, Go.WideShapes.add_plain, ← Nat.add_assoc] at this
        exact this)
      rw [List.take_of_length_le (by omega)] at this
      have e : Lib.idxBy (fun _ (y : RowOf) => y.1.toList == name.toList) zs default = ruleFrom name l0 0 := idx_from name default zs l0 0 hz
      rw [e] at this
      exact this
    · have e0 : l0 = [] := List.length_eq_zero_iff.1 (by omega)
      subst e0
      go_enter Tryd.func48, Tryd.ntmps48
      go_wp2
      go_loopw [5, 8] (fun _ s8 wr => s8 = .int .i64 0 ∧ wr = w) (fun _ _ _ => 0)
      case atStart => exact ⟨rfl, rfl⟩
      case round =>
        obtain ⟨rfl, rfl⟩ := hrel
        go_wp2
        go_ret
        exact ⟨rfl, Below.refl _ _⟩
  · exact nomatch h

end Go.Proofs.YtohcjdninpjpgaaDoor.Own
