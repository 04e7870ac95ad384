/- Rows of one-cell elements that may begin in the midst of a block: what they read as, and append to them. -/
import Derived.Test.YtohcjdninpjpgaaDoorPXx1
import Derived.Laws.AppendOwn
import Derived.ArgAppend
import Derived.Deep.RegionLaw
import Derived.Lib.SmallJoins
namespace Go.Proofs.YtohcjdninpjpgaaDoor.Own
open Go.RowKit

/-- A row of one-cell elements of type e, in memory from base on; it may begin in the midst of its block. -/
def Tail (w : World) (base : Nat) (e : TypeId) (v : Value) (xs : List Value) : Prop :=
  (v = .slice none 0 0 ∧ xs = []) ∨
  ∃ g off cap cur, v = .slice (some ⟨g, off, none⟩) xs.length cap ∧ base ≤ g ∧ w.heap[g]? = some (.cells cur e (0, 0)) ∧ xs.length ≤ cap ∧ cap ≤ maxLen ∧ off + cap ≤ cur.size ∧ ∀ j u, xs[j]? = some u → cur[off + j]? = some u

theorem Tail.nil (w : World) (base : Nat) (e : TypeId) : Tail w base e (.slice none 0 0) [] := .inl ⟨rfl, rfl⟩

theorem Tail.lt {w : World} {base : Nat} {e : TypeId} {v : Value} {xs : List Value} (h : Tail w base e v xs) (k : Nat) (hk : v.ownBlock = some k) : base ≤ k ∧ k < w.heap.size ∧ ∃ cs, w.heap[k]? = some (.cells cs e (0, 0)) := by
  rcases h with ⟨rfl, _⟩ | ⟨g, off, cap, cur, rfl, hb, hg, _⟩
  · simp [Value.ownBlock] at hk
  · simp [Value.ownBlock] at hk
    subst hk
    exact ⟨hb, (Array.getElem?_eq_some_iff.1 hg).1, cur, hg⟩

theorem Tail.move {w w' : World} {base : Nat} {e : TypeId} {v : Value} {xs : List Value} (h : Tail w base e v xs) (hm : ∀ k, v.ownBlock = some k → w'.heap[k]? = w.heap[k]?) : Tail w' base e v xs := by
  rcases h with h | ⟨g, off, cap, cur, rfl, hb, hg, r⟩
  · exact .inl h
  · exact .inr ⟨g, off, cap, cur, rfl, hb, (hm g rfl).trans hg, r⟩

theorem Tail.cell {w : World} {base : Nat} {e : TypeId} {v : Value} {xs : List Value} (h : Tail w base e v xs) :
    ∃ a cap, v = .slice a xs.length cap ∧ xs.length ≤ cap ∧ cap ≤ maxLen ∧ (0 < xs.length → ∃ g off, a = some ⟨g, off, none⟩ ∧ ∀ j u, xs[j]? = some u → w.cell? ⟨g, off + j, none⟩ = some u) := by
  rcases h with ⟨rfl, rfl⟩ | ⟨g, off, cap, cur, rfl, hb, hg, hl, hm, hs, hx⟩
  · exact ⟨none, 0, rfl, Nat.le_refl _, Nat.zero_le _, fun h => absurd h (by simp)⟩
  · exact ⟨_, cap, rfl, hl, hm, fun _ => ⟨g, off, rfl, fun j u hj => by rw [Joins.cell_of_block hg]; exact hx j u hj⟩⟩

/-- Its first element dropped. -/
theorem Tail.drop_one {w : World} {base : Nat} {e : TypeId} {a : Option Addr} {n cap : Nat} {x : Value} {xs : List Value} (h : Tail w base e (.slice a n cap) (x :: xs)) :
    ∃ g off, a = some ⟨g, off, none⟩ ∧ n = xs.length + 1 ∧ n ≤ cap ∧ Tail w base e (.slice (some ⟨g, off + 1, none⟩) xs.length (cap - 1)) xs := by
  rcases h with ⟨_, h⟩ | ⟨g, off, cap', cur, he, hb, hg, hl, hm, hs, hx⟩
  · cases h
  · simp only [Value.slice.injEq] at he
    obtain ⟨rfl, rfl, rfl⟩ := he
    simp only [List.length_cons] at hl ⊢
    refine ⟨g, off, rfl, by simp, hl, .inr ⟨g, off + 1, cap - 1, cur, rfl, hb, hg, by omega, by omega, by omega, fun j u hj => ?_⟩⟩
    have := hx (j + 1) u (by simpa using hj)
    rw [show off + 1 + j = off + (j + 1) from by omega]
    exact this

theorem grownBy_trans {w w1 w2 : World} {row : Option Nat} (h : w.grownBy w1 row) (h2 : w1.grownBy w2 row) : w.grownBy w2 row :=
  ⟨h2.os.trans h.os, h2.tape.trans h.tape, h2.output.trans h.output, Nat.le_trans h.size h2.size, fun k hk hr => (h2.block k (Nat.lt_of_lt_of_le hk h.size) hr).trans (h.block k hk hr)⟩

section
variable {P : Program}

/-- append of one element to such a row. -/
theorem run_append_tail (w : World) (base : Nat) (t ty e : TypeId) (i : TypeInfo) (z : Value) (bytes : Nat) (ht : P.underlying t = some (.slice e)) (hi : P.info? e = some i) (hz : i.zero = some z)
    (hsize : i.size = 1) (hby : i.bytes = bytes) (hzs : z.cells.size = 1) (v : Value) (xs : List Value) (hown : Tail w base e v xs)
    (a : Addr) (c : Nat) (u : Value) (hu : w.cell? a = some u) (h1 : u.oneCell' = true)
    (h63 : xs.length + 1 ≤ maxLen) (hbytes : (xs.length + 1) * bytes ≤ 140737488355328) (hbase : base ≤ w.heap.size) :
    ∃ v' w', (Builtin.append_ #[t, t] ty #[v, .slice (some a) 1 c]).run P w = .ok v' w' ∧ Tail w' base e v' (xs ++ [u]) ∧ w.grownBy w' v.ownBlock ∧
      (v'.ownBlock = v.ownBlock ∨ v'.ownBlock = some w.heap.size) := by
  subst hby
  have hsmall : xs.length + 1 ≤ 9223372036854775807 := by simp only [maxLen] at h63; omega
  have hnews : ∀ j x, [u][j]? = some x → w.cell? (a.add j) = some x := by
    intro j x hj
    match j, hj with
    | 0, hj =>
      simp only [List.getElem?_cons_zero, Option.some.injEq] at hj
      subst hj
      rw [show a.add 0 = a from by unfold Addr.add; split <;> simp_all]
      exact hu
    | j + 1, hj => simp at hj
  have hone : ∀ x ∈ [u], x.oneCell' = true := by intro x hx; rw [List.mem_singleton.1 hx]; exact h1
  have grown : ∀ (old : Nat), 
      Tail (w.drew.alloc (.cells (xs.toArray ++ [u].toArray ++ Builtin.zeroCells z.cells (grownCap w (xs.length + 1) old e - (xs.length + 1))) e)) base e
        (.slice (some ⟨w.heap.size, 0, none⟩) (xs.length + 1) (grownCap w (xs.length + 1) old e)) (xs ++ [u]) ∧
      ∀ row, w.grownBy (w.drew.alloc (.cells (xs.toArray ++ [u].toArray ++ Builtin.zeroCells z.cells (grownCap w (xs.length + 1) old e - (xs.length + 1))) e)) row := by
    intro old
    have hge := grownCap_ge w (xs.length + 1) old e
    have hcm : grownCap w (xs.length + 1) old e ≤ maxLen := grownCap_le_maxLen w (xs.length + 1) old e h63
    refine ⟨.inr ⟨w.heap.size, 0, _, _, by rw [List.length_append]; rfl, hbase, heap_alloc_new w.drew _, by rw [List.length_append]; exact hge, hcm, ?_, ?_⟩, fun row => ⟨rfl, rfl, rfl, by simp, fun k hk _ => by first | exact heap_alloc_old w.drew _ hk | exact heap_alloc_old w.drew _ k hk⟩⟩
    · simp only [Array.size_append, List.size_toArray, size_zeroCells, hzs, List.length_cons, List.length_nil]
      omega
    · intro j x hj
      have hj' : j < (xs ++ [u]).length := (List.getElem?_eq_some_iff.1 hj).1
      rw [Nat.zero_add, show xs.toArray ++ [u].toArray = (xs ++ [u]).toArray from by simp, Array.getElem?_append_left (by simpa using hj')]
      simpa using hj
  rcases hown with ⟨rfl, rfl⟩ | ⟨g, off, cap, cur, rfl, hbg, hg, hnc, hcm, hcs, hcur⟩
  · have hr := run_append_nil (P := P) w t ty e i z ht hi hz a 1 c [u] (by rw [hsize]; rfl) hnews (by omega) (by omega) (by have hb := hbytes; simp only [List.length_nil, Nat.zero_add] at hb; omega)
    have hgr := grown 0
    simp only [List.length_nil, Nat.zero_add] at hgr
    exact ⟨_, _, hr, hgr.1, hgr.2 _, .inr rfl⟩
  · by_cases hroom : xs.length + 1 ≤ cap
    · have hlt : off + xs.length < cur.size := by omega
      have hcell : ∀ j, j < [u].length → (w.cell? ⟨g, off + xs.length * i.size + j, none⟩).isSome = true := by
        intro j hj
        have : j = 0 := by simpa using hj
        subst this
        rw [hsize, Nat.mul_one, Nat.add_zero, Joins.cell_of_block hg, Array.getElem?_eq_getElem hlt]
        rfl
      have hfz : ∀ j, j < [u].length → w.frozen? ⟨g, off + xs.length * i.size + j, none⟩ = false := fun j _ => Joins.unfrozen_of_block hg _
      have hr := run_append_room_cells (P := P) w t ty e i ht hi g off xs.length cap a 1 c [u] (by rw [hsize]; rfl) hnews hone hroom hcell hfz
      rw [hsize, Nat.mul_one] at hr
      refine ⟨_, _, hr, .inr ⟨g, off, cap, cur.setIfInBounds (off + xs.length) u, by rw [List.length_append]; rfl, hbg, ?_, by rw [List.length_append]; exact hroom, hcm, by simpa using hcs, ?_⟩, ⟨rfl, rfl, rfl, by simp [World.setCells, World.setCell], ?_⟩, .inl rfl⟩
      · exact Joins.block_setCell hg u
      · intro j x hj
        by_cases e1 : j = xs.length
        · subst e1
          rw [Array.getElem?_setIfInBounds_self_of_lt hlt]
          rw [List.getElem?_append_right (Nat.le_refl _), Nat.sub_self] at hj
          exact hj
        · have hj' : j < (xs ++ [u]).length := (List.getElem?_eq_some_iff.1 hj).1
          rw [List.length_append, List.length_singleton] at hj'
          rw [Array.getElem?_setIfInBounds_ne (by omega)]
          rw [List.getElem?_append_left (by omega)] at hj
          exact hcur j x hj
      · intro k _ hk
        show ((w.setCell ⟨g, off + xs.length, none⟩ u).heap)[k]? = _
        exact Below.heap_setCell w ⟨g, off + xs.length, none⟩ u k (fun e => hk (by simp [Value.ownBlock, e]))
    · have holds : ∀ j x, xs[j]? = some x → w.cell? ((⟨g, off, none⟩ : Addr).add j) = some x := by
        intro j x hj
        have e : (⟨g, off, none⟩ : Addr).add j = ⟨g, off + j, none⟩ := by unfold Addr.add; split <;> simp_all
        rw [e, Joins.cell_of_block hg]
        exact hcur j x hj
      have hr := run_append_grow (P := P) w t ty e i z ht hi hz ⟨g, off, none⟩ xs.length cap xs (by rw [hsize, Nat.mul_one]) holds a 1 c [u] (by rw [hsize]; rfl) hnews (by omega) (by omega) (growslice_fits (by omega) hbytes)
      have hgr := grown cap
      exact ⟨_, _, hr, hgr.1, hgr.2 _, .inr rfl⟩

/-- append([]T(nil), l...): a copy. -/
theorem run_append_copy (w : World) (base b2 : Nat) (t ty e : TypeId) (i : TypeInfo) (z : Value) (bytes : Nat) (ht : P.underlying t = some (.slice e)) (hi : P.info? e = some i) (hz : i.zero = some z)
    (hsize : i.size = 1) (hby : i.bytes = bytes) (hzs : z.cells.size = 1) (v : Value) (xs : List Value) (hown : w.ownsRow b2 e 1 v xs.length xs) (hone : ∀ u ∈ xs, u.oneCell' = true)
    (h63 : xs.length ≤ maxLen) (hbytes : xs.length * bytes ≤ 140737488355328) (hbase : base ≤ w.heap.size) :
    ∃ v' w', (Builtin.append_ #[t, t] ty #[.slice none 0 0, v]).run P w = .ok v' w' ∧ w'.ownsRow base e 1 v' xs.length xs ∧ w.grownBy w' none := by
  rcases hown.2 with ⟨rfl, hn⟩ | ⟨g, cap, cur, rfl, hbg, hg, hnc, hcm, hcs, htake⟩
  · have hx : xs = [] := List.eq_nil_of_length_eq_zero hn
    subst hx
    refine ⟨.slice none 0 0, w, ?_, World.ownsRow_nil w base e 1, ⟨rfl, rfl, rfl, Nat.le_refl _, fun _ _ _ => rfl⟩⟩
    simp [Builtin.append_, run_underlying ht, sizeOf, typeInfo, hi, Builtin.lenOf, Builtin.firstCells]
  · obtain ⟨v', w', h1, h2, h3, _⟩ := run_append_own (P := P) w base t ty e i z 1 bytes ht hi hz hsize hby hzs (by decide) (.slice none 0 0) 0 [] (World.ownsRow_nil w base e 1) ⟨g, 0, none⟩ xs.length cap xs (by simp)
      (hown.cells (g := g) rfl) hone (by omega) (by rw [Nat.zero_add]; exact hbytes) hbase
    rw [Nat.zero_add, List.nil_append] at h2
    exact ⟨v', w', h1, h2, h3⟩

/-- An append of which the run is known, as an operation. -/
theorem wp_append_run {o : Oper} {a : Act} {w : World} {K : Act → World → Prop} {Q : Exit → Act → World → Prop} (s x : Operand) (t : TypeId)
    (ho : o.op = .call { callee := .builtin .append, args := #[s, x], argTypes := #[t, t] }) (v u : Value) (hs : a.eval s = v) (hx : a.eval x = u) (v' : Value) (w' : World)
    (hr : (Builtin.append_ #[t, t] o.type #[v, u]).run P w = .ok v' w') (h : K (a.put o.dst v') w') : o.wp P a w K Q := by
  unfold Oper.wp execOp
  simp only [ho, resolve, invoke, builtin, Sem.run_bind, Sem.run_pure, Result.andThen_ok, List.map_toArray, List.map_cons, List.map_nil, hs, hx, hr]
  exact h

theorem step_append_run {ops : Array Oper} {o : Oper} {a : Act} {w : World} {K : Act → World → Prop} {Q : Exit → Act → World → Prop} {E : Prop} (hg : o.guard = none) (s x : Operand) (t : TypeId)
    (ho : o.op = .call { callee := .builtin .append, args := #[s, x], argTypes := #[t, t] }) (v u : Value) (hs : a.eval s = v) (hx : a.eval x = u) (v' : Value) (w' : World)
    (hr : (Builtin.append_ #[t, t] o.type #[v, u]).run P w = .ok v' w') (h : K (a.put o.dst v') w') : if Region.wanted o (yielded ops a.tmps) = true then Oper.wp P o a w K Q else E := by
  have hw : Region.wanted o (yielded ops a.tmps) = true := by simp [Region.wanted, hg]
  rw [if_pos hw]
  exact wp_append_run s x t ho v u hs hx v' w' hr h

theorem wpList_append_run {ops : Array Oper} {rest : List Oper} {o : Oper} {a : Act} {w : World} {Q : Exit → Act → World → Prop} (hgd : o.guard = none) (s x : Operand) (t : TypeId)
    (ho : o.op = .call { callee := .builtin .append, args := #[s, x], argTypes := #[t, t] }) (v u : Value) (hs : a.eval s = v) (hx : a.eval x = u) (v' : Value) (w' : World)
    (hr : (Builtin.append_ #[t, t] o.type #[v, u]).run P w = .ok v' w') (h : wpList P ops Q rest (a.put o.dst v') w') : wpList P ops Q (o :: rest) a w :=
  wpList_plain hgd fun _ hK => wp_append_run s x t ho v u hs hx v' w' hr (hK _ _ h)
end

end Go.Proofs.YtohcjdninpjpgaaDoor.Own
