/- Slices of int64: what a slice reads as; append of a slice that came in or was made, onto one that the call owns. Plain laws on counts. -/
import Derived.Test.YtfbifmgaehgcmaaKnown
import Derived.Laws.AppendOwnNone
namespace Go.Proofs.Ytfbifmgaehgcmaa
open Go.RowKit Fl

theorem info2_parts : (Try.prog.info? 2).map (fun i => (i.zero, i.size, i.bytes)) = some (some (.int .i64 0), 1, 8) := by kernel_rfl

def SliceI (w : World) (a : Option Addr) (len cap : Nat) (zs : List Int) : Prop :=
  zs.length = len ∧ len ≤ cap ∧ ((a = none ∧ len = 0 ∧ cap = 0) ∨ (len = 0 ∧ ∃ ad, a = some ad) ∨ ∃ b off, a = some ⟨b, off, none⟩ ∧ (∀ i, i < len → b < w.heap.size ∧ w.cell? ⟨b, off + i, none⟩ = some (.int .i64 (zs.getD i 0))))

theorem SliceI.ints {w : World} {a : Option Addr} {len cap : Nat} {zs : List Int} (h : SliceI w a len cap zs) : IntsAt w a len zs := by
  obtain ⟨h1, _, h2⟩ := h
  refine ⟨h1, ?_⟩
  rcases h2 with ⟨_, h, _⟩ | ⟨h, _⟩ | ⟨b, off, e, hc⟩
  · exact .inl h
  · exact .inl h
  · by_cases h0 : len = 0
    · exact .inl h0
    · exact .inr ⟨b, off, e, (hc 0 (by omega)).1, fun i hi => (hc i hi).2⟩

theorem SliceI.below {w w' : World} {a : Option Addr} {len cap : Nat} {zs : List Int} (h : SliceI w a len cap zs) (hb : Below w.heap.size w w') : SliceI w' a len cap zs := by
  obtain ⟨h1, h0, h2⟩ := h
  refine ⟨h1, h0, h2.imp id (Or.imp id ?_)⟩
  rintro ⟨b, off, e, hc⟩
  exact ⟨b, off, e, fun i hi => ⟨Nat.lt_of_lt_of_le (hc i hi).1 hb.size, by rw [hb.cell (p := ⟨b, off + i, none⟩) (hc i hi).1]; exact (hc i hi).2⟩⟩

/-- The first n. -/
theorem SliceI.take {w : World} {a : Option Addr} {len cap : Nat} {zs : List Int} (h : SliceI w a len cap zs) (n : Nat) (hn : n ≤ len) : SliceI w a n cap (zs.take n) := by
  obtain ⟨h1, h0, h2⟩ := h
  refine ⟨by simp; omega, by omega, ?_⟩
  rcases h2 with ⟨h3, h4, h5⟩ | ⟨h3, h4⟩ | ⟨b, off, e, hc⟩
  · exact .inl ⟨h3, by omega, h5⟩
  · exact .inr (.inl ⟨by omega, h4⟩)
  · refine .inr (.inr ⟨b, off, e, fun i hi => ⟨(hc i (by omega)).1, ?_⟩⟩)
    rw [(hc i (by omega)).2, List.getD_eq_getElem?_getD, List.getD_eq_getElem?_getD, List.getElem?_take_of_lt hi]

theorem ints_getElem? (zs : List Int) (j : Nat) (u : Value) (h : (zs.map (Value.int .i64))[j]? = some u) : j < zs.length ∧ u = .int .i64 (zs.getD j 0) := by
  rw [List.getElem?_map] at h
  have hj : j < zs.length := by
    rcases Nat.lt_or_ge j zs.length with h' | h'
    · exact h'
    · rw [List.getElem?_eq_none h'] at h; simp at h
  rw [List.getElem?_eq_getElem hj] at h
  simp only [Option.map_some, Option.some.injEq] at h
  refine ⟨hj, ?_⟩
  rw [← h, List.getD_eq_getElem?_getD, List.getElem?_eq_getElem hj]; rfl

/-- What owns a row of whole numbers is a slice of them. -/
theorem ints_of_owns {w : World} {base n : Nat} {v : Value} {zs : List Int} (h : w.ownsRow base 2 1 v n (zs.map (Value.int .i64))) :
    ∃ a cap, v = .slice a n cap ∧ IntsAt w a n zs := by
  obtain ⟨hl, h⟩ := h
  rw [List.length_map, Nat.mul_one] at hl
  rcases h with ⟨rfl, rfl⟩ | ⟨g, cap, cur, rfl, hg, hcell, hn, hc, hs, ht⟩
  · exact ⟨none, 0, rfl, hl, .inl rfl⟩
  · refine ⟨_, cap, rfl, hl, .inr ⟨g, 0, rfl, ?_, fun i hi => ?_⟩⟩
    · rcases Nat.lt_or_ge g w.heap.size with h' | h'
      · exact h'
      · rw [Array.getElem?_eq_none h'] at hcell; cases hcell
    · rw [Nat.zero_add, Joins.cell_of_block hcell]
      have e : (cur.toList.take (n * 1))[i]? = (zs.map (Value.int .i64))[i]? := by rw [ht]
      rw [List.getElem?_take_of_lt (by omega)] at e
      rw [← Array.getElem?_toList, e, List.getElem?_map, List.getElem?_eq_getElem (by omega), List.getD_eq_getElem?_getD, List.getElem?_eq_getElem (by omega)]
      rfl

theorem own_ge {w : World} {base size n : Nat} {e : TypeId} {v : Value} {xs : List Value} (h : w.ownsRow base e size v n xs) : ∀ k, v.ownBlock = some k → base ≤ k := by
  intro k hk
  rcases h.2 with ⟨rfl, _⟩ | ⟨g, cap, cur, rfl, hg, _⟩
  · cases hk
  · simp only [Value.ownBlock, Option.some.injEq] at hk
    omega

theorem append_src {ops : Array Oper} {rest : List Oper} {o : Oper} {a : Act} {w : World} {Q : Exit → Act → World → Prop} (hgd : o.guard = none) (s x : Operand)
    (ho : o.op = .call { callee := .builtin .append, args := #[s, x], argTypes := #[28, 28] }) (base : Nat) (v : Value) (n : Nat) (xs : List Int) (hs : a.eval s = v)
    (hown : w.ownsRow base 2 1 v n (xs.map (Value.int .i64))) (ao : Option Addr) (m c : Nat) (zs : List Int) (hx : a.eval x = .slice ao m c) (hsrc : SliceI w ao m c zs)
    (hb : n + m ≤ 1000000) (hbase : base ≤ w.heap.size)
    (h : ∀ v' w', w'.ownsRow base 2 1 v' (n + m) ((xs ++ zs).map (Value.int .i64)) → w.grownBy w' v.ownBlock → wpList Try.prog ops Q rest (a.put o.dst v') w') : wpList Try.prog ops Q (o :: rest) a w := by
  obtain ⟨i0, hi, hz0, hz1, hz2⟩ := info_parts info2_parts
  obtain ⟨h1, _, h2⟩ := hsrc
  rcases h2 with ⟨rfl, rfl, rfl⟩ | ⟨rfl, ad, rfl⟩ | ⟨b, off, rfl, hc⟩
  · refine wpList_append_own_none hgd s x 28 ho base 2 i0 1 Try.underlying28 hi v n _ hs hown hx ?_
    have : zs = [] := List.eq_nil_of_length_eq_zero h1
    subst this
    rw [List.append_nil] at h
    exact h v w hown (World.grownBy.refl _ _)
  · have : zs = [] := List.eq_nil_of_length_eq_zero h1
    subst this
    refine wpList_append_own w hgd s x 28 ho base 2 i0 (.int .i64 0) 1 8 Try.underlying28 hi hz0 hz1 hz2 rfl (by decide) v n _ hs hown ad 0 c [] hx rfl (fun j u hj => by simp at hj) (fun u hu => by simp at hu) (by unfold maxLen; omega) (by omega) hbase ?_
    intro v' w' h3 h4 _
    rw [List.append_nil] at h h3
    exact h v' w' h3 h4
  · refine wpList_append_own w hgd s x 28 ho base 2 i0 (.int .i64 0) 1 8 Try.underlying28 hi hz0 hz1 hz2 rfl (by decide) v n _ hs hown ⟨b, off, none⟩ m c (zs.map (Value.int .i64)) hx (by simp [h1]) ?_ ?_ (by unfold maxLen; omega) (by omega) hbase ?_
    · intro j u hj
      obtain ⟨hj1, rfl⟩ := ints_getElem? zs j u hj
      have := (hc j (by omega)).2
      have e : (⟨b, off, none⟩ : Addr).add j = ⟨b, off + j, none⟩ := by unfold Addr.add; split <;> simp_all
      rw [e]; exact this
    · intro u hu
      obtain ⟨z, _, rfl⟩ := List.mem_map.1 hu
      rfl
    · intro v' w' h3 h4 _
      rw [← List.map_append] at h3
      exact h v' w' h3 h4

theorem cnt_append (a b : List Int) (r : Nat) : cnt (a ++ b) r = cnt a r + cnt b r := by
  unfold cnt
  rw [List.filter_append, List.length_append]
  omega

/-- Four times as many, each later by one. -/
def four (z : Int) (k : Nat) : List Int := (List.range k).map fun j => z.tmod 1099511627776 + (j : Nat)
def all4 (l : List Int) : List Int := l.flatMap fun z => four z 4

theorem four_succ (z : Int) (k : Nat) : four z (k + 1) = four z k ++ [z.tmod 1099511627776 + (k : Nat)] := by
  unfold four
  rw [List.range_succ, List.map_append]; rfl

theorem cnt_four (z : Int) (r : Nat) (hr : r < 4) : cnt (four z 4) r = 1 := by
  have e : four z 4 = [z.tmod 1099511627776 + (0 : Nat), z.tmod 1099511627776 + (1 : Nat), z.tmod 1099511627776 + (2 : Nat), z.tmod 1099511627776 + (3 : Nat)] := rfl
  rw [e]
  generalize z.tmod 1099511627776 = y
  have : [y + (0 : Nat), y + (1 : Nat), y + (2 : Nat), y + (3 : Nat)] = ((([] ++ [y + (0 : Nat)]) ++ [y + (1 : Nat)]) ++ [y + (2 : Nat)]) ++ [y + (3 : Nat)] := rfl
  rw [this, cnt_snoc, cnt_snoc, cnt_snoc, cnt_snoc, show cnt [] r = 0 from rfl]
  have hy : y % 4 = 0 ∨ y % 4 = 1 ∨ y % 4 = 2 ∨ y % 4 = 3 := by omega
  rcases (by omega : r = 0 ∨ r = 1 ∨ r = 2 ∨ r = 3) with rfl | rfl | rfl | rfl <;> rcases hy with h | h | h | h <;> (repeat rw [if_pos (by omega)]) <;> (repeat rw [if_neg (by omega)]) <;> (repeat first | rw [if_pos (by omega)] | rw [if_neg (by omega)]) <;> rfl

theorem cnt_all4 (l : List Int) (r : Nat) (hr : r < 4) : cnt (all4 l) r = l.length := by
  unfold all4
  induction l with
  | nil => rfl
  | cons z l ih =>
    rw [List.flatMap_cons, cnt_append, ih, cnt_four z r hr, List.length_cons]
    omega

theorem all4_snoc (l : List Int) (z : Int) : all4 (l ++ [z]) = all4 l ++ four z 4 := by
  unfold all4; rw [List.flatMap_append]; simp

theorem all4_length (l : List Int) : (all4 l).length = 4 * l.length := by
  unfold all4
  induction l with
  | nil => rfl
  | cons z l ih => rw [List.flatMap_cons, List.length_append, ih, List.length_cons]; unfold four; simp; omega

theorem four_length (z : Int) (k : Nat) : (four z k).length = k := by unfold four; simp

end Go.Proofs.Ytfbifmgaehgcmaa
