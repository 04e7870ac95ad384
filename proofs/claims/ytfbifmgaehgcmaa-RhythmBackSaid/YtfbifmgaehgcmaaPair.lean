/- Two slices of int64 of the call's own, appended to in turns; plain laws on turns. -/
import Derived.Test.YtfbifmgaehgcmaaApp
import Derived.Maps.AppendAt
namespace Go.Proofs.Ytfbifmgaehgcmaa
open Go.RowKit Fl

def Pair (B n m : Nat) (xs ys : List Int) (v u : Value) (w : World) : Prop :=
  w.ownsRow B 2 1 v n (xs.map (Value.int .i64)) ∧ w.ownsRow B 2 1 u m (ys.map (Value.int .i64)) ∧ ∀ g, v.ownBlock = some g → u.ownBlock = some g → False

theorem Pair.swap {B n m : Nat} {xs ys : List Int} {v u : Value} {w : World} (h : Pair B n m xs ys v u w) : Pair B m n ys xs u v w := ⟨h.2.1, h.1, fun g h1 h2 => h.2.2 g h2 h1⟩

theorem own_lt {w : World} {base size n : Nat} {e : TypeId} {v : Value} {xs : List Value} (h : w.ownsRow base e size v n xs) : ∀ k, v.ownBlock = some k → k < w.heap.size := by
  intro k hk
  rcases h.2 with ⟨rfl, _⟩ | ⟨g, cap, cur, rfl, _, hg, _⟩
  · cases hk
  · simp only [Value.ownBlock, Option.some.injEq] at hk
    subst hk
    rcases Nat.lt_or_ge g w.heap.size with h' | h'
    · exact h'
    · rw [Array.getElem?_eq_none h'] at hg; cases hg

theorem Pair.alloc {B n m : Nat} {xs ys : List Int} {v u : Value} {w : World} (h : Pair B n m xs ys v u w) (o : Obj) : Pair B n m xs ys v u (w.alloc o) := ⟨h.1.alloc _, h.2.1.alloc _, h.2.2⟩

theorem append_one {ops : Array Oper} {rest : List Oper} {o : Oper} {a : Act} {w : World} {Q : Exit → Act → World → Prop} (hgd : o.guard = none) (s x : Operand)
    (ho : o.op = .call { callee := .builtin .append, args := #[s, x], argTypes := #[28, 28] }) (B n m : Nat) (xs ys : List Int) (v u : Value) (hs : a.eval s = v)
    (hp : Pair B n m xs ys v u w) (g : Nat) (z : Int) (hx : a.eval x = .slice (some ⟨g, 0, none⟩) 1 1) (hc : w.cell? ⟨g, 0, none⟩ = some (.int .i64 z))
    (hb : n ≤ 1000000) (hbase : B ≤ w.heap.size)
    (h : ∀ v' w', Pair B (n + 1) m (xs ++ [z]) ys v' u w' → Below B w w' → wpList Try.prog ops Q rest (a.put o.dst v') w') : wpList Try.prog ops Q (o :: rest) a w := by
  obtain ⟨i0, hi, hz0, hz1, hz2⟩ := info_parts info2_parts
  obtain ⟨h1, h2, h3⟩ := hp
  refine wpList_append_own_at w hgd s x 28 ho B 2 i0 (.int .i64 0) 1 8 Try.underlying28 hi hz0 hz1 hz2 rfl (by decide) v n _ hs h1 ⟨g, 0, none⟩ 1 1 [.int .i64 z] hx rfl ?_ ?_ (by unfold maxLen; omega) (by omega) hbase ?_
  · intro j t hj
    match j, hj with
    | 0, hj => simp only [List.getElem?_cons_zero, Option.some.injEq] at hj; subst hj; exact hc
    | j + 1, hj => simp at hj
  · intro t ht
    simp only [List.mem_singleton] at ht
    subst ht; rfl
  · intro v' w' k1 k2 _ k4
    refine h v' w' ⟨by rw [List.map_append]; exact k1, ?_, ?_⟩ ((Below.refl _ _).grown k2 hbase (own_ge h1))
    · refine h2.kept k2 ?_
      cases hu : u.ownBlock with
      | none => exact .inl rfl
      | some k =>
        refine .inr fun e => ?_
        exact h3 k e.symm hu
    · intro k e1 e2
      rcases k4 with k4 | k4
      · exact h3 k (k4 ▸ e1) e2
      · have := own_lt h2 k e2
        rw [k4] at e1
        simp only [Option.some.injEq] at e1
        omega

/-- Counts of times that all come later. -/
theorem cnt_later (l : List Int) (b : Int) (r s : Nat) (hs : ((s : Int) + b) % 4 = r) (_hr : r < 4) (_hs4 : s < 4) : cnt (l.map (· + b)) r = cnt l s := by
  unfold cnt
  rw [List.filter_map, List.length_map]
  congr 2
  refine List.filter_congr fun z _ => ?_
  show decide ((z + b) % 4 = (r : Int)) = decide (z % 4 = (s : Int))
  congr 1
  refine propext ⟨fun h => by omega, fun h => by omega⟩

/-- A spectrum, turned, is the spectrum of what comes later. -/
theorem turn_later (n0 n1 n2 n3 : Int) (k : Nat) (hk : k < 4) :
    (turnI (psum (q4 n0 n1 n2 n3) k 4).1 (psum (q4 n0 n1 n2 n3) k 4).2 (((k : Int) * 0) % 4) = psum (q4 n0 n1 n2 n3) k 4) ∧
    (turnI (psum (q4 n0 n1 n2 n3) k 4).1 (psum (q4 n0 n1 n2 n3) k 4).2 (((k : Int) * 1) % 4) = psum (q4 n3 n0 n1 n2) k 4) ∧
    (turnI (psum (q4 n0 n1 n2 n3) k 4).1 (psum (q4 n0 n1 n2 n3) k 4).2 (((k : Int) * 2) % 4) = psum (q4 n2 n3 n0 n1) k 4) ∧
    (turnI (psum (q4 n0 n1 n2 n3) k 4).1 (psum (q4 n0 n1 n2 n3) k 4).2 (((k : Int) * 3) % 4) = psum (q4 n1 n2 n3 n0) k 4) := by
  rcases (by omega : k = 0 ∨ k = 1 ∨ k = 2 ∨ k = 3) with rfl | rfl | rfl | rfl
  all_goals
    refine ⟨?_, ?_, ?_, ?_⟩
    all_goals
      simp [psum, turnI, q4]
      try omega

theorem turn_back (x y : Int) (k : Nat) (hk : k < 4) (b : Int) : turnI (turnI x y (((k : Int) * (b % 4)) % 4)).1 (turnI x y (((k : Int) * (b % 4)) % 4)).2 (((k : Int) * (-b % 4)) % 4) = (x, y) := by
  rcases (by omega : (b % 4 = 0 ∧ -b % 4 = 0) ∨ (b % 4 = 1 ∧ -b % 4 = 3) ∨ (b % 4 = 2 ∧ -b % 4 = 2) ∨ (b % 4 = 3 ∧ -b % 4 = 1)) with ⟨h1, h2⟩ | ⟨h1, h2⟩ | ⟨h1, h2⟩ | ⟨h1, h2⟩
  all_goals
    rw [h1, h2]
    rcases (by omega : k = 0 ∨ k = 1 ∨ k = 2 ∨ k = 3) with rfl | rfl | rfl | rfl
    all_goals simp [turnI]

theorem turn_none (x y : Int) (k : Nat) : turnI x y (((k : Int) * (4 % 4)) % 4) = (x, y) := by
  simp [turnI]

theorem later_eq (l : List Int) (m : Int) (k : Nat) (hk : k < 4) :
    turnI (psum (q4 (cnt l 0) (cnt l 1) (cnt l 2) (cnt l 3)) k 4).1 (psum (q4 (cnt l 0) (cnt l 1) (cnt l 2) (cnt l 3)) k 4).2 (((k : Int) * (m % 4)) % 4) =
      psum (q4 (cnt (l.map (· + m)) 0) (cnt (l.map (· + m)) 1) (cnt (l.map (· + m)) 2) (cnt (l.map (· + m)) 3)) k 4 := by
  obtain ⟨t0, t1, t2, t3⟩ := turn_later (cnt l 0) (cnt l 1) (cnt l 2) (cnt l 3) k hk
  rcases (by omega : m % 4 = 0 ∨ m % 4 = 1 ∨ m % 4 = 2 ∨ m % 4 = 3) with h | h | h | h
  · rw [h, t0, cnt_later l m 0 0 (by omega) (by omega) (by omega), cnt_later l m 1 1 (by omega) (by omega) (by omega), cnt_later l m 2 2 (by omega) (by omega) (by omega), cnt_later l m 3 3 (by omega) (by omega) (by omega)]
  · rw [h, t1, cnt_later l m 0 3 (by omega) (by omega) (by omega), cnt_later l m 1 0 (by omega) (by omega) (by omega), cnt_later l m 2 1 (by omega) (by omega) (by omega), cnt_later l m 3 2 (by omega) (by omega) (by omega)]
  · rw [h, t2, cnt_later l m 0 2 (by omega) (by omega) (by omega), cnt_later l m 1 3 (by omega) (by omega) (by omega), cnt_later l m 2 0 (by omega) (by omega) (by omega), cnt_later l m 3 1 (by omega) (by omega) (by omega)]
  · rw [h, t3, cnt_later l m 0 1 (by omega) (by omega) (by omega), cnt_later l m 1 2 (by omega) (by omega) (by omega), cnt_later l m 2 3 (by omega) (by omega) (by omega), cnt_later l m 3 0 (by omega) (by omega) (by omega)]

end Go.Proofs.Ytfbifmgaehgcmaa
