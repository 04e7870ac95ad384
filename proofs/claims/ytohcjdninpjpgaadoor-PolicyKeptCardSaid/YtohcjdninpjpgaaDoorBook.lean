/- A book of lists in memory: what it holds, and what a call on it leaves as it was. -/
import Derived.Test.YtohcjdninpjpgaaDoorTail
import Derived.Below
namespace Go.Proofs.YtohcjdninpjpgaaDoor.Own
open Go.RowKit

/-- Nothing ahead of base has changed, and no block of a type that A does not name. -/
structure Moved (base : Nat) (A : Nat → Prop) (w w' : World) : Prop where
  os : w'.os = w.os
  tape : w'.tape = w.tape
  output : w'.output = w.output
  size : w.heap.size ≤ w'.heap.size
  block : ∀ k, k < w.heap.size → (base ≤ k → ∀ cs t fr, w.heap[k]? = some (.cells cs t fr) → ¬ A t) → w'.heap[k]? = w.heap[k]?

namespace Moved
variable {base : Nat} {A : Nat → Prop} {w w1 w2 : World}

theorem refl (base : Nat) (A : Nat → Prop) (w : World) : Moved base A w w := ⟨rfl, rfl, rfl, Nat.le_refl _, fun _ _ _ => rfl⟩

theorem trans (h : Moved base A w w1) (h2 : Moved base A w1 w2) : Moved base A w w2 :=
  ⟨h2.os.trans h.os, h2.tape.trans h.tape, h2.output.trans h.output, Nat.le_trans h.size h2.size, fun k hk hn => by
    have e := h.block k hk hn
    exact (h2.block k (Nat.lt_of_lt_of_le hk h.size) (fun hb cs t fr ht => hn hb cs t fr (e ▸ ht))).trans e⟩

theorem of_below (h : Below w.heap.size w w1) : Moved base A w w1 := ⟨h.1, h.2, h.3, h.size, fun k hk _ => h.block k hk⟩

theorem alloc (h : Moved base A w w1) (o : Obj) : Moved base A w (w1.alloc o) := h.trans (of_below ((Below.refl _ _).alloc (Nat.le_refl _) o))

theorem drew (h : Moved base A w w1) : Moved base A w w1.drew := h.trans (of_below (Below.refl _ _).drew)

theorem setCell (h : Moved base A w w1) {g : Nat} {cs : Array Value} {t : TypeId} {fr : Nat × Nat} (hb : base ≤ g) (hg : w1.heap[g]? = some (.cells cs t fr)) (ht : A t) (j : Nat) (v : Value) : Moved base A w (w1.setCell ⟨g, j, none⟩ v) :=
  h.trans ⟨rfl, rfl, rfl, by simp [World.setCell], fun k _ hn => Below.heap_setCell w1 ⟨g, j, none⟩ v k (fun e => by
    have e' : k = g := e
    subst e'
    exact hn hb _ _ _ hg ht)⟩

theorem grown (h : Moved base A w w1) {row : Option Nat} (hg : w1.grownBy w2 row) (hr : ∀ k, row = some k → base ≤ k ∧ ∃ cs t fr, w1.heap[k]? = some (.cells cs t fr) ∧ A t) : Moved base A w w2 :=
  h.trans ⟨hg.os, hg.tape, hg.output, hg.size, fun k hk hn => hg.block k hk (fun e => by
    obtain ⟨hb, cs, t, fr, ht, hA⟩ := hr k e.symm
    exact hn hb cs t fr ht hA)⟩

theorem below (h : Moved base A w w1) {w0 : World} (h0 : Below base w0 w) (hs : base ≤ w.heap.size) : Below base w0 w1 :=
  h0.trans ⟨h.os, h.tape, h.output, h.size, fun k hk => h.block k (by omega) (fun hb => by omega)⟩

/-- A block of another type stays. -/
theorem kept (h : Moved base A w w1) {k : Nat} {cs : Array Value} {t : TypeId} {fr : Nat × Nat} (hk : w.heap[k]? = some (.cells cs t fr)) (ht : ¬ A t) : w1.heap[k]? = some (.cells cs t fr) :=
  (h.block k (Array.getElem?_eq_some_iff.1 hk).1 (fun _ cs' t' fr' h' => by
    rw [hk] at h'
    simp only [Option.some.injEq, Obj.cells.injEq] at h'
    rw [← h'.2.1]
    exact ht)).trans hk

theorem mono {B : Nat → Prop} (h : Moved base A w w1) (hAB : ∀ t, A t → B t) : Moved base B w w1 :=
  ⟨h.os, h.tape, h.output, h.size, fun k hk hn => h.block k hk (fun hb cs t fr ht hA => hn hb cs t fr ht (hAB t hA))⟩

theorem owns (h : Moved base A w w1) {b2 : Nat} {e : TypeId} {n : Nat} {v : Value} {xs : List Value} (ho : w.ownsRow b2 e 1 v n xs) (he : ¬ A e) : w1.ownsRow b2 e 1 v n xs := by
  refine ⟨ho.1, ?_⟩
  rcases ho.2 with h2 | ⟨g, cap, cur, rfl, hb, hg, r⟩
  · exact .inl h2
  · exact .inr ⟨g, cap, cur, rfl, hb, h.kept hg he, r⟩
end Moved

theorem own_typed' {w : World} {base : Nat} {e : TypeId} {size n : Nat} {v : Value} {xs : List Value} (h : w.ownsRow base e size v n xs) (k : Nat) (hk : v.ownBlock = some k) : base ≤ k ∧ k < w.heap.size ∧ ∃ cs, w.heap[k]? = some (.cells cs e (0, 0)) := by
  rcases h.2 with ⟨rfl, _⟩ | ⟨g, cap, cur, rfl, hb, hg, r⟩
  · simp [Value.ownBlock] at hk
  · have : g = k := by simpa [Value.ownBlock] using hk
    subst this
    exact ⟨hb, (Array.getElem?_eq_some_iff.1 hg).1, cur, hg⟩

/-- Two rows that share no block. -/
def Far {α : Type} (r s : Value × List α) : Prop := ∀ k, r.1.ownBlock = some k → s.1.ownBlock ≠ some k

/-- A book's lists and what they were (L, M), in memory from base on; tB, tL, tE: the types of the book, of a list and of an element. -/
structure BookAt {α : Type} (enc : α → Value) (tB tL tE : Nat) (w : World) (base g : Nat) (L M : Value) (held : Int) (rows : List (Value × List α)) (copies : List Value) : Prop where
  book : w.heap[g]? = some (.cells #[L, M, .int .i64 held, .bool false] tB (0, 0))
  ge : base ≤ g
  lists : Tail w base tL L (rows.map Prod.fst)
  was : Tail w base tL M copies
  two : ∀ k, L.ownBlock = some k → M.ownBlock ≠ some k
  len : copies.length = rows.length
  made : ∀ r ∈ rows, w.ownsRow base tE 1 r.1 r.2.length (r.2.map enc)
  olds : ∀ (i : Nat) (r : Value × List α) (c : Value), rows[i]? = some r → copies[i]? = some c → w.ownsRow base tE 1 c r.2.length (r.2.map enc)
  far : rows.Pairwise Far
  small : ∀ r ∈ rows, r.2.length ≤ 1000000
  fit : -9223372036854775808 ≤ held ∧ held ≤ 9223372036854775807

namespace BookAt
variable {α : Type} {enc : α → Value} {tB tL tE : Nat} {w w1 : World} {base g : Nat} {L M : Value} {held : Int} {rows : List (Value × List α)} {copies : List Value}

theorem move (h : BookAt enc tB tL tE w base g L M held rows copies) (hb : Below w.heap.size w w1) : BookAt enc tB tL tE w1 base g L M held rows copies := by
  have hm : Moved base (fun _ => False) w w1 := .of_below hb
  have kb : ∀ {k o}, w.heap[k]? = some o → w1.heap[k]? = some o := fun hk => (hb.block _ (Array.getElem?_eq_some_iff.1 hk).1).trans hk
  exact ⟨kb h.book, h.ge, h.lists.move fun k hk => by obtain ⟨_, hlt, _⟩ := h.lists.lt k hk; exact hb.block k hlt, h.was.move fun k hk => by obtain ⟨_, hlt, _⟩ := h.was.lt k hk; exact hb.block k hlt,
    h.two, h.len, fun r hr => hm.owns (h.made r hr) id, fun i r c h1 h2 => hm.owns (h.olds i r c h1 h2) id, h.far, h.small, h.fit⟩

theorem start (w : World) (base : Nat) (hb : base ≤ w.heap.size) : BookAt enc tB tL tE (w.alloc (.cells #[.slice none 0 0, .slice none 0 0, .int .i64 0, .bool false] tB)) base w.heap.size (.slice none 0 0) (.slice none 0 0) 0 ([] : List (Value × List α)) [] :=
  ⟨heap_alloc_new w _, hb, .nil _ _ _, .nil _ _ _, fun k hk => by simp [Value.ownBlock] at hk, rfl, fun r hr => (List.not_mem_nil hr).elim, fun i r c h1 => by simp at h1, List.Pairwise.nil, fun r hr => (List.not_mem_nil hr).elim, by omega⟩

/-- Only the book's own cells have changed. -/
theorem rebook (h : BookAt enc tB tL tE w base g L M held rows copies) (hty : tB ≠ tL) (hty2 : tB ≠ tE) {w' : World} {L2 M2 : Value} {held2 : Int} {rows2 : List (Value × List α)} {copies2 : List Value}
    (hk : w'.heap[g]? = some (.cells #[L2, M2, .int .i64 held2, .bool false] tB (0, 0))) (ho : ∀ k, k ≠ g → w'.heap[k]? = w.heap[k]?) (hL : Tail w base tL L2 (rows2.map Prod.fst)) (hM : Tail w base tL M2 copies2)
    (h2 : ∀ k, L2.ownBlock = some k → M2.ownBlock ≠ some k) (hlen : copies2.length = rows2.length) (hr : ∀ r ∈ rows2, r ∈ rows)
    (hc : ∀ (i : Nat) (r : Value × List α) (c : Value), rows2[i]? = some r → copies2[i]? = some c → w.ownsRow base tE 1 c r.2.length (r.2.map enc)) (hf : rows2.Pairwise Far) (hfit : -9223372036854775808 ≤ held2 ∧ held2 ≤ 9223372036854775807) :
    BookAt enc tB tL tE w' base g L2 M2 held2 rows2 copies2 := by
  have ne : ∀ {k : Nat} {cs : Array Value} {t : TypeId}, w.heap[k]? = some (.cells cs t (0, 0)) → t ≠ tB → k ≠ g := fun hk' ht e => by
    subst e
    rw [h.book] at hk'
    simp only [Option.some.injEq, Obj.cells.injEq] at hk'
    exact ht hk'.2.1.symm
  have ow : ∀ {v : Value} {n : Nat} {xs : List Value}, w.ownsRow base tE 1 v n xs → w'.ownsRow base tE 1 v n xs := fun ho' => by
    refine ⟨ho'.1, ?_⟩
    rcases ho'.2 with q | ⟨b, cap, cur, rfl, hb, hg, r⟩
    · exact .inl q
    · exact .inr ⟨b, cap, cur, rfl, hb, (ho b (ne hg hty2.symm)).trans hg, r⟩
  exact ⟨hk, h.ge, hL.move fun k hk' => by obtain ⟨_, _, cs, q⟩ := hL.lt k hk'; exact ho k (ne q hty.symm), hM.move fun k hk' => by obtain ⟨_, _, cs, q⟩ := hM.lt k hk'; exact ho k (ne q hty.symm),
    h2, hlen, fun r hr' => ow (h.made r (hr r hr')), fun i r c h1 h2' => ow (hc i r c h1 h2'), hf, fun r hr' => h.small r (hr r hr'), hfit⟩

/-- The number that is held has changed. -/
theorem reheld (h : BookAt enc tB tL tE w base g L M held rows copies) (hty : tB ≠ tL) (hty2 : tB ≠ tE) (held2 : Int) (hfit : -9223372036854775808 ≤ held2 ∧ held2 ≤ 9223372036854775807) :
    BookAt enc tB tL tE (w.setCell ⟨g, 2, none⟩ (.int .i64 held2)) base g L M held2 rows copies :=
  h.rebook hty hty2 (Joins.block_setCell h.book _) (fun k hk => Below.heap_setCell w ⟨g, 2, none⟩ _ k hk) h.lists h.was h.two h.len (fun _ hr => hr) h.olds h.far hfit

/-- The eldest list is let go. -/
theorem let_go {La Ma : Option Addr} {n Lc Mc : Nat} {r : Value × List α} {rest : List (Value × List α)} {c : Value} {crest : List Value} (h : BookAt enc tB tL tE w base g (.slice La n Lc) (.slice Ma n Mc) held (r :: rest) (c :: crest)) (hty : tB ≠ tL) (hty2 : tB ≠ tE) :
    ∃ gl ol gm om, La = some ⟨gl, ol, none⟩ ∧ Ma = some ⟨gm, om, none⟩ ∧ n = rest.length + 1 ∧ n ≤ Lc ∧ n ≤ Mc ∧
      ∀ w', w'.heap[g]? = some (.cells #[.slice (some ⟨gl, ol + 1, none⟩) (n - 1) (Lc - 1), .slice (some ⟨gm, om + 1, none⟩) (n - 1) (Mc - 1), .int .i64 held, .bool false] tB (0, 0)) → (∀ k, k ≠ g → w'.heap[k]? = w.heap[k]?) →
        BookAt enc tB tL tE w' base g (.slice (some ⟨gl, ol + 1, none⟩) (n - 1) (Lc - 1)) (.slice (some ⟨gm, om + 1, none⟩) (n - 1) (Mc - 1)) held rest crest := by
  obtain ⟨gl, ol, rfl, hn, hLc, hL⟩ := h.lists.drop_one
  obtain ⟨gm, om, rfl, hm, hMc, hM⟩ := h.was.drop_one
  rw [List.length_map] at hn hL
  refine ⟨gl, ol, gm, om, rfl, rfl, hn, hLc, hMc, fun w' hk ho => ?_⟩
  have e1 : n - 1 = rest.length := by omega
  have e2 : n - 1 = crest.length := by omega
  refine h.rebook hty hty2 hk ho (by rw [e1]; exact hL) (by rw [e2]; exact hM) (fun k h1 h2 => h.two k (by simpa [Value.ownBlock] using h1) (by simpa [Value.ownBlock] using h2)) (by omega) (fun r' hr => List.mem_cons_of_mem _ hr)
    (fun i r' c' h1 h2 => h.olds (i + 1) r' c' (by simpa using h1) (by simpa using h2)) (List.pairwise_cons.1 h.far).2 h.fit
end BookAt

end Go.Proofs.YtohcjdninpjpgaaDoor.Own
