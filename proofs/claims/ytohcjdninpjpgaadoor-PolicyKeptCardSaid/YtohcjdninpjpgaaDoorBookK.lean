/- A book of lists of texts: a list is kept. -/
import Derived.Test.YtohcjdninpjpgaaDoorBookS
import Derived.Deep.LoopGhost
import Derived.Deep.DeepCutAuto
import Derived.Deep.CutBlock
import Derived.StillTailTactics
namespace Go.Proofs.YtohcjdninpjpgaaDoor.Own
open Go.RowKit Go.Proofs.YtohcjdninpjpgaaDoorW.PrintWords Go.Proofs.YtohcjdninpjpgaaDoor.PX

theorem info22_parts : (Tryd.prog.info? 22).map (fun i => (i.zero, i.size, i.bytes)) = some (some (.slice none 0 0), 1, 24) := by kernel_rfl
theorem info5_parts : (Tryd.prog.info? 9).map (fun i => (i.zero, i.size, i.bytes)) = some (some (.string ByteArray.empty), 1, 16) := by kernel_rfl

/-- What a call on a book may change: the book and its lists. -/
def OnBook (t : Nat) : Prop := t = 56 ∨ t = 22

theorem wrap_fit (x : Int) : -9223372036854775808 ≤ IntKind.i64.wrap x ∧ IntKind.i64.wrap x ≤ 9223372036854775807 := by
  unfold IntKind.wrap
  simp [IntKind.bits, IntKind.signed]
  omega

theorem wrap64_fit (x : Int) : -9223372036854775808 ≤ wrap64 x ∧ wrap64 x ≤ 9223372036854775807 := by
  unfold wrap64
  omega

theorem own_lower {w : World} {b b2 : Nat} {e : TypeId} {n : Nat} {v : Value} {xs : List Value} (h : w.ownsRow b2 e 1 v n xs) (hb : b ≤ b2) : w.ownsRow b e 1 v n xs := by
  refine ⟨h.1, ?_⟩
  rcases h.2 with q | ⟨g, cap, cur, rfl, hbg, r⟩
  · exact .inl q
  · exact .inr ⟨g, cap, cur, rfl, Nat.le_trans hb hbg, r⟩

/-- What a list that is kept adds to the book. -/
theorem kept_book {w w4 w7 : World} {base g : Nat} {L M L' M' c v : Value} {held : Int} {rows : List (Value × List ByteArray)} {copies : List Value} {xs : List ByteArray} {b2 : Nat} (h : TextBook w base g L M held rows copies)
    (hk : w7.heap[g]? = some (.cells #[L', M', .int .i64 held, .bool false] 56 (0, 0))) (hL : Tail w7 base 22 L' (rows.map Prod.fst ++ [v])) (hM : Tail w7 base 22 M' (copies ++ [c])) (h2 : ∀ k, L'.ownBlock = some k → M'.ownBlock ≠ some k)
    (m7 : Moved base OnBook w w7) (m4 : Moved base OnBook w4 w7) (hb2 : base ≤ b2) (ov : w.ownsRow b2 9 1 v xs.length (xs.map (Value.string))) (oc : w4.ownsRow base 9 1 c xs.length (xs.map (Value.string))) (hfar : ∀ r ∈ rows, Far r (v, xs)) (hxs : xs.length ≤ 1000000) :
    TextBook w7 base g L' M' held (rows ++ [(v, xs)]) (copies ++ [c]) := by
  have n9 : ¬ OnBook 9 := by unfold OnBook; decide
  refine ⟨hk, h.ge, by rw [List.map_append]; exact hL, hM, h2, by simp [h.len], ?_, ?_, ?_, ?_, h.fit⟩
  · intro r hr
    rcases List.mem_append.1 hr with q | q
    · exact m7.owns (h.made r q) n9
    · rw [List.mem_singleton.1 q]
      exact m7.owns (own_lower ov hb2) n9
  · intro i r d hr hd
    by_cases hi : i < rows.length
    · rw [List.getElem?_append_left hi] at hr
      rw [List.getElem?_append_left (by rw [h.len]; exact hi)] at hd
      exact m7.owns (h.olds i r d hr hd) n9
    · have hi2 : i = rows.length := by
        have := (List.getElem?_eq_some_iff.1 hr).1
        simp at this
        omega
      subst hi2
      rw [List.getElem?_append_right (Nat.le_refl _), Nat.sub_self] at hr
      rw [List.getElem?_append_right (by rw [h.len]; exact Nat.le_refl _), h.len, Nat.sub_self] at hd
      simp only [List.getElem?_cons_zero, Option.some.injEq] at hr hd
      subst hr hd
      exact m4.owns oc n9
  · refine List.pairwise_append.2 ⟨h.far, List.pairwise_singleton _ _, fun r hr s hs => ?_⟩
    rw [List.mem_singleton.1 hs]
    exact hfar r hr
  · intro r hr
    rcases List.mem_append.1 hr with q | q
    · exact h.small r q
    · rw [List.mem_singleton.1 q]
      exact hxs

/-- The eldest list let go, in the words of the walk. -/
theorem gone {w wr : World} {base g gl ol gm om n Lc Mc : Nat} {hd h2 : Int} {r : Value × List ByteArray} {rest : List (Value × List ByteArray)} {c : Value} {crest : List Value}
    (h : TextBook wr base g (.slice (some ⟨gl, ol, none⟩) n Lc) (.slice (some ⟨gm, om, none⟩) n Mc) hd (r :: rest) (c :: crest)) (hf : -9223372036854775808 ≤ h2 ∧ h2 ≤ 9223372036854775807) (hm : Moved base OnBook w wr) :
    TextBook (((wr.setCell ⟨g, 2, none⟩ (.int .i64 h2)).setCell ⟨g, 0, none⟩ (.slice (some ⟨gl, ol + 1, none⟩) (n - 1) (Lc - 1))).setCell ⟨g, 1, none⟩ (.slice (some ⟨gm, om + 1, none⟩) (n - 1) (Mc - 1))).drew base g
      (.slice (some ⟨gl, ol + 1, none⟩) (n - 1) (Lc - 1)) (.slice (some ⟨gm, om + 1, none⟩) (n - 1) (Mc - 1)) h2 rest crest ∧
    Moved base OnBook w (((wr.setCell ⟨g, 2, none⟩ (.int .i64 h2)).setCell ⟨g, 0, none⟩ (.slice (some ⟨gl, ol + 1, none⟩) (n - 1) (Lc - 1))).setCell ⟨g, 1, none⟩ (.slice (some ⟨gm, om + 1, none⟩) (n - 1) (Mc - 1))).drew := by
  have h1 := h.reheld (by decide) (by decide) h2 hf
  have k1 := h1.book
  have k2 : ((wr.setCell ⟨g, 2, none⟩ (.int .i64 h2)).setCell ⟨g, 0, none⟩ (.slice (some ⟨gl, ol + 1, none⟩) (n - 1) (Lc - 1))).heap[g]? = some (.cells #[.slice (some ⟨gl, ol + 1, none⟩) (n - 1) (Lc - 1), .slice (some ⟨gm, om, none⟩) n Mc, .int .i64 h2, .bool false] 56 (0, 0)) := Joins.block_setCell k1 _
  obtain ⟨gl', ol', gm', om', e1, e2, -, -, -, hnext⟩ := h1.let_go (by decide) (by decide)
  simp only [Option.some.injEq, Addr.mk.injEq] at e1 e2
  obtain ⟨rfl, rfl, -⟩ := e1
  obtain ⟨rfl, rfl, -⟩ := e2
  refine ⟨(hnext (((wr.setCell ⟨g, 2, none⟩ (.int .i64 h2)).setCell ⟨g, 0, none⟩ (.slice (some ⟨gl, ol + 1, none⟩) (n - 1) (Lc - 1))).setCell ⟨g, 1, none⟩ (.slice (some ⟨gm, om + 1, none⟩) (n - 1) (Mc - 1))) ?_ ?_).move (Below.refl _ _).drew, ?_⟩
  · exact Joins.block_setCell k2 _
  · intro k hk
    rw [Below.heap_setCell _ ⟨g, 1, none⟩ _ k hk, Below.heap_setCell _ ⟨g, 0, none⟩ _ k hk]
  · exact (((hm.setCell h.ge h.book (.inl rfl) 2 _).setCell h.ge k1 (.inl rfl) 0 _).setCell h.ge k2 (.inl rfl) 1 _).drew

/-- What Keep leaves: the last lists of R are in the book. -/
def Kept (base g : Nat) (R : List (Value × List ByteArray)) (w w' : World) : Prop :=
  (∃ L' M' held' m copies', TextBook w' base g L' M' held' (R.drop m) copies' ∧ (R.drop m).length ≤ 4000) ∧ Moved base OnBook w w'

set_option maxRecDepth 100000 in
set_option maxHeartbeats 8000000 in
theorem keep_any {w : World} {base g : Nat} {L M : Value} {held : Int} {rows : List (Value × List ByteArray)} {copies : List Value} (h : TextBook w base g L M held rows copies) (hlen : rows.length ≤ 4000)
    {v : Value} {xs : List ByteArray} {b2 : Nat} (hb2 : base ≤ b2) (ov : w.ownsRow b2 9 1 v xs.length (xs.map (Value.string))) (hfar : ∀ r ∈ rows, Far r (v, xs)) (hxs : xs.length ≤ 1000000) :
    Calls Tryd.prog 25 #[.pointer (some ⟨g, 0, none⟩), v] w fun e w' => e = .returned (.tuple #[]) ∧ Kept base g (rows ++ [(v, xs)]) w w' := by
  obtain ⟨A, ca, rfl, hca, hcm, rA⟩ := reads_row ov
  generalize hv : Value.slice A xs.length ca = v at *
  obtain ⟨i22, hi22, z22a, z22b, z22c⟩ := info_parts info22_parts
  obtain ⟨i5, hi5, z5a, z5b, z5c⟩ := info_parts info5_parts
  have hgs : g < w.heap.size := (Array.getElem?_eq_some_iff.1 h.book).1
  have hbs : base ≤ w.heap.size := Nat.le_trans h.ge (by omega)
  have ha : Below w.heap.size w (w.alloc (.cells #[v] 22)) := (Below.refl _ _).alloc (Nat.le_refl _) _
  have h1 := h.move ha
  have hu : (w.alloc (.cells #[v] 22)).cell? ⟨w.heap.size, 0, none⟩ = some v := by rw [World.cell?_alloc_new]; rfl
  obtain ⟨L', w2, hr0, hT0, hg0, hb0⟩ := run_append_tail (P := Tryd.prog) (w.alloc (.cells #[v] 22)) base 54 54 22 i22 _ 24 Tryd.underlying54 hi22 z22a z22b z22c rfl L _ h1.lists ⟨w.heap.size, 0, none⟩ 1 v hu (by rw [← hv]; rfl) (by unfold maxLen; simp; omega) (by simp; omega) (by simp; omega)
  obtain ⟨La, Lc, hLa, hLc1, hLc2, -⟩ := hT0.cell
  rw [List.length_append, List.length_map, List.length_singleton] at hLa hLc1
  have gm2 : Moved base (fun t => t = 22) w w2 := ((Moved.refl base _ w).alloc _).grown hg0 (fun k hk => by
    obtain ⟨q1, q2, cs, q3⟩ := h1.lists.lt k hk
    exact ⟨q1, cs, 22, (0, 0), q3, rfl⟩)
  have hk2 := gm2.kept h.book (by decide)
  have c0 : w2.cell? ⟨g, 0, none⟩ = some L := by rw [Joins.cell_of_block hk2]; rfl
  have f0 : w2.frozen? ⟨g, 0, none⟩ = false := Joins.unfrozen_of_block hk2 0
  subst hv hLa
  have cb : w.cell? ⟨g, 0, none⟩ = some L := by rw [Joins.cell_of_block h.book]; rfl
  go_enter Tryd.func25, Tryd.ntmps25
  go_upto_region 1 with (at_builtin; refine wpList_append_run rfl (.tmp 8) (.tmp 10) 54 rfl _ _ rfl rfl _ w2 hr0 ?_)
  generalize hL : Value.slice La (rows.length + 1) Lc = L' at *
  have gm3 : Moved base OnBook w (w2.setCell ⟨g, 0, none⟩ L') := (gm2.mono (fun t ht => .inr ht)).setCell h.ge hk2 (.inl rfl) 0 _
  have hk3 : (w2.setCell ⟨g, 0, none⟩ L').heap[g]? = some (.cells #[L', M, .int .i64 held, .bool false] 56 (0, 0)) := Joins.block_setCell hk2 _
  have hT3 : Tail (w2.setCell ⟨g, 0, none⟩ L') base 22 L' (rows.map Prod.fst ++ [.slice A xs.length ca]) := hT0.move fun k hk => by
    obtain ⟨_, _, cs, q⟩ := hT0.lt k hk
    refine Below.heap_setCell w2 ⟨g, 0, none⟩ L' k (fun e => ?_)
    have e' : k = g := e
    subst e'
    rw [hk2] at q
    simp at q
  have hM3 : Tail (w2.setCell ⟨g, 0, none⟩ L') base 22 M copies := h1.was.move fun k hk => by
    obtain ⟨_, q1, cs, q⟩ := h1.was.lt k hk
    rw [Below.heap_setCell w2 ⟨g, 0, none⟩ L' k (fun e => by
      have e' : k = g := e
      subst e'
      rw [h1.book] at q
      simp at q)]
    exact hg0.block k q1 (fun e => h1.two k e.symm hk)
  have htw3 : ∀ k, L'.ownBlock = some k → M.ownBlock ≠ some k := fun k hk e => by
    rcases hb0 with q | q
    · exact h1.two k (q ▸ hk) e
    · obtain ⟨_, q1, _⟩ := h.was.lt k e
      rw [q] at hk
      simp at hk
      omega
  have bs3 := gm3.size
  have ov3 := gm3.owns ov (by unfold OnBook; decide)
  clear hr0 hT0 hg0 hb0 hu h1 ha cb c0 f0 gm2
  subst hL
  generalize hw3 : w2.setCell ⟨g, 0, none⟩ (.slice La (rows.length + 1) Lc) = w3 at *
  clear hw3 hk2
  have ov3d : w3.drew.ownsRow b2 9 1 (.slice A xs.length ca) xs.length (xs.map (Value.string)) := (Moved.refl base OnBook w3).drew.owns ov3 (by unfold OnBook; decide)
  obtain ⟨c, w4, hr1, hc4, hg4⟩ := run_append_copy (P := Tryd.prog) w3.drew base b2 22 22 9 i5 _ 16 Tryd.underlying22 hi5 z5a z5b z5c rfl (.slice A xs.length ca) (xs.map (Value.string)) (by rw [List.length_map]; exact ov3d)
    (fun u hu => by obtain ⟨z, _, rfl⟩ := List.mem_map.1 hu; rfl) (by rw [List.length_map]; unfold maxLen; omega) (by rw [List.length_map]; omega) (by show base ≤ w3.heap.size; omega)
  rw [List.length_map] at hc4
  have h34 : Below w3.heap.size w3 w4 := (Below.refl _ _).drew.trans ⟨hg4.os, hg4.tape, hg4.output, hg4.size, fun k hk => hg4.block k hk (by simp)⟩
  have s34 := h34.size
  have hk4 := (h34.block g (by omega)).trans hk3
  obtain ⟨A2, ca2, hcv, hca2, -, -⟩ := reads_row hc4
  have h45 : Below w4.heap.size w4 (w4.alloc (.cells #[c] 22)) := (Below.refl _ _).alloc (Nat.le_refl _) _
  have hu4 : (w4.alloc (.cells #[c] 22)).cell? ⟨w4.heap.size, 0, none⟩ = some c := by rw [World.cell?_alloc_new]; rfl
  have hM5 := (hM3.move fun k hk => by obtain ⟨_, q, _⟩ := hM3.lt k hk; exact h34.block k q).move fun k hk => by
    obtain ⟨_, q, _⟩ := (hM3.move (w' := w4) fun k hk => by obtain ⟨_, q, _⟩ := hM3.lt k hk; exact h34.block k q).lt k hk
    exact h45.block k q
  obtain ⟨M', w6, hr2, hT2, hg6, hb2'⟩ := run_append_tail (P := Tryd.prog) (w4.alloc (.cells #[c] 22)) base 54 54 22 i22 _ 24 Tryd.underlying54 hi22 z22a z22b z22c rfl M copies hM5 ⟨w4.heap.size, 0, none⟩ 1 c hu4 (by rw [hcv]; rfl) (by have := h.len; unfold maxLen; omega) (by have := h.len; omega) (by simp; omega)
  obtain ⟨Ma, Mc, hMa, hMc1, hMc2, -⟩ := hT2.cell
  rw [List.length_append, List.length_singleton, h.len] at hMa hMc1
  have gm46 : Moved base (fun t => t = 22) w4 w6 := ((Moved.refl base _ w4).alloc _).grown hg6 (fun k hk => by
    obtain ⟨q1, q2, cs, q3⟩ := hM5.lt k hk
    exact ⟨q1, cs, 22, (0, 0), q3, rfl⟩)
  have hk6 := gm46.kept hk4 (by decide)
  have c3 : w3.cell? ⟨g, 1, none⟩ = some M := by rw [Joins.cell_of_block hk3]; rfl
  have c4 : w4.cell? ⟨g, 1, none⟩ = some M := by rw [Joins.cell_of_block hk4]; rfl
  have c6 : w6.cell? ⟨g, 1, none⟩ = some M := by rw [Joins.cell_of_block hk6]; rfl
  have f6 : w6.frozen? ⟨g, 1, none⟩ = false := Joins.unfrozen_of_block hk6 1
  have g4 : g < w4.heap.size := by omega
  subst hMa hcv
  go_cut [0] from 14 (fun v wx => v = .pointer (some ⟨g, 0, none⟩) ∧ wx = w6.setCell ⟨g, 1, none⟩ (.slice Ma (rows.length + 1) Mc))
  case first =>
    clear ov3 ov3d hM5 hM3 hT3 htw3 hT2 hc4 gm46 hfar
    go_region_law (first
      | (refine step_append_run rfl (.const (.slice none 0 0)) (.tmp 19) 22 rfl _ _ rfl rfl _ w4 hr1 ?_)
      | (refine step_append_run rfl (.tmp 18) (.tmp 21) 54 rfl _ _ rfl rfl _ w6 hr2 ?_))
    all_goals
      go_wp2
      go_meet
      case rel => exact ⟨rfl, rfl⟩
  case rest =>
    obtain ⟨rfl, rfl⟩ := hcut
    have hk7 : (w6.setCell ⟨g, 1, none⟩ (.slice Ma (rows.length + 1) Mc)).heap[g]? = some (.cells #[.slice La (rows.length + 1) Lc, .slice Ma (rows.length + 1) Mc, .int .i64 held, .bool false] 56 (0, 0)) := Joins.block_setCell hk6 _
    have gne : ∀ {k : Nat} {cs : Array Value}, w6.heap[k]? = some (.cells cs 22 (0, 0)) → k ≠ g := fun q e => by
      subst e
      rw [hk6] at q
      simp at q
    have m47 : Moved base OnBook w4 (w6.setCell ⟨g, 1, none⟩ (.slice Ma (rows.length + 1) Mc)) := (gm46.mono (fun t ht => .inr ht)).setCell h.ge hk6 (.inl rfl) 1 _
    have m7 : Moved base OnBook w (w6.setCell ⟨g, 1, none⟩ (.slice Ma (rows.length + 1) Mc)) := (gm3.trans (.of_below h34)).trans m47
    have hT6 : Tail w6 base 22 (.slice La (rows.length + 1) Lc) (rows.map Prod.fst ++ [.slice A xs.length ca]) := hT3.move fun k hk => by
      obtain ⟨_, q1, cs, q⟩ := hT3.lt k hk
      have e4 := h34.block k q1
      have e5 := h45.block k (by omega)
      exact (hg6.block k (by simp; omega) (fun e => htw3 k hk e.symm)).trans (e5.trans e4)
    have hT7 : Tail (w6.setCell ⟨g, 1, none⟩ (.slice Ma (rows.length + 1) Mc)) base 22 (.slice La (rows.length + 1) Lc) (rows.map Prod.fst ++ [.slice A xs.length ca]) := hT6.move fun k hk => by
      obtain ⟨_, _, cs, q⟩ := hT6.lt k hk
      exact Below.heap_setCell w6 ⟨g, 1, none⟩ _ k (gne q)
    have hM7 : Tail (w6.setCell ⟨g, 1, none⟩ (.slice Ma (rows.length + 1) Mc)) base 22 (.slice Ma (rows.length + 1) Mc) (copies ++ [.slice A2 xs.length ca2]) := hT2.move fun k hk => by
      obtain ⟨_, _, cs, q⟩ := hT2.lt k hk
      exact Below.heap_setCell w6 ⟨g, 1, none⟩ _ k (gne q)
    have h27 : ∀ k, (Value.slice La (rows.length + 1) Lc).ownBlock = some k → (Value.slice Ma (rows.length + 1) Mc).ownBlock ≠ some k := fun k hk e => by
      rcases hb2' with q | q
      · exact htw3 k hk (q ▸ e)
      · obtain ⟨_, q1, _⟩ := hT3.lt k hk
        rw [q] at e
        simp at e
        omega
    have hB7 := kept_book h hk7 hT7 hM7 h27 m7 m47 hb2 ov hc4 hfar hxs
    clear hr1 hr2 hT2 hT3 hM3 hM5 hc4 gm46 hk6 c3 c4 c6 f6 g4 h34 h45 hu4 hg6 hg4 hb2' hT6 hT7 hM7 h27 m47 hk7 gne hk3 hk4 ov3 ov3d htw3 gm3 s34 bs3
    revert hB7 m7
    generalize w6.setCell ⟨g, 1, none⟩ (.slice Ma (rows.length + 1) Mc) = w7
    intro m7 hB7
    have hlenR : (rows ++ [(Value.slice A xs.length ca, xs)]).length = rows.length + 1 := by simp
    generalize hR : rows ++ [(Value.slice A xs.length ca, xs)] = R at *
    generalize hC : copies ++ [Value.slice A2 xs.length ca2] = C at *
    have c2 : w7.cell? ⟨g, 2, none⟩ = some (.int .i64 held) := by rw [Joins.cell_of_block hB7.book]; rfl
    have f2 : w7.frozen? ⟨g, 2, none⟩ = false := Joins.unfrozen_of_block hB7.book 2
    go_wp2
    obtain ⟨held2, hhd⟩ : ∃ x, wrap64 (wrap64 (held + (ca : Int)) + 1) = x := ⟨_, rfl⟩
    have hB8 := hB7.reheld (by decide) (by decide) held2 (by rw [← hhd]; exact wrap64_fit _)
    have m8 : Moved base OnBook w (w7.setCell ⟨g, 2, none⟩ (.int .i64 held2)) := m7.setCell hB7.ge hB7.book (.inl rfl) 2 _
    rw [hhd]
    clear hhd c2 f2 hB7 m7 hC
    revert hB8 m8
    generalize w7.setCell ⟨g, 2, none⟩ (.int .i64 held2) = w8
    intro hB8 m8
    go_loopg [56] R.length (fun k _p wr => ∃ L M hd m C, TextBook wr base g L M hd (R.drop m) C ∧ (R.drop m).length = k ∧ Moved base OnBook w wr)
    case atStart => exact ⟨_, _, held2, 0, C, hB8, rfl, m8⟩
    case round =>
      clear hB8 m8
      obtain ⟨L, M, hd, m, C, hB, hk, hm⟩ := hrel
      obtain ⟨La, Lc, Ma, Mc, rfl, rfl, q1, q2, q3, q4, hat⟩ := book_at hB
      rw [hk] at q1 q2 hat hB
      unfold maxLen at q3 q4
      have hbk := hB.book
      have c0 : wr.cell? ⟨g, 0, none⟩ = some (.slice La gk Lc) := by rw [Joins.cell_of_block hbk]; rfl
      have c1 : wr.cell? ⟨g, 1, none⟩ = some (.slice Ma gk Mc) := by rw [Joins.cell_of_block hbk]; rfl
      have c2 : wr.cell? ⟨g, 2, none⟩ = some (.int .i64 hd) := by rw [Joins.cell_of_block hbk]; rfl
      have c3 : wr.cell? ⟨g, 3, none⟩ = some (.bool false) := by rw [Joins.cell_of_block hbk]; rfl
      have HEND : gk ≤ 4000 → Hid (∃ L' M' held' m copies', TextBook wr base g L' M' held' (R.drop m) copies' ∧ (R.drop m).length ≤ 4000) := fun h4 => ⟨_, _, _, m, C, hB, by omega⟩
      by_cases h1 : 1 < gk
      · by_cases hgo : 1000000 < hd ∨ 4000 < gk
        · obtain ⟨r, rest, hrr⟩ : ∃ r rest, R.drop m = r :: rest := by
            cases hrr : R.drop m with
            | nil => rw [hrr] at hk; simp at hk; omega
            | cons r rest => exact ⟨r, rest, rfl⟩
          obtain ⟨c, crest, hcc⟩ : ∃ c crest, C = c :: crest := by
            cases hcc : C with
            | nil => have := hB.len; rw [hcc, hk] at this; simp at this; omega
            | cons c crest => exact ⟨c, crest, rfl⟩
          have hrest : R.drop (m + 1) = rest := by rw [← List.drop_drop, hrr]; rfl
          obtain ⟨gl, ol, gm, om, rfl, rfl, hrow⟩ := hat (by omega)
          obtain ⟨v, xs0, c', hr0, hcp, cv, cc, ov0, oc0, hxs0⟩ := hrow 0 (by omega)
          rw [Nat.add_zero] at cv cc
          clear hrow HEND hat
          obtain ⟨A0, ca0, rfl, hA0, -, rA0⟩ := reads_row ov0
          obtain ⟨B0, cb0, rfl, hB0, -, rB0⟩ := reads_row oc0
          rw [hrr] at hB hk
          rw [hcc] at hB
          have hset : ∀ W, Drawn0 wr W → W.setCell ⟨g, 3, none⟩ (.bool false) = W := fun W hW => setCell_same W g 3 _ 56 (0, 0) _ (by rw [drawn_heap hW]; exact hbk) rfl
          have hfz : ∀ W, Drawn0 wr W → W.frozen? ⟨g, 3, none⟩ = false := fun W hW => by
            have : W.heap[g]? = wr.heap[g]? := by rw [drawn_heap hW]
            exact Joins.unfrozen_of_block (this.trans hbk) 3
          have hsame : ∀ W, Drawn0 wr W → Calls Tryd.prog 8 #[.slice A0 xs0.length ca0, .slice B0 xs0.length cb0] W fun e w' => e = .returned (.bool true) ∧ Drawn0 W w' := fun W hW =>
            same_drawn A0 B0 ca0 cb0 xs0 (by omega) W (Kd.C_below rA0 (drawn_below hW)) hA0 (Kd.C_below rB0 (drawn_below hW)) hB0
          have hold : ∀ W, Drawn0 wr W → W.cell? ⟨g, 0, none⟩ = some (.slice (some ⟨gl, ol, none⟩) gk Lc) ∧ W.cell? ⟨g, 1, none⟩ = some (.slice (some ⟨gm, om, none⟩) gk Mc) ∧ W.cell? ⟨g, 3, none⟩ = some (.bool false) ∧
              W.cell? ⟨gl, ol, none⟩ = some (.slice A0 xs0.length ca0) ∧ W.cell? ⟨gm, om, none⟩ = some (.slice B0 xs0.length cb0) ∧ W.frozen? ⟨g, 3, none⟩ = false ∧ Drawn0 wr W := fun W hW =>
            ⟨by rw [drawn_cell hW]; exact c0, by rw [drawn_cell hW]; exact c1, by rw [drawn_cell hW]; exact c3, by rw [drawn_cell hW]; exact cv, by rw [drawn_cell hW]; exact cc, hfz W hW, hW⟩
          have HO := Lib.hid hold
          have HSE := Lib.hid hset
          have HSA := Lib.hid hsame
          have HB := Lib.hid hB
          have I1 : 0 < gk := by omega
          clear hold hset hsame rA0 rB0 ov0 oc0 hbk hfz hA0 hB0 c1 c3 hB hrr hr0 hcp
          have hgo' : 1000000 < hd ∨ (¬ 1000000 < hd ∧ 4000 < gk) := by omega
          clear hgo
          rcases hgo' with hx | ⟨hx, hy⟩
          all_goals
            go_wp2_with fail
            clear c0 c2
            go_region_held3 (fun W => W.cell? ⟨g, 0, none⟩ = some (.slice (some ⟨gl, ol, none⟩) gk Lc) ∧ W.cell? ⟨g, 1, none⟩ = some (.slice (some ⟨gm, om, none⟩) gk Mc) ∧ W.cell? ⟨g, 3, none⟩ = some (.bool false) ∧
                W.cell? ⟨gl, ol, none⟩ = some (.slice A0 xs0.length ca0) ∧ W.cell? ⟨gm, om, none⟩ = some (.slice B0 xs0.length cb0) ∧ W.frozen? ⟨g, 3, none⟩ = false ∧ Drawn0 wr W)
              (first
                | exact HO.out _ (drawn_one (Drawn0.refl _))
                | (go_split_ands; exact HO.out _ (drawn_trans (by assumption) hs))
                | (go_split_ands; rw [HSE.out _ (by assumption)]; exact HO.out _ (by assumption)))
              (first
                | (go_at_call 8; refine (HSA.out _ (by go_split_ands; assumption)).mono ?_; rintro e w' ⟨rfl, hs⟩))
            go_split_ands
            rename_i hz
            clear hz
            have hw' : Drawn0 wr w' := drawn_trans (drawn_one (Drawn0.refl _)) hs
            rw [HSE.out _ hw']
            have hB4 := HB.out.move (drawn_below hw')
            have hcl : w'.cell? ⟨gl, ol, none⟩ = some (.slice A0 xs0.length ca0) := (HO.out w' hw').2.2.2.1
            have hm4 : Moved base OnBook w w' := hm.trans (.of_below (drawn_below hw'))
            clear hs hw' HSE HSA HO HB hm
            have c0 : w'.cell? ⟨g, 0, none⟩ = some (.slice (some ⟨gl, ol, none⟩) gk Lc) := by rw [Joins.cell_of_block hB4.book]; rfl
            have c2 : w'.cell? ⟨g, 2, none⟩ = some (.int .i64 hd) := by rw [Joins.cell_of_block hB4.book]; rfl
            have f2 : w'.frozen? ⟨g, 2, none⟩ = false := Joins.unfrozen_of_block hB4.book 2
            go_wp2_with fail
            go_still_tail 14, (by kernel_rfl)
            change wpList _ _ _ _ _ w'.drew
            have c1 : w'.cell? ⟨g, 1, none⟩ = some (.slice (some ⟨gm, om, none⟩) gk Mc) := by rw [Joins.cell_of_block hB4.book]; rfl
            have f0 : w'.frozen? ⟨g, 0, none⟩ = false := Joins.unfrozen_of_block hB4.book 0
            have f1 : w'.frozen? ⟨g, 1, none⟩ = false := Joins.unfrozen_of_block hB4.book 1
            go_wp2
            go_roundg (gk - 1)
            case rel =>
              obtain ⟨hB9, hm9⟩ := gone hB4 (wrap64_fit (wrap64 (hd - (ca0 : Int)) - 1)) hm4
              have hlr : (R.drop (m + 1)).length = gk - 1 := by rw [hrest]; simp at hk; omega
              rw [← hrest] at hB9
              exact ⟨_, _, _, m + 1, crest, hB9, hlr, hm9⟩
            case measure => omega
        · have x1 : ¬ 1000000 < hd := fun q => hgo (.inl q)
          have x2 : ¬ 4000 < gk := fun q => hgo (.inr q)
          have hend := HEND (by omega)
          clear hgo hat HEND hB hbk
          go_wp2
          exact bodyPost_end (results_none rfl _ _ _) rfl ⟨rfl, hend.out, hm⟩
      · have hend := HEND (by omega)
        clear hat HEND hB hbk
        go_wp2
        exact bodyPost_end (results_none rfl _ _ _) rfl ⟨rfl, hend.out, hm⟩

end Go.Proofs.YtohcjdninpjpgaaDoor.Own
