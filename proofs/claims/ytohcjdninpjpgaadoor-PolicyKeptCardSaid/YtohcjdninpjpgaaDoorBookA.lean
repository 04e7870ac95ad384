/- A book of lists of texts: each list has its places for itself. -/
import Derived.Test.YtohcjdninpjpgaaDoorBookS
import Derived.Test.YtohcjdninpjpgaaDoorPXx9
import Derived.Deep.QuietTactic
import Derived.BigQuiet
namespace Go.Proofs.YtohcjdninpjpgaaDoor.Own
open Go.RowKit Go.Proofs.YtohcjdninpjpgaaDoorW.PrintWords Go.Proofs.YtohcjdninpjpgaaDoor.PX

/-- The mark of place j of list i. -/
def textMark (i _j : Nat) : ByteArray := (⟨#[109, 97, 114, 107, 32]⟩ : ByteArray) ++ strOfNums [(i : Int) % 256, ((i : Int) / 256) % 256, ((i : Int) / 65536) % 256]

theorem mark_any (i j : Nat) (w : World) : Calls Tryd.prog 27 #[.int .i64 (i : Int), .int .i64 (j : Int)] w fun e w' => e = .returned (.string (textMark i j)) ∧ Below w.heap.size w w' := by
  refine ostiarybook_Strings.calls (i : Int) (j : Int) (textMark i j) w ?_
  unfold ostiarybook_Strings.f textMark
  rw [Option.bind_some, if_pos]
  rw [show (strOfNums [(i : Int) % 256, ((i : Int) / 256) % 256, ((i : Int) / 65536) % 256]).size = 3 from rfl]
  decide

/-- A list's room, of which the first m places bear list i's marks. -/
def RowFull (w : World) (base : Nat) (v : Value) (i m : Nat) : Prop :=
  v = .slice none 0 0 ∨ ∃ b n cap cs, v = .slice (some ⟨b, 0, none⟩) n cap ∧ base ≤ b ∧ w.heap[b]? = some (.cells cs 9 (0, 0)) ∧ n ≤ cap ∧ cap ≤ maxLen ∧ cs.size = cap ∧ ∀ j, j < m → j < cap → cs[j]? = some (.string (textMark i j))

theorem RowFull.of_own {w : World} {base : Nat} {v : Value} {xs : List ByteArray} (h : w.ownsRow base 9 1 v xs.length (xs.map (Value.string))) (i : Nat) : RowFull w base v i 0 := by
  rcases h.2 with ⟨rfl, _⟩ | ⟨g, cap, cur, rfl, hb, hg, h1, h2, h3, _⟩
  · exact .inl rfl
  · exact .inr ⟨g, _, cap, cur, rfl, hb, hg, h1, h2, by rw [h3, Nat.mul_one], fun j hj => by omega⟩

theorem RowFull.move {w w' : World} {base : Nat} {v : Value} {i m : Nat} (h : RowFull w base v i m) (hm : ∀ k, v.ownBlock = some k → k < w.heap.size → w'.heap[k]? = w.heap[k]?) : RowFull w' base v i m := by
  rcases h with h | ⟨b, n, cap, cs, rfl, hb, hg, r⟩
  · exact .inl h
  · exact .inr ⟨b, n, cap, cs, rfl, hb, (hm b rfl (Array.getElem?_eq_some_iff.1 hg).1).trans hg, r⟩

theorem RowFull.to {w : World} {base : Nat} {v : Value} {i m m' : Nat} (h : RowFull w base v i m) (hm : ∀ b n cap, v = .slice (some ⟨b, 0, none⟩) n cap → ∀ j, j < m' → j < cap → j < m) : RowFull w base v i m' := by
  rcases h with h | ⟨b, n, cap, cs, rfl, hb, hg, h1, h2, h3, h4⟩
  · exact .inl h
  · exact .inr ⟨b, n, cap, cs, rfl, hb, hg, h1, h2, h3, fun j hj hc => h4 j (hm b n cap rfl j hj hc) hc⟩

/-- How far the marking has come, in list k at place j. -/
def far (k j q : Nat) : Nat := if q < k then 2 ^ 64 else if q = k then j else 0

/-- The book's lists, marked up to place j of list k. -/
structure Marked (w : World) (base g : Nat) (L M : Value) (held : Int) (rows : List (Value × List ByteArray)) (k j : Nat) : Prop where
  book : w.heap[g]? = some (.cells #[L, M, .int .i64 held, .bool false] 56 (0, 0))
  ge : base ≤ g
  lists : Tail w base 22 L (rows.map Prod.fst)
  full : ∀ q r, rows[q]? = some r → RowFull w base r.1 q (far k j q)

theorem Marked.start {w : World} {base g : Nat} {L M : Value} {held : Int} {rows : List (Value × List ByteArray)} {copies : List Value} (h : TextBook w base g L M held rows copies) : Marked w base g L M held rows 0 0 :=
  ⟨h.book, h.ge, h.lists, fun q r hr => by
    have := RowFull.of_own (h.made r (List.mem_of_getElem? hr)) q
    refine this.to fun b n cap _ j hj _ => ?_
    unfold far at hj
    rw [if_neg (by omega)] at hj
    split at hj <;> omega⟩

theorem Marked.move {w w' : World} {base g : Nat} {L M : Value} {held : Int} {rows : List (Value × List ByteArray)} {k j : Nat} (h : Marked w base g L M held rows k j) (hb : Below w.heap.size w w') : Marked w' base g L M held rows k j :=
  ⟨(hb.block g (Array.getElem?_eq_some_iff.1 h.book).1).trans h.book, h.ge, h.lists.move fun k hk => by obtain ⟨_, q, _⟩ := h.lists.lt k hk; exact hb.block k q, fun q r hr => (h.full q r hr).move fun k _ hk => hb.block k hk⟩

/-- The next list. -/
theorem Marked.next {w : World} {base g : Nat} {L M : Value} {held : Int} {rows : List (Value × List ByteArray)} {k j : Nat} (h : Marked w base g L M held rows k j) (hj : ∀ r, rows[k]? = some r → ∀ b n cap, r.1 = .slice (some ⟨b, 0, none⟩) n cap → cap ≤ j) : Marked w base g L M held rows (k + 1) 0 :=
  ⟨h.book, h.ge, h.lists, fun q r hr => (h.full q r hr).to fun b n cap hv i hi hc => by
    unfold far at hi ⊢
    by_cases e : q < k
    · rw [if_pos e]
      rw [if_pos (by omega)] at hi
      exact hi
    · by_cases e2 : q = k
      · subst e2
        rw [if_neg (by omega), if_pos rfl]
        have := hj r hr b n cap hv
        omega
      · rw [if_neg (by omega)] at hi
        split at hi <;> omega⟩

/-- One place more is marked. -/
theorem Marked.put {w : World} {base g : Nat} {L M : Value} {held : Int} {rows : List (Value × List ByteArray)} {k j b n cap : Nat} {xs : List ByteArray} (h : Marked w base g L M held rows k j) (hf : rows.Pairwise Far) (hr : rows[k]? = some (.slice (some ⟨b, 0, none⟩) n cap, xs)) (hj : j < cap) :
    Marked (w.setCell ⟨b, j, none⟩ (.string (textMark k j))) base g L M held rows k (j + 1) ∧ (∃ cs, w.heap[b]? = some (.cells cs 9 (0, 0)) ∧ j < cs.size) ∧ base ≤ b := by
  obtain ⟨cs, hb, hg, h1, h2, h3, h4⟩ : ∃ cs, base ≤ b ∧ w.heap[b]? = some (.cells cs 9 (0, 0)) ∧ n ≤ cap ∧ cap ≤ maxLen ∧ cs.size = cap ∧ ∀ i, i < far k j k → i < cap → cs[i]? = some (.string (textMark k i)) := by
    rcases h.full k _ hr with q | ⟨b', n', cap', cs, q, r⟩
    · simp at q
    · simp only [Value.slice.injEq, Option.some.injEq, Addr.mk.injEq] at q
      obtain ⟨⟨rfl, -, -⟩, rfl, rfl⟩ := q
      exact ⟨cs, r⟩
  have oth : ∀ (q : Nat) (cs' : Array Value) (t : Nat), w.heap[q]? = some (.cells cs' t (0, 0)) → t ≠ 9 → (w.setCell ⟨b, j, none⟩ (.string (textMark k j))).heap[q]? = w.heap[q]? := fun q cs' t hq ht => Below.heap_setCell w ⟨b, j, none⟩ _ q (fun e => by
    have e' : q = b := e
    subst e'
    rw [hg] at hq
    simp only [Option.some.injEq, Obj.cells.injEq] at hq
    exact ht hq.2.1.symm)
  refine ⟨⟨(oth g _ 56 h.book (by decide)).trans h.book, h.ge, h.lists.move fun q hq => by obtain ⟨_, _, cs', q2⟩ := h.lists.lt q hq; exact oth q cs' 22 q2 (by decide), fun q r hr' => ?_⟩, ⟨cs, hg, by omega⟩, hb⟩
  by_cases e : q = k
  · subst e
    rw [hr] at hr'
    simp only [Option.some.injEq] at hr'
    subst hr'
    refine .inr ⟨b, n, cap, cs.setIfInBounds j (.string (textMark q j)), rfl, hb, Joins.block_setCell hg _, h1, h2, by simpa using h3, fun i hi hc => ?_⟩
    by_cases e2 : i = j
    · subst e2
      rw [Array.getElem?_setIfInBounds_self_of_lt (by omega)]
    · rw [Array.getElem?_setIfInBounds_ne (fun h => e2 h.symm)]
      refine h4 i ?_ hc
      unfold far at hi ⊢
      rw [if_neg (by omega), if_pos rfl] at hi ⊢
      omega
  · have hne : ∀ x, r.1.ownBlock = some x → x ≠ b := by
      intro x hx e2
      subst e2
      have hkl := (List.getElem?_eq_some_iff.1 hr)
      have hql := (List.getElem?_eq_some_iff.1 hr')
      obtain ⟨hk1, hk2⟩ := hkl
      obtain ⟨hq1, hq2⟩ := hql
      rcases Nat.lt_or_gt_of_ne e with lt | gt
      · have := List.pairwise_iff_getElem.1 hf q k hq1 hk1 lt x (by rw [hq2]; exact hx)
        rw [hk2] at this
        exact this rfl
      · have := List.pairwise_iff_getElem.1 hf k q hk1 hq1 gt x (by rw [hk2]; rfl)
        rw [hq2] at this
        exact this hx
    have hfar : far k (j + 1) q = far k j q := by
      unfold far
      by_cases e3 : q < k
      · rw [if_pos e3, if_pos e3]
      · rw [if_neg e3, if_neg e3, if_neg e, if_neg e]
    rw [hfar]
    exact (h.full q r hr').move fun x hx _ => Below.heap_setCell w ⟨b, j, none⟩ _ x (hne x hx)

/-- A list of the book, whole: its slice, and whether it has room. -/
theorem Marked.row {w : World} {base g : Nat} {L M : Value} {held : Int} {rows : List (Value × List ByteArray)} {k j : Nat} (h : Marked w base g L M held rows k j) :
    ∃ La Lc, L = .slice La rows.length Lc ∧ rows.length ≤ Lc ∧ Lc ≤ maxLen ∧ (0 < rows.length → ∃ gl ol, La = some ⟨gl, ol, none⟩ ∧ ∀ i, i < rows.length → ∃ a n cap xs, rows[i]? = some (.slice a n cap, xs) ∧ n ≤ cap ∧ cap ≤ maxLen ∧
      w.cell? ⟨gl, ol + i, none⟩ = some (.slice a n cap) ∧ ((a = none ∧ cap = 0) ∨ ∃ b, a = some ⟨b, 0, none⟩)) := by
  obtain ⟨La, Lc, hL, h1, h2, h3⟩ := h.lists.cell
  rw [List.length_map] at hL h1 h3
  refine ⟨La, Lc, hL, h1, h2, fun hp => ?_⟩
  obtain ⟨gl, ol, hLa, hl⟩ := h3 hp
  refine ⟨gl, ol, hLa, fun i hi => ?_⟩
  have hr : rows[i]? = some rows[i] := List.getElem?_eq_getElem hi
  have hc := hl i _ (by rw [List.getElem?_map, hr]; rfl)
  rcases h.full i _ hr with q | ⟨b, n, cap, cs, q, -, -, h4, h5, -, -⟩
  · exact ⟨none, 0, 0, rows[i].2, by rw [hr, ← q], Nat.le_refl _, Nat.zero_le _, by rw [hc, q], .inl ⟨rfl, rfl⟩⟩
  · exact ⟨_, n, cap, rows[i].2, by rw [hr, ← q], h4, h5, by rw [hc, q], .inr ⟨b, rfl⟩⟩

/-- A place of a list, when all are marked. -/
theorem Marked.mark {w : World} {base g : Nat} {L M : Value} {held : Int} {rows : List (Value × List ByteArray)} {k j b n cap : Nat} {xs : List ByteArray} (h : Marked w base g L M held rows rows.length 0) (hr : rows[k]? = some (.slice (some ⟨b, 0, none⟩) n cap, xs)) (hj : j < cap) :
    w.cell? ⟨b, j, none⟩ = some (.string (textMark k j)) := by
  rcases h.full k _ hr with q | ⟨b', n', cap', cs, q, -, hg, -, hm, -, h4⟩
  · simp at q
  · simp only [Value.slice.injEq, Option.some.injEq, Addr.mk.injEq] at q
    obtain ⟨⟨rfl, -, -⟩, rfl, rfl⟩ := q
    rw [Joins.cell_of_block hg]
    refine h4 j ?_ hj
    unfold far
    rw [if_pos (List.getElem?_eq_some_iff.1 hr).1]
    unfold maxLen at hm
    omega

/-- What Apart may change. -/
def OnAll (t : Nat) : Prop := t = 56 ∨ t = 9

set_option maxRecDepth 100000 in
set_option maxHeartbeats 8000000 in
theorem apart_any {w : World} {base g : Nat} {L M : Value} {held : Int} {rows : List (Value × List ByteArray)} {copies : List Value} (h : TextBook w base g L M held rows copies) (hlen : rows.length ≤ 4000) :
    Calls Tryd.prog 26 #[.pointer (some ⟨g, 0, none⟩), .func (.func 27) #[] #[]] w fun e w' => e = .returned (.bool true) ∧ Moved base OnAll w w' := by
  have hst := fun (w' : World) (hd : Drawn0 w w') => stays_any (h.move (drawn_below hd))
  go_enter Tryd.func26, Tryd.ntmps26
  go_wp2_with fail
  refine (hst _ (Drawn0.refl _)).mono ?_
  rintro e w1 ⟨rfl, hd1⟩
  have hM1 := (Marked.start h).move (drawn_below hd1)
  have hm1 : Moved base OnAll w w1 := .of_below (drawn_below hd1)
  have hfar := h.far
  clear hst h hd1
  have HF := Lib.hid hfar
  clear hfar
  go_wp2_with fail
  go_loopw [5] (fun v wr => ∃ k : Nat, k ≤ rows.length ∧ v = .int .i64 k ∧ Marked wr base g L M held rows k 0 ∧ Moved base OnAll w wr) (fun v _ => rows.length - (intOf v).toNat)
  case atStart => exact ⟨0, Nat.zero_le _, rfl, hM1, hm1⟩
  case round =>
    clear hM1 hm1
    obtain ⟨k, hk, rfl, hM, hm⟩ := hrel
    obtain ⟨La, Lc, hL, hl1, hl2, hrow⟩ := hM.row
    have c0 : wr.cell? ⟨g, 0, none⟩ = some (.slice La rows.length Lc) := by rw [Joins.cell_of_block hM.book, ← hL]; rfl
    by_cases hlt : k < rows.length
    · obtain ⟨gl, ol, rfl, hat⟩ := hrow (by omega)
      obtain ⟨a, n, cap, xs, hr, hnc, hcm, cv, hab⟩ := hat k hlt
      unfold maxLen at hcm hl2
      clear hat hrow
      have I0 : (0 : Int) ≤ (k : Int) := by omega
      have I1 : (k : Int) < (rows.length : Int) := by omega
      have C0 : (0 : Int) ≤ (cap : Int) := by omega
      have HM := Lib.hid hM
      have Hm := Lib.hid hm
      have HL := Lib.hid hL
      have HAB := Lib.hid hab
      have HR := Lib.hid hr
      clear hM hm hL hab hr
      go_wp2_with fail
      go_quiet (fail)
      go_wp2
      go_loopw [7] (fun v wz => ∃ j : Nat, j ≤ cap ∧ v = .int .i64 j ∧ Marked wz base g L M held rows k j ∧ Moved base OnAll w wz) (fun v _ => cap - (intOf v).toNat)
      case atStart => exact ⟨0, Nat.zero_le _, rfl, HM.out.move (drawn_below ⟨nq, rfl⟩), Hm.out.trans (.of_below (drawn_below ⟨nq, rfl⟩))⟩
      case round =>
        clear HM Hm
        rename World => wz
        obtain ⟨j, hj, rfl, hM, hm⟩ := hrel
        by_cases hjt : j < cap
        · obtain ⟨b, rfl⟩ : ∃ b, a = some ⟨b, 0, none⟩ := by
            rcases HAB.out with ⟨_, q⟩ | q
            · omega
            · exact q
          have J0 : (0 : Int) ≤ (j : Int) := by omega
          have J1 : (j : Int) < (cap : Int) := by omega
          go_wp2_with fail
          refine (mark_any k j _).mono ?_
          rintro e w2 ⟨rfl, hb⟩
          have hM2 := hM.move hb
          have hm2 := hm.trans (.of_below hb)
          obtain ⟨hM3, ⟨cs, hg, hjs⟩, hbb⟩ := hM2.put HF.out HR.out hjt
          have hm3 : Moved base OnAll w (w2.setCell ⟨b, j, none⟩ (.string (textMark k j))) := hm2.setCell hbb hg (.inr rfl) j _
          have cj : w2.cell? ⟨b, j, none⟩ = some cs[j] := by rw [Joins.cell_of_block hg]; exact Array.getElem?_eq_getElem hjs
          have fj : w2.frozen? ⟨b, j, none⟩ = false := Joins.unfrozen_of_block hg j
          have HM3 := Lib.hid hM3
          have Hm3 := Lib.hid hm3
          clear hM3 hm3 hM2 hm2 hM hm hg hbb hb
          go_wp2
          refine ⟨⟨j + 1, by omega, by go_num, HM3.out, Hm3.out⟩, by simp [intOf]; omega⟩
        · have hn := Lib.hid (hM.next fun r hr b n' cap' hv => by
            rw [HR.out] at hr
            simp only [Option.some.injEq] at hr
            subst hr
            simp only [Value.slice.injEq] at hv
            omega)
          clear hM
          go_wp2
          refine ⟨⟨k + 1, by omega, by go_num, hn.out, hm⟩, by simp [intOf]; omega⟩
    · have e4 : k = rows.length := by omega
      subst e4
      have HM := Lib.hid hM
      have Hm := Lib.hid hm
      clear hM hm hrow hL
      go_wp2_with fail
      rename World => wo
      go_loopw [8] (fun v wr => ∃ k : Nat, k ≤ rows.length ∧ v = .int .i64 k ∧ Marked wr base g L M held rows rows.length 0 ∧ Moved base OnAll w wr) (fun v _ => rows.length - (intOf v).toNat)
      case atStart => exact ⟨0, Nat.zero_le _, rfl, HM.out, Hm.out⟩
      case round =>
        clear HM Hm c0
        obtain ⟨k, hk, rfl, hM, hm⟩ := hrel
        obtain ⟨La, Lc, hL, hl1, hl2, hrow⟩ := hM.row
        have c0 : wr.cell? ⟨g, 0, none⟩ = some (.slice La rows.length Lc) := by rw [Joins.cell_of_block hM.book, ← hL]; rfl
        by_cases hlt : k < rows.length
        · obtain ⟨gl, ol, rfl, hat⟩ := hrow (by omega)
          obtain ⟨a, n, cap, xs, hr, hnc, hcm, cv, hab⟩ := hat k hlt
          unfold maxLen at hcm hl2
          clear hat hrow
          have I0 : (0 : Int) ≤ (k : Int) := by omega
          have I1 : (k : Int) < (rows.length : Int) := by omega
          have C0 : (0 : Int) ≤ (cap : Int) := by omega
          have HM := Lib.hid hM
          have Hm := Lib.hid hm
          have HAB := Lib.hid hab
          have HR := Lib.hid hr
          clear hM hm hL hab hr
          go_wp2_with fail
          go_quiet (fail)
          go_wp2
          go_loopw [10] (fun v wz => ∃ j : Nat, j ≤ cap ∧ v = .int .i64 j ∧ Marked wz base g L M held rows rows.length 0 ∧ Moved base OnAll w wz) (fun v _ => cap - (intOf v).toNat)
          case atStart => exact ⟨0, Nat.zero_le _, rfl, HM.out.move (drawn_below ⟨nq, rfl⟩), Hm.out.trans (.of_below (drawn_below ⟨nq, rfl⟩))⟩
          case round =>
            clear HM Hm
            rename World => wz
            obtain ⟨j, hj, rfl, hM, hm⟩ := hrel
            by_cases hjt : j < cap
            · obtain ⟨b, rfl⟩ : ∃ b, a = some ⟨b, 0, none⟩ := by
                rcases HAB.out with ⟨_, q⟩ | q
                · omega
                · exact q
              have J0 : (0 : Int) ≤ (j : Int) := by omega
              have J1 : (j : Int) < (cap : Int) := by omega
              have hmk := fun w => mark_any k j w
              have hold : ∀ W, Below wz.heap.size wz W → W.cell? ⟨b, j, none⟩ = some (.string (textMark k j)) ∧ Below wz.heap.size wz W := fun W hW => ⟨(hM.move hW).mark HR.out hjt, hW⟩
              have hfin : ∀ W, Below wz.heap.size wz W → Marked W base g L M held rows rows.length 0 ∧ Moved base OnAll w W := fun W hW => ⟨hM.move hW, hm.trans (.of_below hW)⟩
              have HO := Lib.hid hold
              have HFI := Lib.hid hfin
              clear hold hfin hM hm
              generalize textMark k j = m at *
              go_wp2_with fail
              go_region_held3 (fun W => W.cell? ⟨b, j, none⟩ = some (.string m) ∧ Below wz.heap.size wz W)
                (first
                  | exact HO.out _ (Below.drew (Below.refl _ _))
                  | (go_split_ands; exact HO.out _ (Below.trans (by assumption) (Below.mono hb (Below.size (by assumption))))))
                (first
                  | (go_at_call 27; refine (hmk _).mono ?_; rintro e w' ⟨rfl, hb⟩))
              all_goals
                go_split_ands
                rename_i hz
                obtain ⟨p1, p2⟩ := HFI.out _ hz
                have P1 := Lib.hid p1
                have P2 := Lib.hid p2
                clear p1 p2 hz HO HFI hmk hb
                go_wp2
                refine ⟨⟨j + 1, by omega, by go_num, P1.out, P2.out⟩, by simp [intOf]; omega⟩
            · have P1 := Lib.hid hM
              have P2 := Lib.hid hm
              clear hM hm
              go_wp2
              refine ⟨⟨k + 1, by omega, by go_num, P1.out, P2.out⟩, by simp [intOf]; omega⟩
        · have hbk := hM.book
          have d0 : wr.cell? ⟨g, 0, none⟩ = some L := by rw [Joins.cell_of_block hbk]; rfl
          have d1 : wr.cell? ⟨g, 1, none⟩ = some M := by rw [Joins.cell_of_block hbk]; rfl
          have d2 : wr.cell? ⟨g, 2, none⟩ = some (.int .i64 held) := by rw [Joins.cell_of_block hbk]; rfl
          have f0 : wr.frozen? ⟨g, 0, none⟩ = false := Joins.unfrozen_of_block hbk 0
          have f1 : wr.frozen? ⟨g, 1, none⟩ = false := Joins.unfrozen_of_block hbk 1
          have f2 : wr.frozen? ⟨g, 2, none⟩ = false := Joins.unfrozen_of_block hbk 2
          have k1 : (wr.setCell ⟨g, 0, none⟩ (.slice none 0 0)).heap[g]? = some (.cells #[.slice none 0 0, M, .int .i64 held, .bool false] 56 (0, 0)) := Joins.block_setCell hbk _
          have k2 : ((wr.setCell ⟨g, 0, none⟩ (.slice none 0 0)).setCell ⟨g, 1, none⟩ (.slice none 0 0)).heap[g]? = some (.cells #[.slice none 0 0, .slice none 0 0, .int .i64 held, .bool false] 56 (0, 0)) := Joins.block_setCell k1 _
          have hm9 := Lib.hid (((hm.setCell hM.ge hbk (.inl rfl) 0 (.slice none 0 0)).setCell hM.ge k1 (.inl rfl) 1 (.slice none 0 0)).setCell hM.ge k2 (.inl rfl) 2 (.int .i64 0))
          clear hrow hM hm hbk k1 k2 hL
          go_wp2
          go_ret
          exact ⟨rfl, hm9.out⟩

end Go.Proofs.YtohcjdninpjpgaaDoor.Own
