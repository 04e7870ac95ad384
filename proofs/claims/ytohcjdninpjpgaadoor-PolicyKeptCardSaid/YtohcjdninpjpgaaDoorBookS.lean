/- A book of lists of texts: each list is as it was. -/
import Derived.Test.YtohcjdninpjpgaaDoorBook
import Derived.Test.YtohcjdninpjpgaaDoorSameS
import Derived.Deep.RegionHeld3
import Derived.Lib.Hide
namespace Go.Proofs.YtohcjdninpjpgaaDoor.Own
open Go.RowKit Go.Proofs.YtohcjdninpjpgaaDoorW.PrintWords Go.Proofs.YtohcjdninpjpgaaDoor.PX

abbrev TextBook := BookAt (α := ByteArray) (Value.string) 56 22 9

/-- What owns a row reads as it. -/
theorem reads_row {w : World} {base : Nat} {v : Value} {xs : List ByteArray} (h : w.ownsRow base 9 1 v xs.length (xs.map (Value.string))) : ∃ A c, v = .slice A xs.length c ∧ xs.length ≤ c ∧ c ≤ maxLen ∧ (Kd.string).C w A xs.length xs := by
  obtain ⟨A, c, hv, hr⟩ := own_reads_row h (Kd.reps_scalar (enc := Value.string) xs) rfl
  subst hv
  have hc : xs.length ≤ c ∧ c ≤ maxLen := by
    rcases h.2 with ⟨he, hn⟩ | ⟨g, cap, cur, he, _, _, h1, h2, _⟩
    · simp only [Value.slice.injEq] at he
      obtain ⟨_, _, rfl⟩ := he
      exact ⟨by omega, Nat.zero_le _⟩
    · simp only [Value.slice.injEq] at he
      obtain ⟨_, _, rfl⟩ := he
      exact ⟨h1, h2⟩
  exact ⟨A, c, rfl, hc.1, hc.2, hr⟩

theorem same_drawn (A B : Option Addr) (c d : Nat) (l : List ByteArray) (hl : l.length < 100000000) (w : World) (hA : (Kd.string).C w A l.length l) (hc : l.length ≤ c) (hB : (Kd.string).C w B l.length l) (hd : l.length ≤ d) :
    Calls Tryd.prog 8 #[.slice A l.length c, .slice B l.length d] w fun e w' => e = .returned (.bool true) ∧ Drawn0 w w' := by
  exact ostiarybook_Same_string.calls (l.length + 1) A c l B d l _ w hA hc hB hd (sameT_f l (by omega) _ (Nat.le_refl _))

/-- To store what is there changes nothing. -/
theorem setCell_same (w : World) (g j : Nat) (cs : Array Value) (t : TypeId) (fr : Nat × Nat) (v : Value) (hg : w.heap[g]? = some (.cells cs t fr)) (hv : cs[j]? = some v) : w.setCell ⟨g, j, none⟩ v = w := by
  have hcs : cs.setIfInBounds j v = cs := by
    refine Array.ext_getElem? fun i => ?_
    by_cases e : i = j
    · subst e
      rw [Array.getElem?_setIfInBounds_self_of_lt (Array.getElem?_eq_some_iff.1 hv).1, hv]
    · rw [Array.getElem?_setIfInBounds_ne (fun h => e h.symm)]
  have hh : (w.setCell ⟨g, j, none⟩ v).heap = w.heap := by
    refine Array.ext_getElem? fun i => ?_
    by_cases e : i = g
    · subst e
      rw [Joins.block_setCell hg v, hcs, hg]
    · exact Below.heap_setCell w ⟨g, j, none⟩ v i e
  show { w with heap := (w.setCell ⟨g, j, none⟩ v).heap } = w
  rw [hh]

theorem drawn_heap {w w1 : World} (h : Drawn0 w w1) : w1.heap = w.heap := by
  obtain ⟨n, rfl⟩ := h
  exact World.heap_drewN w n

theorem drawn_cell {w w1 : World} (h : Drawn0 w w1) (a : Addr) : w1.cell? a = w.cell? a := by
  unfold World.cell?
  rw [drawn_heap h]

theorem drawn_below {w w1 : World} (h : Drawn0 w w1) : Below w.heap.size w w1 := h.below

theorem drawn_trans {w w1 w2 : World} (h : Drawn0 w w1) (h2 : Drawn0 w1 w2) : Drawn0 w w2 := by
  obtain ⟨n, rfl⟩ := h2
  exact h.step n

theorem drawn_one {w w1 : World} (h : Drawn0 w w1) : Drawn0 w w1.drew := drawn_trans h ⟨1, rfl⟩

/-- The lists, and what they were, at place i. -/
theorem book_at {w : World} {base g : Nat} {L M : Value} {held : Int} {rows : List (Value × List ByteArray)} {copies : List Value} (h : TextBook w base g L M held rows copies) :
    ∃ La Lc Ma Mc, L = .slice La rows.length Lc ∧ M = .slice Ma rows.length Mc ∧ rows.length ≤ Lc ∧ rows.length ≤ Mc ∧ Lc ≤ maxLen ∧ Mc ≤ maxLen ∧
      (0 < rows.length → ∃ gl ol gm om, La = some ⟨gl, ol, none⟩ ∧ Ma = some ⟨gm, om, none⟩ ∧ ∀ i, i < rows.length → ∃ v xs c, rows[i]? = some (v, xs) ∧ copies[i]? = some c ∧
        w.cell? ⟨gl, ol + i, none⟩ = some v ∧ w.cell? ⟨gm, om + i, none⟩ = some c ∧ w.ownsRow base 9 1 v xs.length (xs.map (Value.string)) ∧ w.ownsRow base 9 1 c xs.length (xs.map (Value.string)) ∧ xs.length ≤ 1000000) := by
  obtain ⟨La, Lc, hL, h1, h2, h3⟩ := h.lists.cell
  obtain ⟨Ma, Mc, hM, h4, h5, h6⟩ := h.was.cell
  rw [List.length_map] at hL h1 h3
  rw [h.len] at hM h4 h6
  refine ⟨La, Lc, Ma, Mc, hL, hM, h1, h4, h2, h5, fun hp => ?_⟩
  obtain ⟨gl, ol, hLa, hl⟩ := h3 hp
  obtain ⟨gm, om, hMa, hm⟩ := h6 hp
  refine ⟨gl, ol, gm, om, hLa, hMa, fun i hi => ?_⟩
  have hr : rows[i]? = some rows[i] := List.getElem?_eq_getElem hi
  have hi' : i < copies.length := by rw [h.len]; exact hi
  have hc : copies[i]? = some copies[i] := List.getElem?_eq_getElem hi'
  exact ⟨_, _, _, hr, hc, hl i _ (by rw [List.getElem?_map, hr]; rfl), hm i _ hc, h.made _ (List.getElem_mem hi), h.olds i _ _ hr hc, h.small _ (List.getElem_mem hi)⟩

set_option maxRecDepth 100000 in
set_option maxHeartbeats 4000000 in
theorem stays_any {w : World} {base g : Nat} {L M : Value} {held : Int} {rows : List (Value × List ByteArray)} {copies : List Value} (h : TextBook w base g L M held rows copies) :
    Calls Tryd.prog 40 #[.pointer (some ⟨g, 0, none⟩)] w fun e w' => e = .returned (.bool true) ∧ Drawn0 w w' := by
  obtain ⟨La, Lc, Ma, Mc, rfl, rfl, hLc, hMc, hLm, hMm, hat⟩ := book_at h
  have hbook := h.book
  clear h
  unfold maxLen at hLm hMm
  generalize rows.length = n at *
  have HAT := Lib.hid hat
  clear hat
  go_enter Tryd.func40, Tryd.ntmps40
  go_wp2
  go_loopw [3] (fun v wr => ∃ i : Nat, i ≤ n ∧ v = .int .i64 i ∧ Drawn0 w wr) (fun v _ => n - (intOf v).toNat)
  case atStart => exact ⟨0, by omega, rfl, Drawn0.refl w⟩
  case round =>
    obtain ⟨i, hi, rfl, hd⟩ := hrel
    have c0 : wr.cell? ⟨g, 0, none⟩ = some (.slice La n Lc) := by rw [drawn_cell hd, Joins.cell_of_block hbook]; rfl
    have c1 : wr.cell? ⟨g, 1, none⟩ = some (.slice Ma n Mc) := by rw [drawn_cell hd, Joins.cell_of_block hbook]; rfl
    have c3 : wr.cell? ⟨g, 3, none⟩ = some (.bool false) := by rw [drawn_cell hd, Joins.cell_of_block hbook]; rfl
    by_cases hlt : i < n
    · obtain ⟨gl, ol, gm, om, rfl, rfl, hrow⟩ := HAT.out (by omega)
      obtain ⟨v, xs, c, -, -, cv, cc, ov, oc, hxs⟩ := hrow i hlt
      clear hrow HAT
      obtain ⟨A, ca, rfl, hA, -, rA⟩ := reads_row ov
      obtain ⟨B, cb, rfl, hB, -, rB⟩ := reads_row oc
      have rA1 := Kd.C_below rA (drawn_below hd)
      have rB1 := Kd.C_below rB (drawn_below hd)
      have d0 : wr.cell? ⟨gl, ol + i, none⟩ = some (.slice A xs.length ca) := by rw [drawn_cell hd]; exact cv
      have d1 : wr.cell? ⟨gm, om + i, none⟩ = some (.slice B xs.length cb) := by rw [drawn_cell hd]; exact cc
      have fz : wr.frozen? ⟨g, 3, none⟩ = false := by
        have : wr.heap[g]? = w.heap[g]? := by rw [drawn_heap hd]
        exact Joins.unfrozen_of_block (this.trans hbook) 3
      have hset : ∀ W, Drawn0 wr W → W.setCell ⟨g, 3, none⟩ (.bool false) = W := fun W hW => setCell_same W g 3 _ 56 (0, 0) _ (by rw [drawn_heap hW, drawn_heap hd]; exact hbook) rfl
      have hfz : ∀ W, Drawn0 wr W → W.frozen? ⟨g, 3, none⟩ = false := fun W hW => by
        have : W.heap[g]? = w.heap[g]? := by rw [drawn_heap hW, drawn_heap hd]
        exact Joins.unfrozen_of_block (this.trans hbook) 3
      have hsame : ∀ W, Drawn0 wr W → Calls Tryd.prog 8 #[.slice A xs.length ca, .slice B xs.length cb] W fun e w' => e = .returned (.bool true) ∧ Drawn0 W w' := fun W hW =>
        same_drawn A B ca cb xs (by omega) W (Kd.C_below rA1 (drawn_below hW)) hA (Kd.C_below rB1 (drawn_below hW)) hB
      have I0 : (0 : Int) ≤ (i : Int) := by omega
      have I1 : (i : Int) < (n : Int) := by omega
      have hold : ∀ W, Drawn0 wr W → W.cell? ⟨g, 0, none⟩ = some (.slice (some ⟨gl, ol, none⟩) n Lc) ∧ W.cell? ⟨g, 1, none⟩ = some (.slice (some ⟨gm, om, none⟩) n Mc) ∧ W.cell? ⟨g, 3, none⟩ = some (.bool false) ∧
          W.cell? ⟨gl, ol + i, none⟩ = some (.slice A xs.length ca) ∧ W.cell? ⟨gm, om + i, none⟩ = some (.slice B xs.length cb) ∧ W.frozen? ⟨g, 3, none⟩ = false ∧ Drawn0 wr W := fun W hW =>
        ⟨by rw [drawn_cell hW]; exact c0, by rw [drawn_cell hW]; exact c1, by rw [drawn_cell hW]; exact c3, by rw [drawn_cell hW]; exact d0, by rw [drawn_cell hW]; exact d1, hfz W hW, hW⟩
      have HO := Lib.hid hold
      have HSE := Lib.hid hset
      have HSA := Lib.hid hsame
      have HD := Lib.hid hd
      clear hold hset hsame hd rA rB rA1 rB1 ov oc cv cc hbook hfz fz hA hB c1 c3 d0 d1
      go_wp2_with fail
      clear c0
      go_region_held3 (fun W => W.cell? ⟨g, 0, none⟩ = some (.slice (some ⟨gl, ol, none⟩) n Lc) ∧ W.cell? ⟨g, 1, none⟩ = some (.slice (some ⟨gm, om, none⟩) n Mc) ∧ W.cell? ⟨g, 3, none⟩ = some (.bool false) ∧
          W.cell? ⟨gl, ol + i, none⟩ = some (.slice A xs.length ca) ∧ W.cell? ⟨gm, om + i, none⟩ = some (.slice B xs.length cb) ∧ W.frozen? ⟨g, 3, none⟩ = false ∧ Drawn0 wr W)
        (first
          | exact HO.out _ (drawn_one (Drawn0.refl _))
          | (go_split_ands; exact HO.out _ (drawn_trans (by assumption) hs))
          | (go_split_ands; rw [HSE.out _ (by assumption)]; exact HO.out _ (by assumption)))
        (first
          | (go_at_call 8; refine (HSA.out _ (by go_split_ands; assumption)).mono ?_; rintro e w' ⟨rfl, hs⟩))
      go_split_ands
      rename_i hz
      have HF := Lib.hid (drawn_trans HD.out hz)
      clear hz HO HSE HSA HD hs
      go_wp2
      refine ⟨⟨i + 1, by omega, by go_num, HF.out⟩, by simp [intOf]; omega⟩
    · go_wp2
      go_ret
      exact ⟨rfl, hd⟩

end Go.Proofs.YtohcjdninpjpgaaDoor.Own
