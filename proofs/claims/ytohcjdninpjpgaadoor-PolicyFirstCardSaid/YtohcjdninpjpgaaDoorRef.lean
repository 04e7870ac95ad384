/- Plain law: the reference's Cut, Words, Parse, Text and the comparison. -/
import Derived.Test.YtohcjdninpjpgaaDoorInv
import Derived.Test.YtohcjdninpjpgaaDoorPXx4
import Derived.Test.YtohcjdninpjpgaaDoorPXx5
import Derived.Test.YtohcjdninpjpgaaDoorPXx6
namespace Go.Proofs.YtohcjdninpjpgaaDoor.Pl
open Go.RowKit Go.Proofs.YtohcjdninpjpgaaDoor.PX Go.Proofs.YtohcjdninpjpgaaDoor.Own Go.Proofs.YtohcjdninpjpgaaDoorW.PrintWords Go.Proofs.YtohcjdninpjpgaaDoorW.PrintLast Go.Proofs.YtohcjdninpjpgaaDoorW.PrintMore

theorem drop_toL {s : ByteArray} {i : Nat} (h : i < s.size) : (toL s).drop i = (toL s)[i]'(by rw [toL_length]; exact h) :: (toL s).drop (i + 1) := List.drop_eq_getElem_cons _

theorem bt_toL {s : ByteArray} {i : Nat} (h : i < s.size) : bt s (i : Int) = (((toL s)[i]'(by rw [toL_length]; exact h)).toNat : Int) := by
  rw [bt_get s i h]
  unfold bytesOf
  rw [List.getElem_map]

theorem cur_next {s : ByteArray} {st i : Nat} (h : i < s.size) (hs : st ≤ i) : ((toL s).take (i + 1)).drop st = ((toL s).take i).drop st ++ [(toL s)[i]'(by rw [toL_length]; exact h)] := by
  rw [List.take_succ_eq_append_getElem (by rw [toL_length]; exact h), List.drop_append_of_le_length (by rw [List.length_take, toL_length]; omega)]

theorem cut_l0 (s : ByteArray) (c : UInt8) (hs : s.size < 4000000000) : ∀ (d i st : Nat) (out : List ByteArray) (K : Nat), i + d = s.size → st ≤ i → out.length ≤ i → d + 2 ≤ K →
    ∃ L, ostiaryref1_Cut.l0 K s (c.toNat : Int) out (st : Int) (i : Int) = some L ∧ L.map toL = out.map toL ++ spl c (((toL s).take i).drop st) ((toL s).drop i) := by
  intro d
  induction d with
  | zero =>
    intro i st out K hi hst ho hK
    obtain ⟨K, rfl⟩ : ∃ k, K = k + 2 := ⟨K - 2, by omega⟩
    have hw : wrap64 ((i : Int) + 1) = ((i + 1 : Nat) : Int) := by rw [wrap_in (by omega)]; omega
    rw [ostiaryref1_Cut.l0, if_pos (by omega), if_pos (by omega), if_pos (by omega), if_pos (by omega), if_pos (by omega), hw, ostiaryref1_Cut.l0, if_neg (by omega)]
    refine ⟨_, rfl, ?_⟩
    have hd : (toL s).drop i = [] := List.drop_of_length_le (by rw [toL_length]; omega)
    rw [hd, spl, List.map_append, List.map_cons, List.map_nil, Int.toNat_natCast, Int.toNat_natCast, toL_extract]
  | succ d ih =>
    intro i st out K hi hst ho hK
    obtain ⟨K, rfl⟩ : ∃ k, K = k + 1 := ⟨K - 1, by omega⟩
    have hlt : i < s.size := by omega
    have hw : wrap64 ((i : Int) + 1) = ((i + 1 : Nat) : Int) := by rw [wrap_in (by omega)]; omega
    have hb := bt_toL hlt
    rw [ostiaryref1_Cut.l0, if_pos (by omega), if_neg (by omega), if_pos (by omega), if_pos (by omega), hb, hw, drop_toL hlt]
    by_cases e : (toL s)[i]'(by rw [toL_length]; exact hlt) = c
    · have e1 : ((((toL s)[i]'(by rw [toL_length]; exact hlt)).toNat : Nat) : Int) = (c.toNat : Int) := by rw [e]
      rw [if_pos e1, if_pos (by omega), if_pos (by omega), if_pos (by omega)]
      obtain ⟨L, h1, h2⟩ := ih (i + 1) (i + 1) (out ++ [s.extract (st : Int).toNat (i : Int).toNat]) K (by omega) (Nat.le_refl _) (by simp; omega) (by omega)
      refine ⟨L, h1, ?_⟩
      rw [h2, spl, if_pos (by rw [e]; simp), List.map_append, List.map_cons, List.map_nil, Int.toNat_natCast, Int.toNat_natCast, toL_extract, List.append_assoc]
      have : ((toL s).take (i + 1)).drop (i + 1) = [] := List.drop_of_length_le (by rw [List.length_take]; omega)
      rw [this]
      rfl
    · have e1 : ¬ ((((toL s)[i]'(by rw [toL_length]; exact hlt)).toNat : Nat) : Int) = (c.toNat : Int) := fun h => e (UInt8.toNat_inj.1 (by omega))
      rw [if_neg e1]
      obtain ⟨L, h1, h2⟩ := ih (i + 1) st out K (by omega) (by omega) (by omega) (by omega)
      refine ⟨L, h1, ?_⟩
      rw [h2, spl, if_neg (by simpa using e), cur_next hlt hst]

theorem cut_f (s : ByteArray) (c : UInt8) (hs : s.size < 4000000000) (K : Nat) (hK : s.size + 2 ≤ K) : ostiaryref1_Cut.f K s (c.toNat : Int) = some (piecesOf c s) := by
  obtain ⟨L, h1, h2⟩ := cut_l0 s c hs s.size 0 0 [] K (by omega) (Nat.le_refl _) (by simp) hK
  unfold ostiaryref1_Cut.f
  rw [show (0 : Int) = ((0 : Nat) : Int) from rfl, h1]
  have : L = piecesOf c s := toL_inj (by rw [h2, pieces_toL]; simp)
  rw [this]

theorem blank_f (c : UInt8) : ostiaryref1_Blank.f (c.toNat : Int) = some (sp c) := by
  unfold ostiaryref1_Blank.f sp blankP
  have hb : ((c.toNat : Int) == 32) = decide (c.toNat = 32) := by
    rw [Bool.eq_iff_iff, beq_iff_eq, decide_eq_true_eq]
    omega
  by_cases h1 : c.toNat = 9
  · rw [if_pos (by omega)]; simp [h1]
  · rw [if_neg (by omega)]
    by_cases h2 : c.toNat = 10
    · rw [if_pos (by omega)]; simp [h2]
    · rw [if_neg (by omega)]
      by_cases h3 : c.toNat = 12
      · rw [if_pos (by omega)]; simp [h3]
      · rw [if_neg (by omega)]
        by_cases h4 : c.toNat = 13
        · rw [if_pos (by omega)]; simp [h4]
        · rw [if_neg (by omega), hb]
          congr 1
          rw [Bool.eq_iff_iff, decide_eq_true_eq, decide_eq_true_eq]
          omega

theorem cur_isEmpty {s : ByteArray} {st i : Nat} (hi : i ≤ s.size) (hs : st ≤ i) : (((toL s).take i).drop st).isEmpty = decide (st = i) := by
  rw [Bool.eq_iff_iff, List.isEmpty_iff, decide_eq_true_eq]
  constructor
  · intro h
    have := congrArg List.length h
    rw [List.length_drop, List.length_take, toL_length, List.length_nil] at this
    omega
  · rintro rfl
    exact List.drop_of_length_le (by rw [List.length_take]; omega)

theorem words_l0 (s : ByteArray) (hs : s.size < 4000000000) : ∀ (d i st : Nat) (out : List ByteArray) (K : Nat), i + d = s.size → st ≤ i → out.length ≤ i → 2 * d + 3 ≤ K →
    ∃ L, ostiaryref1_Words.l0 K s out (st : Int) (i : Int) = some L ∧ L.map toL = out.map toL ++ wl (((toL s).take i).drop st) ((toL s).drop i) := by
  intro d
  induction d with
  | zero =>
    intro i st out K hi hst ho hK
    obtain ⟨K, rfl⟩ : ∃ k, K = k + 3 := ⟨K - 3, by omega⟩
    have hw : wrap64 ((i : Int) + 1) = ((i + 1 : Nat) : Int) := by rw [wrap_in (by omega)]; omega
    have hd : (toL s).drop i = [] := List.drop_of_length_le (by rw [toL_length]; omega)
    have he := cur_isEmpty (s := s) (i := i) (st := st) (by omega) hst
    rw [ostiaryref1_Words.l0, if_pos (by omega), if_pos (by omega), ostiaryref1_Words.j1, if_pos rfl, hw, hd, wl, he]
    by_cases e : st = i
    · rw [if_neg (by omega), ostiaryref1_Words.l0, if_neg (by omega)]
      exact ⟨_, rfl, by rw [if_pos (decide_eq_true e)]; simp⟩
    · rw [if_pos (by omega), if_pos (by omega), if_pos (by omega), if_pos (by omega), if_pos (by omega), ostiaryref1_Words.l0, if_neg (by omega)]
      refine ⟨_, rfl, ?_⟩
      rw [if_neg (by rw [decide_eq_false e]; exact Bool.false_ne_true), List.map_append, List.map_cons, List.map_nil, Int.toNat_natCast, Int.toNat_natCast, toL_extract]
  | succ d ih =>
    intro i st out K hi hst ho hK
    obtain ⟨K, rfl⟩ : ∃ k, K = k + 2 := ⟨K - 2, by omega⟩
    have hlt : i < s.size := by omega
    have hw : wrap64 ((i : Int) + 1) = ((i + 1 : Nat) : Int) := by rw [wrap_in (by omega)]; omega
    have he := cur_isEmpty (s := s) (i := i) (st := st) (by omega) hst
    have hnil : ((toL s).take (i + 1)).drop (i + 1) = [] := List.drop_of_length_le (by rw [List.length_take]; omega)
    rw [ostiaryref1_Words.l0, if_pos (by omega), if_neg (by omega), if_pos (by omega), if_pos (by omega), bt_toL hlt, blank_f, Option.bind_some, ostiaryref1_Words.j1, hw, drop_toL hlt, wl]
    by_cases hb : sp ((toL s)[i]'(by rw [toL_length]; exact hlt)) = true
    · rw [if_pos hb, if_pos hb, he]
      by_cases e : st = i
      · rw [if_neg (by omega), if_pos (decide_eq_true e)]
        obtain ⟨L, h1, h2⟩ := ih (i + 1) (i + 1) out K (by omega) (Nat.le_refl _) (by omega) (by omega)
        exact ⟨L, h1, by rw [h2, hnil]⟩
      · rw [if_pos (by omega), if_pos (by omega), if_pos (by omega), if_pos (by omega), if_pos (by omega), if_neg (by rw [decide_eq_false e]; exact Bool.false_ne_true)]
        obtain ⟨L, h1, h2⟩ := ih (i + 1) (i + 1) (out ++ [s.extract (st : Int).toNat (i : Int).toNat]) K (by omega) (Nat.le_refl _) (by simp; omega) (by omega)
        refine ⟨L, h1, ?_⟩
        rw [h2, hnil, List.map_append, List.map_cons, List.map_nil, Int.toNat_natCast, Int.toNat_natCast, toL_extract, List.append_assoc]
        rfl
    · rw [if_neg hb, if_neg hb]
      obtain ⟨L, h1, h2⟩ := ih (i + 1) st out K (by omega) (by omega) (by omega) (by omega)
      exact ⟨L, h1, by rw [h2, cur_next hlt hst]⟩

theorem rwords_f (s : ByteArray) (hs : s.size < 4000000000) (K : Nat) (hK : 2 * s.size + 3 ≤ K) : ostiaryref1_Words.f K s = some (wordsOf s) := by
  obtain ⟨L, h1, h2⟩ := words_l0 s hs s.size 0 0 [] K (by omega) (Nat.le_refl _) (by simp) hK
  unfold ostiaryref1_Words.f
  rw [show (0 : Int) = ((0 : Nat) : Int) from rfl, h1]
  have : L = wordsOf s := toL_inj (by rw [h2, words_toL]; simp)
  rw [this]

/-! ### Parse -/

def cv (x : S52) : S69 := ⟨x.f0, x.f1⟩

theorem rd69_at {l : List S69} {i : Nat} (h : i < l.length) : rd_T69 l (i : Int) = l[i] := by
  unfold rd_T69
  rw [Int.toNat_natCast, List.getD_eq_getElem?_getD, List.getElem?_eq_getElem h]
  rfl

theorem rparse_l1 (ps : List ByteArray) (i : Int) (ws : List ByteArray) (name : ByteArray) (rep : Bool) (rules : List S52) (hl : rules.length ≤ 32) (hw1 : 1 ≤ ws.length) (K : Nat) : ∀ (d j : Nat) (found : Bool), j + d = rules.length →
    ostiaryref10_Parse.l1 (K + d + 1) ps i ws name found (j : Int) (rules.map cv) rep =
      if (found || (rules.drop j).any (fun x => x.f0.toList == name.toList)) = true then ostiaryref10_Parse.l0 K ps (wrap64 (i + 1)) (rules.map cv) rep else ostiaryref10_Parse.l0 K ps (wrap64 (i + 1)) ((rules ++ [(⟨name, ws.drop 1⟩ : S52)]).map cv) rep := by
  intro d
  induction d with
  | zero =>
    intro j found hj
    have hd : rules.drop j = [] := List.drop_of_length_le (by omega)
    rw [ostiaryref10_Parse.l1, List.length_map, if_neg (by omega), hd]
    cases found with
    | true => simp
    | false =>
      rw [if_neg Bool.false_ne_true, if_pos (by omega), if_pos (by omega)]
      simp [cv]
  | succ d ih =>
    intro j found hj
    have hlt : j < rules.length := by omega
    have hw : wrap64 ((j : Int) + 1) = ((j + 1 : Nat) : Int) := by rw [wrap_in (by omega)]; omega
    have hd : rules.drop j = rules[j] :: rules.drop (j + 1) := List.drop_eq_getElem_cons hlt
    rw [show K + (d + 1) + 1 = (K + d + 1) + 1 by omega, ostiaryref10_Parse.l1, List.length_map, if_pos (by omega), hw, hd]
    cases found with
    | true =>
      rw [if_pos rfl, ih (j + 1) true (by omega)]
      simp
    | false =>
      rw [if_neg Bool.false_ne_true, if_pos (by omega), rd69_at (by rw [List.length_map]; exact hlt), List.getElem_map, ih (j + 1) _ (by omega), Bool.false_or, List.any_cons]
      rfl

theorem any_rule (name : ByteArray) (l : List S52) : (l.any fun x => x.f0.toList == name.toList) = !decide (ruleFrom name l 0 < 0) := by
  rcases ruleFrom_cases name l 0 with ⟨h1, h2⟩ | ⟨h1, _, x, hx, h2⟩
  · rw [h1]
    have : (l.any fun x => x.f0.toList == name.toList) = false := by
      rw [List.any_eq_false]
      intro x hx e
      exact h2 x hx (data_inj (by rw [← toList_data, ← toList_data]; simpa using e))
    rw [this]
    rfl
  · rw [decide_eq_false (by omega), List.any_eq_true.2 ⟨x, hx, by rw [h2]; simp⟩]
    rfl

theorem fold_full : ∀ (ps : List ByteArray) (acc : List S52), 32 ≤ acc.length → ps.foldl addR acc = acc
  | [], _, _ => rfl
  | p :: r, acc, h => by
    have e : addR acc p = acc := by
      unfold addR
      split
      · rfl
      · rw [if_pos h]
    rw [List.foldl_cons, e, fold_full r acc h]

theorem rparse_l0 (rep : Bool) (ps : List ByteArray) (M : Nat) (hn : ps.length < 4000000000) (hs : ∀ p ∈ ps, p.size ≤ M) (hM : M < 90000000) : ∀ (d i : Nat) (acc : List S52) (K : Nat), i + d = ps.length → 40 * d + 2 * M + 10 ≤ K → acc.length ≤ 32 →
    ostiaryref10_Parse.l0 K ps (i : Int) (acc.map cv) rep = some (((ps.drop i).foldl addR acc).map cv, rep) := by
  intro d
  induction d with
  | zero =>
    intro i acc K hi hK hacc
    obtain ⟨K, rfl⟩ : ∃ k, K = k + 2 := ⟨K - 2, by omega⟩
    rw [ostiaryref10_Parse.l0, if_neg (by omega), ostiaryref10_Parse.j1, if_neg Bool.false_ne_true, List.drop_of_length_le (by omega)]
    rfl
  | succ d ih =>
    intro i acc K hi hK hacc
    obtain ⟨K, rfl⟩ : ∃ k, K = k + 2 := ⟨K - 2, by omega⟩
    have hlt : i < ps.length := by omega
    have hw : wrap64 ((i : Int) + 1) = ((i + 1 : Nat) : Int) := by rw [wrap_in (by omega)]; omega
    have hrd : rdOf ByteArray.empty ps (i : Int) = ps[i] := by
      unfold rdOf
      rw [Int.toNat_natCast, List.getD_eq_getElem?_getD, List.getElem?_eq_getElem hlt]
      rfl
    have hp := hs ps[i] (List.getElem_mem hlt)
    have hdrop : ps.drop i = ps[i] :: ps.drop (i + 1) := List.drop_eq_getElem_cons hlt
    rw [ostiaryref10_Parse.l0, if_pos (by omega), ostiaryref10_Parse.j1, List.length_map]
    by_cases h32 : 32 ≤ acc.length
    · rw [if_neg (by simp <;> omega), fold_full _ _ h32]
    · rw [if_pos (by simp; omega), if_pos (by omega), if_pos (by omega), hrd, rwords_f ps[i] (by omega) K (by omega), Option.bind_some, hdrop, List.foldl_cons]
      cases hws : wordsOf ps[i] with
      | nil =>
        have e : addR acc ps[i] = acc := by unfold addR; rw [hws]
        rw [e, if_pos (by simp), hw]
        exact ih (i + 1) acc K (by omega) (by omega) hacc
      | cons n vs =>
        have hns : n.size < 100000000 := by
          have := word_size ps[i] n (by rw [hws]; exact List.mem_cons_self)
          omega
        have hlo : ostiaryref1_Lower.f n = some (lowS n) := by unfold ostiaryref1_Lower.f; rw [if_pos hns]; rfl
        have hr0 : rdOf ByteArray.empty (n :: vs) 0 = n := rfl
        obtain ⟨J, rfl⟩ : ∃ J, K = J + acc.length + 1 := ⟨K - acc.length - 1, by omega⟩
        have h1 := rparse_l1 ps (i : Int) (n :: vs) (lowS n) rep acc hacc (by simp) J acc.length 0 false (by omega)
        rw [if_neg (by simp <;> omega), if_pos (by simp <;> omega), hr0, hlo, Option.bind_some]
        rw [show ((0 : Nat) : Int) = 0 from rfl, Bool.false_or, List.drop_zero, any_rule, hw] at h1
        rw [h1]
        by_cases hneg : ruleFrom (lowS n) acc 0 < 0
        · have e : addR acc ps[i] = acc ++ [⟨lowS n, vs⟩] := by unfold addR; rw [hws]; simp only; rw [if_neg h32, if_pos hneg]
          rw [e, decide_eq_true hneg, if_neg (by decide)]
          exact ih (i + 1) _ J (by omega) (by omega) (by simp; omega)
        · have e : addR acc ps[i] = acc := by unfold addR; rw [hws]; simp only; rw [if_neg h32, if_neg hneg]
          rw [e, decide_eq_false hneg, if_pos (by decide)]
          exact ih (i + 1) acc J (by omega) (by omega) hacc

theorem rparse_f (s : ByteArray) (rep : Bool) (hs : s.size < 90000000) (K : Nat) (hK : 50 * s.size + 100 ≤ K) : ostiaryref10_Parse.f K s rep = some ((parseS s).map cv, rep) := by
  have hl := pieces_length 59 s
  unfold ostiaryref10_Parse.f
  rw [show (59 : Int) = ((59 : UInt8).toNat : Int) from rfl, cut_f s 59 (by omega) K (by omega), Option.bind_some]
  have := rparse_l0 rep (piecesOf 59 s) s.size (by omega) (fun p hp => (piece_le 59 s p hp).1) hs (piecesOf 59 s).length 0 [] K (by omega) (by omega) (by simp)
  rw [List.drop_zero] at this
  exact this

/-! ### the comparison -/

theorem sameS_l0 (l : List ByteArray) (hl : l.length < 4000000000) : ∀ (d i K : Nat), i + d = l.length → d + 1 ≤ K → ostiarybook_Same_string.l0 K l l (i : Int) = some true := by
  intro d
  induction d with
  | zero =>
    intro i K hi hK
    obtain ⟨K, rfl⟩ : ∃ k, K = k + 1 := ⟨K - 1, by omega⟩
    rw [ostiarybook_Same_string.l0, if_neg (by omega)]
  | succ d ih =>
    intro i K hi hK
    obtain ⟨K, rfl⟩ : ∃ k, K = k + 1 := ⟨K - 1, by omega⟩
    have hw : wrap64 ((i : Int) + 1) = ((i + 1 : Nat) : Int) := by rw [wrap_in (by omega)]; omega
    rw [ostiarybook_Same_string.l0, if_pos (by omega), if_pos (by omega), if_pos (by omega), if_pos rfl, hw]
    exact ih (i + 1) K (by omega) (by omega)

theorem sameS_f (l : List ByteArray) (hl : l.length < 4000000000) (K : Nat) (hK : l.length + 1 ≤ K) : ostiarybook_Same_string.f K l l = some true := by
  unfold ostiarybook_Same_string.f
  rw [if_pos rfl]
  exact sameS_l0 l hl l.length 0 K (by omega) hK

theorem same_l0 (l : List S52) (L : Nat) (hl : l.length < 4000000000) (hv : ∀ x ∈ l, x.f1.length ≤ L) (hL : L < 4000000000) (a b : Bool) : ∀ (d i K : Nat), i + d = l.length → d + L + 2 ≤ K → ostiarylaw10_same.l0 K (i : Int) l a (l.map cv) b = some true := by
  intro d
  induction d with
  | zero =>
    intro i K hi hK
    obtain ⟨K, rfl⟩ : ∃ k, K = k + 1 := ⟨K - 1, by omega⟩
    rw [ostiarylaw10_same.l0, if_neg (by omega)]
  | succ d ih =>
    intro i K hi hK
    obtain ⟨K, rfl⟩ : ∃ k, K = k + 1 := ⟨K - 1, by omega⟩
    have hlt : i < l.length := by omega
    have hw : wrap64 ((i : Int) + 1) = ((i + 1 : Nat) : Int) := by rw [wrap_in (by omega)]; omega
    have h1 := hv l[i] (List.getElem_mem hlt)
    rw [ostiarylaw10_same.l0, List.length_map, if_pos (by omega), if_pos (by omega), if_pos (by omega), rd_at hlt, rd69_at (by rw [List.length_map]; exact hlt), List.getElem_map, if_pos (show l[i].f0.toList = (cv l[i]).f0.toList from rfl)]
    rw [show (cv l[i]).f1 = l[i].f1 from rfl, sameS_f l[i].f1 (by omega) K (by omega), Option.bind_some, if_pos rfl, hw]
    exact ih (i + 1) K (by omega) (by omega)

theorem same_f (l : List S52) (L : Nat) (hl : l.length < 4000000000) (hv : ∀ x ∈ l, x.f1.length ≤ L) (hL : L < 4000000000) (a : Bool) (K : Nat) (hK : l.length + L + 3 ≤ K) : ostiarylaw10_same.f K l a (l.map cv) a = some true := by
  obtain ⟨K, rfl⟩ : ∃ k, K = k + 1 := ⟨K - 1, by omega⟩
  unfold ostiarylaw10_same.f
  rw [if_neg (by simp), List.length_map, ostiarylaw10_same.j0, if_neg (by simp)]
  exact same_l0 l L hl hv hL a a l.length 0 K (by omega) (by omega)

end Go.Proofs.YtohcjdninpjpgaaDoor.Pl
