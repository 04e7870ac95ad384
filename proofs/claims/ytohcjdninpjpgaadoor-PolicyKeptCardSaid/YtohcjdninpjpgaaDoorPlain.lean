/- Plain law: words and pieces of a text, as lists of bytes. -/
import Derived.Test.YtohcjdninpjpgaaDoorCpolicywords
import Derived.Test.YtohcjdninpjpgaaDoorCstringsSplit
import Derived.Test.YtohcjdninpjpgaaDoorCstringsJoin
import Derived.Lib.MapLaws
import Derived.Lib.TrimUEq
import Derived.Lib.SplitLaws
namespace Go.Proofs.YtohcjdninpjpgaaDoor.Pl
open Go.RowKit Go.Proofs.YtohcjdninpjpgaaDoor.Own Go.Proofs.YtohcjdninpjpgaaDoorW.PrintWords Go.Proofs.YtohcjdninpjpgaaDoorW.PrintLast Go.Proofs.YtohcjdninpjpgaaDoorW.PrintMore

abbrev toL (s : ByteArray) : List UInt8 := s.data.toList

def sp (c : UInt8) : Bool := blankP c.toNat

def wl : List UInt8 → List UInt8 → List (List UInt8)
  | cur, [] => if cur.isEmpty then [] else [cur]
  | cur, c :: r => if sp c then (if cur.isEmpty then wl [] r else cur :: wl [] r) else wl (cur ++ [c]) r

theorem wl_take : ∀ (K : Nat) (cur l : List UInt8), (∀ c ∈ l.take K, sp c = false) → wl cur l = wl (cur ++ l.take K) (l.drop K)
  | 0, cur, l, _ => by simp
  | K + 1, cur, [], _ => by simp
  | K + 1, cur, c :: r, h => by
    have hc : sp c = false := h c (by simp)
    rw [wl, hc, if_neg Bool.false_ne_true, wl_take K (cur ++ [c]) r (fun x hx => h x (by simp [hx]))]
    simp

theorem big_sp {c : UInt8} (h : 128 ≤ c.toNat) : sp c = false := by
  unfold sp blankP
  exact decide_eq_false (by omega)

theorem take_of {l : List UInt8} {K : Nat} {P : UInt8 → Prop} (h : ∀ i, i < K → i < l.length → P (l.getD i 0)) : ∀ c ∈ l.take K, P c := by
  intro c hc
  obtain ⟨i, hi, rfl⟩ := List.getElem_of_mem hc
  rw [List.length_take] at hi
  have := h i (by omega) (by omega)
  rw [List.getD_eq_getElem?_getD, List.getElem?_eq_getElem (by omega)] at this
  simpa using this

theorem decode_step (s : ByteArray) (pos : Nat) :
    1 ≤ (Utf8.decode s pos).2 ∧ ((blankP (Utf8.decode s pos).1 = true ∧ (Utf8.decode s pos).2 = 1 ∧ sp ((toL s).getD pos 0) = true) ∨
      (blankP (Utf8.decode s pos).1 = false ∧ ∀ c ∈ ((toL s).drop pos).take (Utf8.decode s pos).2, sp c = false)) := by
  have hN := Lib.decode_N s pos
  obtain ⟨b0, hb0⟩ : ∃ b0, ((toL s).getD pos 0).toNat = b0 := ⟨_, rfl⟩
  obtain ⟨b1, hb1⟩ : ∃ b1, ((toL s).getD (pos + 1) 0).toNat = b1 := ⟨_, rfl⟩
  obtain ⟨b2, hb2⟩ : ∃ b2, ((toL s).getD (pos + 2) 0).toNat = b2 := ⟨_, rfl⟩
  obtain ⟨b3, hb3⟩ : ∃ b3, ((toL s).getD (pos + 3) 0).toNat = b3 := ⟨_, rfl⟩
  rw [hb0, hb1, hb2, hb3] at hN
  have hg : ∀ i, ((toL s).drop pos).getD i 0 = (toL s).getD (pos + i) 0 := fun i => Lib.getD_dropU _ _ _
  by_cases ha : b0 < 128
  · rw [Lib.decodeN_ascii _ _ _ _ _ ha] at hN
    rw [hN]
    refine ⟨Nat.le_refl _, ?_⟩
    have hs : sp ((toL s).getD pos 0) = blankP b0 := by unfold sp; rw [hb0]
    cases hp : blankP b0 with
    | true => exact .inl ⟨rfl, rfl, by rw [hs]; exact hp⟩
    | false =>
      refine .inr ⟨rfl, take_of fun i hi _ => ?_⟩
      have : i = 0 := by have : i < 1 := hi; omega
      subst this
      rw [hg, Nat.add_zero, hs]
      exact hp
  · have h0 : sp ((toL s).getD pos 0) = false := big_sp (by rw [hb0]; omega)
    have big : ∀ b, 128 ≤ b → blankP b = false := fun b hb => decide_eq_false (by omega)
    rcases Lib.decodeN_shape ((toL s).length - pos) b0 b1 b2 b3 with ⟨h1, _⟩ | ⟨_, _, h1, hr, e⟩ | ⟨_, _, h1, h2, hr, _, e⟩ | ⟨_, _, h1, h2, h3, hr, _, e⟩ | e
    · exact absurd h1 ha
    · rw [e] at hN
      rw [hN]
      refine ⟨by simp, .inr ⟨big _ hr, take_of fun i hi _ => ?_⟩⟩
      rw [hg]
      rcases (by have : i < 2 := hi; omega : i = 0 ∨ i = 1) with rfl | rfl
      · exact h0
      · exact big_sp (by rw [hb1]; omega)
    · rw [e] at hN
      rw [hN]
      refine ⟨by simp, .inr ⟨big _ (by simp only; omega), take_of fun i hi _ => ?_⟩⟩
      rw [hg]
      rcases (by have : i < 3 := hi; omega : i = 0 ∨ i = 1 ∨ i = 2) with rfl | rfl | rfl
      · exact h0
      · exact big_sp (by rw [hb1]; omega)
      · exact big_sp (by rw [hb2]; omega)
    · rw [e] at hN
      rw [hN]
      refine ⟨by simp, .inr ⟨big _ (by simp only; omega), take_of fun i hi _ => ?_⟩⟩
      rw [hg]
      rcases (by have : i < 4 := hi; omega : i = 0 ∨ i = 1 ∨ i = 2 ∨ i = 3) with rfl | rfl | rfl | rfl
      · exact h0
      · exact big_sp (by rw [hb1]; omega)
      · exact big_sp (by rw [hb2]; omega)
      · exact big_sp (by rw [hb3]; omega)
    · rw [e] at hN
      rw [hN]
      refine ⟨Nat.le_refl _, .inr ⟨by decide, take_of fun i hi _ => ?_⟩⟩
      have : i = 0 := by have : i < 1 := hi; omega
      subst this
      rw [hg, Nat.add_zero]
      exact h0

theorem isE {l : List UInt8} (h : l ≠ []) : ¬ (l.isEmpty = true) := fun e => h (List.isEmpty_iff.1 e)

theorem toL_extract (s : ByteArray) (i j : Nat) : toL (s.extract i j) = ((toL s).take j).drop i := by
  simp [toL, ByteArray.data_extract, List.drop_take]

theorem toL_length (s : ByteArray) : (toL s).length = s.size := by rw [toL, Array.length_toList]; rfl

def curOf (s : ByteArray) (pos : Nat) : Option Nat → List UInt8
  | none => []
  | some a => ((toL s).take pos).drop a

theorem spans_step (s : ByteArray) : ∀ (f pos : Nat) (st : Option Nat) (acc : List (Nat × Nat)), s.size ≤ pos + f → (∀ a, st = some a → a < pos ∧ a < s.size) →
    (Lib.closeSpans s (Lib.spansFromP blankP s f pos st acc)).map (fun x => toL (s.extract x.1 x.2)) = acc.map (fun x => toL (s.extract x.1 x.2)) ++ wl (curOf s pos st) ((toL s).drop pos) := by
  intro f
  induction f with
  | zero =>
    intro pos st acc hf hst
    have hd : (toL s).drop pos = [] := List.drop_of_length_le (by rw [toL_length]; omega)
    rw [hd]
    unfold Lib.spansFromP Lib.closeSpans
    cases st with
    | none => simp [curOf, wl]
    | some a =>
      obtain ⟨h1, h2⟩ := hst a rfl
      have hne : ((toL s).take pos).drop a ≠ [] := by
        intro e
        have := congrArg List.length e
        rw [List.length_drop, List.length_take, toL_length] at this
        simp at this
        omega
      have e1 : (toL s).take pos = toL s := List.take_of_length_le (by rw [toL_length]; omega)
      have e2 : (toL s).take s.size = toL s := List.take_of_length_le (by rw [toL_length]; omega)
      show (acc ++ [(a, s.size)]).map (fun x => toL (s.extract x.1 x.2)) = _ ++ wl (((toL s).take pos).drop a) []
      rw [wl, if_neg (isE hne), List.map_append, List.map_cons, List.map_nil, toL_extract, e1, e2]
  | succ f ih =>
    intro pos st acc hf hst
    unfold Lib.spansFromP
    by_cases hp : pos < s.size
    · rw [if_pos hp]
      obtain ⟨hK, hc⟩ := decode_step s pos
      obtain ⟨r, K, hd⟩ : ∃ r K, Utf8.decode s pos = (r, K) := ⟨_, _, rfl⟩
      rw [hd] at hK hc ⊢
      simp only at hK hc ⊢
      have hcons : (toL s).drop pos = (toL s).getD pos 0 :: (toL s).drop (pos + 1) := by
        rw [List.drop_eq_getElem_cons (by rw [toL_length]; exact hp), List.getD_eq_getElem?_getD, List.getElem?_eq_getElem (by rw [toL_length]; exact hp)]
        rfl
      rcases hc with ⟨hb, rfl, hs⟩ | ⟨hb, hs⟩
      · rw [if_pos hb]
        cases st with
        | none =>
          simp only
          rw [ih (pos + 1) none acc (by omega) (fun a h => nomatch h), hcons]
          show _ = _ ++ wl [] (_ :: _)
          rw [wl, if_pos hs]
          rfl
        | some a =>
          obtain ⟨h1, h2⟩ := hst a rfl
          simp only
          rw [ih (pos + 1) none _ (by omega) (fun a h => nomatch h), hcons]
          have hne : ((toL s).take pos).drop a ≠ [] := by
            intro e
            have := congrArg List.length e
            rw [List.length_drop, List.length_take, toL_length] at this
            simp at this
            omega
          have hw : wl (((toL s).take pos).drop a) ((toL s).getD pos 0 :: (toL s).drop (pos + 1)) = ((toL s).take pos).drop a :: wl [] ((toL s).drop (pos + 1)) := by
            rw [wl, if_pos hs, if_neg (isE hne)]
          simp only [curOf]
          rw [hw, List.map_append, List.map_cons, List.map_nil, toL_extract, List.append_assoc]
          rfl
      · rw [if_neg (by rw [hb]; exact Bool.false_ne_true)]
        have hdd : ((toL s).drop pos).drop K = (toL s).drop (pos + K) := by rw [List.drop_drop]
        cases st with
        | none =>
          simp only
          rw [ih (pos + K) (some pos) acc (by omega) (fun a h => by cases h; exact ⟨by omega, hp⟩), wl_take K _ _ hs, hdd]
          simp only [curOf, List.nil_append]
          rw [List.drop_take]
          congr 4
          omega
        | some a =>
          obtain ⟨h1, h2⟩ := hst a rfl
          simp only
          rw [ih (pos + K) (some a) acc (by omega) (fun a' h => by cases h; exact ⟨by omega, h2⟩), wl_take K _ _ hs, hdd]
          simp only [curOf]
          congr 2
          rw [← List.drop_append_of_le_length (by rw [List.length_take, toL_length]; omega)]
          congr 1
          rw [← List.take_append_drop pos ((toL s).take (pos + K)), List.take_take, Nat.min_eq_left (by omega), List.drop_take]
          congr 2
          omega
    · rw [if_neg hp]
      have := ih pos st acc (by omega) hst
      rw [Lib.spansFromP_end _ _ _ _ _ _ hp] at this
      exact this

theorem fields_wl (s : ByteArray) : (Lib.goFieldsP blankP s).map toL = wl [] (toL s) := by
  unfold Lib.goFieldsP Lib.spansOfP
  rw [List.map_map]
  have := spans_step s s.size 0 none [] (by omega) (fun a h => nomatch h)
  exact this

/-! ### pieces -/

def spl (c : UInt8) : List UInt8 → List UInt8 → List (List UInt8)
  | cur, [] => [cur]
  | cur, x :: r => if x == c then cur :: spl c [] r else spl c (cur ++ [x]) r

theorem spl_miss (c : UInt8) : ∀ (l cur : List UInt8), Lib.indexByte l c = -1 → spl c cur l = [cur ++ l]
  | [], cur, _ => by simp [spl]
  | x :: r, cur, h => by
    unfold Lib.indexByte at h
    by_cases hx : x == c
    · rw [if_pos hx] at h
      exact absurd h (by decide)
    · rw [if_neg hx] at h
      have hr : Lib.indexByte r c = -1 := by
        split at h
        · rename_i h2; simpa using h2
        · have := Lib.indexByte_ge r c
          omega
      rw [spl, if_neg hx, spl_miss c r _ hr]
      simp

theorem spl_hit (c : UInt8) : ∀ (l cur : List UInt8) (i : Nat), Lib.indexByte l c = (i : Int) → spl c cur l = (cur ++ l.take i) :: spl c [] (l.drop (i + 1))
  | [], cur, i, h => by
    have : (-1 : Int) = i := h
    omega
  | x :: r, cur, i, h => by
    unfold Lib.indexByte at h
    by_cases hx : x == c
    · rw [if_pos hx] at h
      have : i = 0 := by omega
      subst this
      rw [spl, if_pos hx]
      simp
    · rw [if_neg hx] at h
      split at h
      · omega
      · obtain ⟨j, rfl⟩ : ∃ j, i = j + 1 := ⟨i - 1, by have := Lib.indexByte_ge r c; rename_i h2; simp at h2; omega⟩
        rw [spl, if_neg hx, spl_hit c r _ j (by omega)]
        simp

theorem count_miss (c : UInt8) : ∀ l : List UInt8, Lib.indexByte l c = -1 → l.count c = 0
  | [], _ => rfl
  | x :: r, h => by
    unfold Lib.indexByte at h
    by_cases hx : x == c
    · rw [if_pos hx] at h
      exact absurd h (by decide)
    · rw [if_neg hx] at h
      have hr : Lib.indexByte r c = -1 := by
        split at h
        · rename_i h2; simpa using h2
        · have := Lib.indexByte_ge r c
          omega
      rw [List.count_cons, count_miss c r hr, if_neg hx]

theorem count_hit (c : UInt8) : ∀ (l : List UInt8) (i : Nat), Lib.indexByte l c = (i : Int) → l.count c = (l.drop (i + 1)).count c + 1
  | [], i, h => by
    have : (-1 : Int) = i := h
    omega
  | x :: r, i, h => by
    unfold Lib.indexByte at h
    by_cases hx : x == c
    · rw [if_pos hx] at h
      have : i = 0 := by omega
      subst this
      rw [List.count_cons, if_pos hx]
      simp
    · rw [if_neg hx] at h
      split at h
      · omega
      · obtain ⟨j, rfl⟩ : ∃ j, i = j + 1 := ⟨i - 1, by have := Lib.indexByte_ge r c; rename_i h2; simp at h2; omega⟩
        rw [List.count_cons, if_neg hx, count_hit c r j (by omega)]
        simp

theorem splitK_spl (c : UInt8) : ∀ (k : Nat) (l : List UInt8), l.count c = k → Lib.splitK [c] 0 k l = spl c [] l
  | 0, l, h => by
    have hm : Lib.indexByte l c = -1 := by
      rcases (by omega : Lib.indexByte l c < 0 ∨ 0 ≤ Lib.indexByte l c) with h1 | h1
      · have := Lib.indexByte_ge l c
        omega
      · obtain ⟨i, hi⟩ := Int.eq_ofNat_of_zero_le h1
        have := count_hit c l i hi
        omega
    rw [spl_miss c l [] hm]
    rfl
  | k + 1, l, h => by
    unfold Lib.splitK
    rw [Lib.index_one]
    have hi1 : 0 ≤ Lib.indexByte l c := by
      rcases (by omega : Lib.indexByte l c < 0 ∨ 0 ≤ Lib.indexByte l c) with h1 | h1
      · have h2 := Lib.indexByte_ge l c
        have := count_miss c l (by omega)
        omega
      · exact h1
    obtain ⟨i, hi⟩ := Int.eq_ofNat_of_zero_le hi1
    rw [if_neg (by rw [hi]; simp), spl_hit c l [] i hi, hi]
    have hc := count_hit c l i hi
    rw [Int.toNat_natCast, Nat.add_zero, List.nil_append, List.length_singleton, splitK_spl c k _ (by omega)]

theorem split_spl (s : ByteArray) (c : UInt8) : (Lib.splitB ⟨#[c]⟩ 0 (Lib.countB s ⟨#[c]⟩) s).map toL = spl c [] (toL s) := by
  have h := Lib.splitB_data ⟨#[c]⟩ 0 (Lib.countB s ⟨#[c]⟩) s
  have e : Lib.countB s ⟨#[c]⟩ = (toL s).count c := Lib.count_one _ _
  rw [e] at h ⊢
  rw [← splitK_spl c _ _ rfl]
  exact h

end Go.Proofs.YtohcjdninpjpgaaDoor.Pl
