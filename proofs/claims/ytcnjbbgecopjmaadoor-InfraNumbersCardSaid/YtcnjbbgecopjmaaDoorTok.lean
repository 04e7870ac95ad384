/- Plain laws: tokens, numbers and stripped texts: the printed functions of infra and of the reference answer alike. -/
import Derived.Test.YtcnjbbgecopjmaaDoorIntP
import Derived.Test.YtcnjbbgecopjmaaDoorPXx2
import Derived.Test.YtcnjbbgecopjmaaDoorPXx7
import Derived.Lib.SlTrimSet
namespace Go.Proofs.YtcnjbbgecopjmaaDoor.Pl
open Go.RowKit Go.Proofs.YtcnjbbgecopjmaaDoor.Own Go.Proofs.YtcnjbbgecopjmaaDoor.PX Go.Proofs.YtcnjbbgecopjmaaDoorW.PrintWords Go.Proofs.YtcnjbbgecopjmaaDoorW.PrintLast Go.Proofs.YtcnjbbgecopjmaaDoorW.PrintMore

/-! ### tokens -/

def letter (c : Int) : Bool := (decide (97 ≤ c) && decide (c ≤ 122)) || (decide (65 ≤ c) && decide (c ≤ 90))

def signIdx (c : Int) : Int := Lib.indexByte (⟨#[33, 35, 36, 37, 38, 39, 42, 43, 45, 46, 94, 95, 96, 124, 126]⟩ : ByteArray).data.toList c.toNat.toUInt8

/-- May a byte stand in a token? -/
def tok (c : Int) : Bool := letter c || dig c || !decide (signIdx c < 0)

def tokAns (l : List Int) : Bool := l.all tok && decide (0 < l.length)

theorem sign_infra (c : Int) : strings_IndexByte.f (⟨#[33, 35, 36, 37, 38, 39, 42, 43, 45, 46, 94, 95, 96, 124, 126]⟩ : ByteArray) c = some (signIdx c) := rfl

theorem ne_nil_str (s : ByteArray) : (s.toList != ([] : List UInt8)) = decide (0 < s.size) := by
  rw [Bool.eq_iff_iff, bne_iff_ne, decide_eq_true_eq, ne_eq, toList_nil, ← List.length_eq_zero_iff, bytesOf_length]
  omega

theorem tok_infra (s : ByteArray) (hs : s.size < 100000000) : Ev (fun k => infra_Token.f k s) (tokAns (bytesOf s)) := by
  have key : ∀ d (i : Nat), s.size - i = d → i ≤ s.size → Ev (fun k => infra_Token.l0 k s (s.size : Int) (i : Int)) (((bytesOf s).drop i).all tok && decide (0 < s.size)) := by
    intro d
    induction d with
    | zero =>
      intro i hd hi
      rw [List.drop_of_length_le (by rw [bytesOf_length]; omega)]
      refine Ev.step (f := fun _ => some (decide (0 < s.size))) (fun k => ?_) (Ev.now _)
      simp only [infra_Token.l0]
      rw [if_neg (by omega), ne_nil_str]
    | succ d ih =>
      intro i hd hi
      have hlt : i < s.size := by omega
      have hr := bt_r s i
      have hw : wrap64 ((i : Int) + 1) = ((i + 1 : Nat) : Int) := by rw [wrap_in (by omega)]; rfl
      rw [drop_bytes s i hlt, List.all_cons]
      refine Ev.step (f := fun k => if tok (bt s i) = true then infra_Token.l0 k s (s.size : Int) ((i + 1 : Nat) : Int) else some false) (fun k => ?_) ?_
      · simp only [infra_Token.l0, sign_infra, Option.bind_some]
        rw [if_pos (show (i : Int) < (s.size : Int) by omega), if_pos (show (0 : Int) ≤ (i : Int) by omega), if_pos (show (i : Int) < (s.size : Int) by omega), hw]
        generalize infra_Token.l0 k s (s.size : Int) ((i + 1 : Nat) : Int) = X
        generalize bt s i = c
        by_cases h1 : 97 ≤ c <;> by_cases h2 : c ≤ 122 <;> by_cases h3 : 65 ≤ c <;> by_cases h4 : c ≤ 90 <;> by_cases h5 : 48 ≤ c <;> by_cases h6 : c ≤ 57 <;> by_cases h7 : signIdx c < 0 <;> simp [tok, letter, dig, h1, h2, h3, h4, h5, h6, h7] <;> omega
      · by_cases ht : tok (bt s i) = true
        · simp only [if_pos ht]
          rw [ht, Bool.true_and]
          exact ih (i + 1) (by omega) hlt
        · simp only [if_neg ht]
          rw [eq_false_of_ne_true ht, Bool.false_and, Bool.false_and]
          exact Ev.now _
  have h := key s.size 0 (by omega) (by omega)
  rw [List.drop_zero] at h
  unfold tokAns
  rw [bytesOf_length]
  exact h

theorem sign_any (c : Int) (hc : 0 ≤ c ∧ c < 256) : (([33, 35, 36, 37, 38, 39, 42, 43, 45, 46, 94, 95, 96, 124, 126] : List Int).any fun x => c == x) = !decide (signIdx c < 0) := by
  have := of_decide_eq_true (all_bytes (p := fun c => decide ((([33, 35, 36, 37, 38, 39, 42, 43, 45, 46, 94, 95, 96, 124, 126] : List Int).any fun x => c == x) = !decide (signIdx c < 0))) (by decide +kernel) c hc)
  exact this

theorem tok_l1 (s : ByteArray) (x3 c : Int) (R : Bool) (d : Nat) : ∀ (i : Nat) (b : Bool), 15 - i = d → i ≤ 15 →
    ((b || (([33, 35, 36, 37, 38, 39, 42, 43, 45, 46, 94, 95, 96, 124, 126] : List Int).drop i).any fun x => c == x) = true → Ev (fun k => ostiaryref1_Token.l0 k s (wrap64 (x3 + 1))) R) →
    ((b || (([33, 35, 36, 37, 38, 39, 42, 43, 45, 46, 94, 95, 96, 124, 126] : List Int).drop i).any fun x => c == x) = false → R = false) →
    Ev (fun k => ostiaryref1_Token.l1 k s x3 c b (i : Int)) R := by
  induction d with
  | zero =>
    intro i b hd hi ht hf
    obtain rfl : i = 15 := by omega
    cases b
    · rw [hf rfl]
      refine Ev.step (f := fun _ => some false) (fun k => ?_) (Ev.now _)
      simp only [ostiaryref1_Token.l1]
      rw [if_neg (by decide), if_neg (by decide)]
    · refine Ev.step (fun k => ?_) (ht rfl)
      simp only [ostiaryref1_Token.l1]
      rw [if_neg (by decide), if_pos trivial]
  | succ d ih =>
    intro i b hd hi ht hf
    have hw : wrap64 ((i : Int) + 1) = ((i + 1 : Nat) : Int) := by rw [wrap_in (by omega)]; rfl
    have hlt : i < 15 := by omega
    have hdr : ([33, 35, 36, 37, 38, 39, 42, 43, 45, 46, 94, 95, 96, 124, 126] : List Int).drop i = bt (⟨#[33, 35, 36, 37, 38, 39, 42, 43, 45, 46, 94, 95, 96, 124, 126]⟩ : ByteArray) i :: ([33, 35, 36, 37, 38, 39, 42, 43, 45, 46, 94, 95, 96, 124, 126] : List Int).drop (i + 1) :=
      drop_bytes (⟨#[33, 35, 36, 37, 38, 39, 42, 43, 45, 46, 94, 95, 96, 124, 126]⟩ : ByteArray) i hlt
    rw [hdr, List.any_cons] at ht hf
    cases b
    · refine Ev.step (fun k => ?_) (ih (i + 1) (c == bt (⟨#[33, 35, 36, 37, 38, 39, 42, 43, 45, 46, 94, 95, 96, 124, 126]⟩ : ByteArray) i) (by omega) hlt (fun h => ht (by rw [Bool.false_or]; exact h)) (fun h => hf (by rw [Bool.false_or]; exact h)))
      simp only [ostiaryref1_Token.l1]
      rw [if_pos (by omega), if_neg (by decide), if_pos (by omega), hw]
    · refine Ev.step (fun k => ?_) (ih (i + 1) true (by omega) hlt (fun _ => ht (by rw [Bool.true_or])) (fun h => by rw [Bool.true_or] at h; exact absurd h (by decide)))
      simp only [ostiaryref1_Token.l1]
      rw [if_pos (by omega), if_pos trivial, hw]

theorem letter_ref (c : Int) : ostiaryref1_Letter.f c = some (letter c) := by
  unfold ostiaryref1_Letter.f letter
  by_cases h1 : 97 ≤ c <;> by_cases h2 : c ≤ 122 <;> by_cases h3 : 65 ≤ c <;> by_cases h4 : c ≤ 90 <;> simp [h1, h2, h3, h4]

theorem dig_ref (c : Int) : ostiaryref1_Digit.f c = some (dig c) := by
  unfold ostiaryref1_Digit.f dig
  by_cases h1 : 48 ≤ c <;> by_cases h2 : c ≤ 57 <;> simp [h1, h2]

theorem tok_ref (s : ByteArray) (hs : s.size < 100000000) : Ev (fun k => ostiaryref1_Token.f k s) (tokAns (bytesOf s)) := by
  have key : ∀ d (i : Nat), s.size - i = d → i ≤ s.size → Ev (fun k => ostiaryref1_Token.l0 k s (i : Int)) (((bytesOf s).drop i).all tok && decide (0 < s.size)) := by
    intro d
    induction d with
    | zero =>
      intro i hd hi
      rw [List.drop_of_length_le (by rw [bytesOf_length]; omega)]
      refine Ev.step (f := fun _ => some (decide (0 < s.size))) (fun k => ?_) (Ev.now _)
      simp only [ostiaryref1_Token.l0]
      rw [if_neg (by omega)]
      congr 1
      exact decide_eq_decide.mpr (by omega)
    | succ d ih =>
      intro i hd hi
      have hlt : i < s.size := by omega
      have hr := bt_r s i
      have hw : wrap64 ((i : Int) + 1) = ((i + 1 : Nat) : Int) := by rw [wrap_in (by omega)]; rfl
      rw [drop_bytes s i hlt, List.all_cons]
      have hsg := sign_any _ hr
      have mid : ∀ b : Bool, (b = letter (bt s i) ∧ b = true) ∨ (letter (bt s i) = false ∧ b = dig (bt s i)) → Ev (fun k => ostiaryref1_Token.j1 k s (i : Int) (bt s i) b) (tok (bt s i) && ((bytesOf s).drop (i + 1)).all tok && decide (0 < s.size)) := by
        intro b hb
        refine Ev.step (f := fun k => ostiaryref1_Token.l1 k s (i : Int) (bt s i) b ((0 : Nat) : Int)) (fun k => ?_) (tok_l1 s i (bt s i) _ 15 0 b rfl (by omega) (fun h => ?_) (fun h => ?_))
        · simp only [ostiaryref1_Token.j1]
          rfl
        · rw [List.drop_zero, hsg] at h
          have ht : tok (bt s i) = true := by
            unfold tok
            rcases hb with ⟨h1, h2⟩ | ⟨h1, h2⟩
            · rw [← h1, h2]; rfl
            · rw [h1, ← h2, Bool.false_or]; exact h
          rw [ht, Bool.true_and, hw]
          exact ih (i + 1) (by omega) hlt
        · rw [List.drop_zero, hsg] at h
          have ht : tok (bt s i) = false := by
            unfold tok
            rcases hb with ⟨h1, h2⟩ | ⟨h1, h2⟩
            · rw [h2, Bool.true_or] at h; exact absurd h (by decide)
            · rw [h1, ← h2, Bool.false_or]; exact h
          rw [ht, Bool.false_and, Bool.false_and]
      by_cases hl : letter (bt s i) = true
      · refine Ev.step (fun k => ?_) (mid true (.inl ⟨hl.symm, rfl⟩))
        simp only [ostiaryref1_Token.l0]
        rw [if_pos (by omega), if_pos (by omega), letter_ref, Option.bind_some, if_pos hl]
      · refine Ev.step (fun k => ?_) (mid (dig (bt s i)) (.inr ⟨eq_false_of_ne_true hl, rfl⟩))
        simp only [ostiaryref1_Token.l0]
        rw [if_pos (by omega), if_pos (by omega), letter_ref, Option.bind_some, if_neg hl, dig_ref, Option.bind_some]
  have h := key s.size 0 (by omega) (by omega)
  rw [List.drop_zero] at h
  unfold tokAns
  rw [bytesOf_length]
  exact h

/-! ### numbers -/

theorem int_ref (s : ByteArray) (hs : s.size < 100000000) : Ev (fun k => ostiaryref1_Int.f k s) (intAns (bytesOf s)) := by
  have key : ∀ d (i : Nat) (n : Int), s.size - i = d → i ≤ s.size → 0 ≤ n ∧ n ≤ 9223372036854775807 →
      Ev (fun k => ostiaryref1_Int.l0 k s n (i : Int)) (if ((bytesOf s).drop i).all dig then (((bytesOf s).drop i).foldl sat n, decide (0 < s.size)) else (0, false)) := by
    intro d
    induction d with
    | zero =>
      intro i n hd hi hn
      rw [List.drop_of_length_le (by rw [bytesOf_length]; omega)]
      refine Ev.step (f := fun _ => some (n, decide (0 < s.size))) (fun k => ?_) (Ev.now _)
      simp only [ostiaryref1_Int.l0]
      rw [if_neg (by omega)]
      congr 2
      exact decide_eq_decide.mpr (by omega)
    | succ d ih =>
      intro i n hd hi hn
      have hlt : i < s.size := by omega
      have hr := bt_r s i
      have hw : wrap64 ((i : Int) + 1) = ((i + 1 : Nat) : Int) := by rw [wrap_in (by omega)]; rfl
      rw [drop_bytes s i hlt]
      by_cases hdig : dig (bt s i) = true
      · have hdig' := hdig
        simp only [dig, Bool.and_eq_true, decide_eq_true_eq] at hdig'
        have e : (bt s i - 48) % 256 = bt s i - 48 := by omega
        rw [List.all_cons, hdig, Bool.true_and, List.foldl_cons]
        refine Ev.step (f := fun k => ostiaryref1_Int.l0 k s (sat n (bt s i)) ((i + 1 : Nat) : Int)) (fun k => ?_) (ih (i + 1) _ (by omega) hlt (sat_in hn hdig))
        simp only [ostiaryref1_Int.l0]
        rw [if_pos (by omega), if_pos (by omega), dig_ref, Option.bind_some, if_pos hdig, e, hw]
        unfold sat
        by_cases hc : n > (9223372036854775807 - (bt s i - 48)) / 10
        · rw [if_pos hc, if_pos hc]
        · rw [if_neg hc, if_neg hc, wrap_in (x := n * 10) (by omega), wrap_in (by omega)]
      · rw [List.all_cons, eq_false_of_ne_true hdig, Bool.false_and, if_neg (by decide)]
        refine Ev.step (f := fun _ => some (0, false)) (fun k => ?_) (Ev.now _)
        simp only [ostiaryref1_Int.l0]
        rw [if_pos (by omega), if_pos (by omega), dig_ref, Option.bind_some, if_neg hdig]
  have h := key s.size 0 0 (by omega) (by omega) (by omega)
  rw [List.drop_zero] at h
  unfold intAns
  rw [bytesOf_length]
  exact h

/-! ### stripped texts -/

def blank (c : Int) : Bool := c == 9 || c == 10 || c == 12 || c == 13 || c == 32

theorem blank_ref (c : Int) : ostiaryref1_Blank.f c = some (blank c) := by
  unfold ostiaryref1_Blank.f blank
  by_cases h1 : c = 9
  · simp [h1]
  by_cases h2 : c = 10
  · simp [h2]
  by_cases h3 : c = 12
  · simp [h3]
  by_cases h4 : c = 13
  · simp [h4]
  simp [h1, h2, h3, h4]

def rtrim (l : List Int) : List Int := (l.reverse.dropWhile blank).reverse

/-- A list of bytes without the blanks at its ends. -/
def strip (l : List Int) : List Int := (rtrim l).dropWhile blank

theorem rtrim_snoc (l : List Int) (c : Int) : rtrim (l ++ [c]) = if blank c = true then rtrim l else l ++ [c] := by
  unfold rtrim
  rw [List.reverse_append, List.reverse_singleton, List.singleton_append, List.dropWhile_cons]
  split
  · rfl
  · simp

theorem rtrim_cons (l : List Int) (c : Int) : rtrim (c :: l) = if (rtrim l).isEmpty && blank c then [] else c :: rtrim l := by
  unfold rtrim
  rw [List.reverse_cons, List.dropWhile_append]
  by_cases he : (l.reverse.dropWhile blank).isEmpty = true
  · rw [if_pos he]
    rw [List.isEmpty_iff] at he
    rw [he]
    by_cases hb : blank c = true
    · simp [hb]
    · simp [hb]
  · rw [if_neg he]
    have he' : (l.reverse.dropWhile blank).reverse.isEmpty = false := by
      rw [List.isEmpty_reverse]; exact eq_false_of_ne_true he
    rw [he']
    simp

/-- From the left first, or from the right: the same. -/
theorem strip_swap (l : List Int) : strip l = rtrim (l.dropWhile blank) := by
  unfold strip
  induction l with
  | nil => rfl
  | cons c l ih =>
    rw [rtrim_cons]
    by_cases hb : blank c = true
    · rw [List.dropWhile_cons, if_pos hb, hb, Bool.and_true, ← ih]
      split
      · rename_i he
        rw [List.isEmpty_iff.mp he]
      · rw [List.dropWhile_cons, if_pos hb]
    · rw [eq_false_of_ne_true hb, Bool.and_false, if_neg (by decide), List.dropWhile_cons, if_neg hb, List.dropWhile_cons, if_neg hb, rtrim_cons, eq_false_of_ne_true hb, Bool.and_false, if_neg (by decide)]

theorem strip_l1 (d : Nat) : ∀ s : ByteArray, s.size = d → d < 100000000 → Ev (fun k => ostiaryref1_Strip.l1 k s) (strOfNums (rtrim (bytesOf s))) := by
  induction d with
  | zero =>
    intro s hs _
    have hn : bytesOf s = [] := List.length_eq_zero_iff.mp (by rw [bytesOf_length]; exact hs)
    rw [hn]
    have e : strOfNums (rtrim []) = s := by rw [← strOfNums_bytesOf s, hn]; rfl
    rw [e]
    refine Ev.step (f := fun _ => some s) (fun k => ?_) (Ev.now _)
    simp only [ostiaryref1_Strip.l1]
    rw [if_neg (by omega)]
  | succ d ih =>
    intro s hs hl
    have hw : wrap64 ((s.size : Int) - 1) = ((s.size - 1 : Nat) : Int) := by rw [wrap_in (by omega)]; omega
    have hb : bytesOf s = bytesOf (s.extract 0 (s.size - 1)) ++ [bt s ((s.size - 1 : Nat) : Int)] := by
      have h1 := (List.take_append_drop (s.size - 1) (bytesOf s)).symm
      rw [drop_bytes s (s.size - 1) (by omega), List.drop_of_length_le (by rw [bytesOf_length]; omega)] at h1
      rw [bytesOf_extract, List.drop_zero]
      exact h1
    have hsz : (s.extract 0 (s.size - 1)).size = d := by rw [ByteArray.size_extract]; omega
    rw [hb, rtrim_snoc]
    by_cases hbl : blank (bt s ((s.size - 1 : Nat) : Int)) = true
    · rw [if_pos hbl]
      refine Ev.step (fun k => ?_) (ih _ hsz (by omega))
      simp only [ostiaryref1_Strip.l1]
      rw [if_pos (by omega), hw, if_pos (by omega), if_pos (by omega), blank_ref, Option.bind_some, if_pos hbl, if_pos (by omega), Int.toNat_natCast]
    · rw [if_neg hbl, ← hb, strOfNums_bytesOf]
      refine Ev.step (f := fun _ => some s) (fun k => ?_) (Ev.now _)
      simp only [ostiaryref1_Strip.l1]
      rw [if_pos (by omega), hw, if_pos (by omega), if_pos (by omega), blank_ref, Option.bind_some, if_neg hbl]

theorem strip_ref (s : ByteArray) (hs : s.size < 100000000) : Ev (fun k => ostiaryref1_Strip.f k s) (strOfNums (strip (bytesOf s))) := by
  rw [strip_swap]
  have key : ∀ d (s : ByteArray), s.size = d → d < 100000000 → Ev (fun k => ostiaryref1_Strip.l0 k s) (strOfNums (rtrim ((bytesOf s).dropWhile blank))) := by
    intro d
    induction d with
    | zero =>
      intro s hs hl
      have hn : bytesOf s = [] := List.length_eq_zero_iff.mp (by rw [bytesOf_length]; exact hs)
      have h1 := strip_l1 0 s hs hl
      rw [hn] at h1 ⊢
      refine Ev.step (f := fun k => ostiaryref1_Strip.j1 k s) (fun k => ?_) (Ev.step (fun k => ?_) h1)
      · simp only [ostiaryref1_Strip.l0]
        rw [if_neg (by omega)]
      · simp only [ostiaryref1_Strip.j1]
    | succ d ih =>
      intro s hs hl
      have hb := drop_bytes s 0 (by omega)
      rw [List.drop_zero] at hb
      have hcut : bytesOf (s.extract 1 s.size) = (bytesOf s).drop 1 := by
        rw [bytesOf_extract, List.take_of_length_le (by rw [bytesOf_length]; exact Nat.le_refl _)]
      have hsz : (s.extract 1 s.size).size = d := by rw [ByteArray.size_extract]; omega
      by_cases hbl : blank (bt s ((0 : Nat) : Int)) = true
      · have e : (bytesOf s).dropWhile blank = (bytesOf (s.extract 1 s.size)).dropWhile blank := by
          rw [hcut]
          conv => lhs; rw [hb]
          rw [List.dropWhile_cons, if_pos hbl]
        rw [e]
        refine Ev.step (fun k => ?_) (ih _ hsz (by omega))
        simp only [ostiaryref1_Strip.l0]
        rw [if_pos (by omega), if_pos (by omega), show bt s 0 = bt s ((0 : Nat) : Int) from rfl, blank_ref, Option.bind_some, if_pos hbl, if_pos (by omega)]
      · have e : (bytesOf s).dropWhile blank = bytesOf s := by
          rw [hb, List.dropWhile_cons, if_neg hbl]
        rw [e]
        refine Ev.step (f := fun k => ostiaryref1_Strip.j1 k s) (fun k => ?_) (Ev.step (fun k => ?_) (strip_l1 _ s hs hl))
        · simp only [ostiaryref1_Strip.l0]
          rw [if_pos (by omega), if_pos (by omega), show bt s 0 = bt s ((0 : Nat) : Int) from rfl, blank_ref, Option.bind_some, if_neg hbl]
        · simp only [ostiaryref1_Strip.j1]
  exact key _ s rfl hs

theorem blank_set (c : UInt8) : ([9, 10, 12, 13, 32] : List UInt8).contains c = blank (c.toNat : Int) := by
  have key : (List.range 256).all (fun n => decide (([9, 10, 12, 13, 32] : List UInt8).contains (UInt8.ofNat n) = blank ((UInt8.ofNat n).toNat : Int))) = true := by decide +kernel
  have := of_decide_eq_true (List.all_eq_true.mp key c.toNat (List.mem_range.mpr c.toNat_lt))
  rwa [UInt8.ofNat_toNat] at this

/-- What strings.Trim answers, in our words. -/
theorem trim_set (s : ByteArray) : (⟨(Lib.trimS s.data.toList ([9, 10, 12, 13, 32] : List UInt8)).toArray⟩ : ByteArray) = strOfNums (strip (bytesOf s)) := by
  have hf : ∀ l : List UInt8, (l.map fun b => (b.toNat : Int)).dropWhile blank = (l.dropWhile (([9, 10, 12, 13, 32] : List UInt8).contains ·)).map fun b => (b.toNat : Int) := by
    intro l
    rw [List.dropWhile_map]
    congr 2
    funext b
    exact (blank_set b).symm
  have e : strip (bytesOf s) = (Lib.trimS s.data.toList ([9, 10, 12, 13, 32] : List UInt8)).map fun b => (b.toNat : Int) := by
    unfold strip rtrim Lib.trimS Lib.trimLeftS Lib.trimRightS
    rw [show bytesOf s = s.data.toList.map fun b => (b.toNat : Int) from rfl, ← List.map_reverse, hf, ← List.map_reverse, hf]
  apply data_inj
  rw [strOfNums_data, e, List.map_map]
  conv => lhs; rw [← List.map_id (Lib.trimS s.data.toList ([9, 10, 12, 13, 32] : List UInt8))]
  refine List.map_congr_left fun x _ => ?_
  simp

/-! ### lowered texts -/

def lowB (c : Int) : Int := if 65 ≤ c ∧ c ≤ 90 then c + 32 else c

def low (l : List Int) : List Int := l.map lowB

theorem lowB_range {c : Int} (h : 0 ≤ c ∧ c < 256) : 0 ≤ lowB c ∧ lowB c < 256 := by unfold lowB; split <;> omega

theorem low_range (l : List Int) (h : ∀ x ∈ l, 0 ≤ x ∧ x < 256) : ∀ x ∈ low l, 0 ≤ x ∧ x < 256 := by
  intro x hx
  unfold low at hx
  rw [List.mem_map] at hx
  obtain ⟨y, hy, rfl⟩ := hx
  exact lowB_range (h y hy)

theorem low_low (l : List Int) : low (low l) = low l := by
  unfold low
  rw [List.map_map]
  refine List.map_congr_left fun x _ => ?_
  show lowB (lowB x) = lowB x
  unfold lowB
  by_cases h : 65 ≤ x ∧ x ≤ 90
  · rw [if_pos h, if_neg (by omega)]
  · rw [if_neg h, if_neg h]

theorem low_append (l m : List Int) : low (l ++ m) = low l ++ low m := List.map_append

theorem low_length (l : List Int) : (low l).length = l.length := List.length_map _

theorem rtrim_sub (l : List Int) : ∀ x ∈ rtrim l, x ∈ l := by
  intro x hx
  unfold rtrim at hx
  rw [List.mem_reverse] at hx
  exact List.mem_reverse.mp ((List.dropWhile_sublist _).subset hx)

theorem strip_range (l : List Int) (h : ∀ x ∈ l, 0 ≤ x ∧ x < 256) : ∀ x ∈ strip l, 0 ≤ x ∧ x < 256 := fun x hx =>
  h x (rtrim_sub l x ((List.dropWhile_sublist _).subset hx))

theorem rtrim_len (l : List Int) : (rtrim l).length ≤ l.length := by
  unfold rtrim
  rw [List.length_reverse]
  have := (List.dropWhile_sublist blank (l := l.reverse)).length_le
  rwa [List.length_reverse] at this

theorem strip_len (l : List Int) : (strip l).length ≤ l.length :=
  Nat.le_trans (List.dropWhile_sublist blank).length_le (rtrim_len l)

end Go.Proofs.YtcnjbbgecopjmaaDoor.Pl
