/- Plain laws: UTF-8 as a function over lists of bytes; what is decoded and written stays so. -/
import Derived.Test.YtcnjbbgecopjmaaDoorBytes
import Derived.Test.YtcnjbbgecopjmaaDoorPXx1
import Derived.Lib.MapLaws
import Derived.Lib.QuoteLoop
import Derived.Laws.Cover4
import Derived.Laws.IdiomStrings
namespace Go.Proofs.YtcnjbbgecopjmaaDoor.Pl
open Go.RowKit Go.Proofs.YtcnjbbgecopjmaaDoor.PX Go.Proofs.YtcnjbbgecopjmaaDoorW.PrintWords Go.Proofs.YtcnjbbgecopjmaaDoorW.PrintLast Go.Proofs.YtcnjbbgecopjmaaDoorW.PrintMore

/-- The first rune of a list of bytes and its width. -/
def dZ (l : List Int) : Nat × Nat := Lib.decodeN l.length (l.getD 0 0).toNat (l.getD 1 0).toNat (l.getD 2 0).toNat (l.getD 3 0).toNat

def dt : Nat → List Int → List Int
  | 0, _ => []
  | k + 1, l => if l = [] then [] else Lib.encodeRuneZ (dZ l).1 ++ dt k (l.drop (dZ l).2)

/-- A list of bytes, read as UTF-8 with replacement and written again. -/
def decT (l : List Int) : List Int := dt l.length l

theorem dZ_pos (l : List Int) : 1 ≤ (dZ l).2 := Lib.decodeN_ge1 _ _ _ _ _

theorem dt_more (k : Nat) : ∀ (l : List Int) (j : Nat), l.length ≤ k → k ≤ j → dt j l = dt k l := by
  induction k with
  | zero =>
    intro l j hl _
    rw [List.length_eq_zero_iff.mp (Nat.le_zero.mp hl)]
    cases j <;> simp [dt]
  | succ k ih =>
    intro l j hl hj
    obtain ⟨j, rfl⟩ : ∃ i, j = i + 1 := ⟨j - 1, by omega⟩
    have hp := dZ_pos l
    simp only [dt]
    by_cases h : l = []
    · rw [if_pos h, if_pos h]
    · rw [if_neg h, if_neg h, ih (l.drop (dZ l).2) j (by rw [List.length_drop]; omega) (by omega)]

theorem decT_nil : decT [] = [] := rfl

theorem decT_step (l : List Int) (h : l ≠ []) : decT l = Lib.encodeRuneZ (dZ l).1 ++ decT (l.drop (dZ l).2) := by
  have hp := dZ_pos l
  have hl : 0 < l.length := List.length_pos_iff.mpr h
  unfold decT
  obtain ⟨k, hk⟩ : ∃ k, l.length = k + 1 := ⟨l.length - 1, by omega⟩
  rw [hk, dt, if_neg h]
  congr 1
  exact dt_more _ _ _ (Nat.le_refl _) (by rw [List.length_drop]; omega)

/-- May a number be a rune? -/
def vr (r : Int) : Prop := 0 ≤ r ∧ (r < 55296 ∨ (57343 < r ∧ r ≤ 1114111))

theorem dZ_valid (l : List Int) (hl : ∀ x ∈ l, 0 ≤ x ∧ x < 256) : vr ((dZ l).1 : Int) := by
  have h0 : (l.getD 0 0).toNat < 256 := by
    rcases l with _ | ⟨c, l⟩
    · simp
    · have := hl c (by simp)
      simp
      omega
  have := Lib.decodeN_valid l.length (l.getD 0 0).toNat (l.getD 1 0).toNat (l.getD 2 0).toNat (l.getD 3 0).toNat h0
  unfold vr dZ
  omega

theorem dZ_enc (r : Int) (hr : vr r) (m : List Int) : dZ (Lib.encodeRuneZ r ++ m) = (r.toNat, (Lib.encodeRuneZ r).length) := by
  obtain ⟨h0, hr⟩ := hr
  by_cases h1 : r ≤ 127
  · rw [Lib.encodeRuneZ_one h0 h1]
    unfold dZ Lib.decodeN
    simp only [List.cons_append, List.nil_append, List.getD_cons_zero, List.length_cons]
    rw [if_pos (by omega)]
    rfl
  by_cases h2 : r ≤ 2047
  · rw [Lib.encodeRuneZ_two (by omega) h2]
    unfold dZ Lib.decodeN
    simp only [List.cons_append, List.nil_append, List.getD_cons_zero, List.getD_cons_succ, List.length_cons, List.length_nil]
    rw [if_neg (by omega), if_pos (by omega), if_pos (by omega)]
    refine Prod.ext ?_ rfl
    simp only
    omega
  by_cases h3 : r ≤ 65535
  · rw [Lib.encodeRuneZ_three (by omega)]
    unfold dZ Lib.decodeN
    simp only [List.cons_append, List.nil_append, List.getD_cons_zero, List.getD_cons_succ, List.length_cons, List.length_nil]
    rw [if_neg (by omega), if_neg (by omega), if_pos (by omega), if_pos (by omega)]
    refine Prod.ext ?_ rfl
    simp only
    omega
  · rw [Lib.encodeRuneZ_four (by omega) (by omega)]
    unfold dZ Lib.decodeN
    simp only [List.cons_append, List.nil_append, List.getD_cons_zero, List.getD_cons_succ, List.length_cons, List.length_nil]
    rw [if_neg (by omega), if_neg (by omega), if_neg (by omega), if_pos (by omega), if_pos (by omega)]
    refine Prod.ext ?_ rfl
    simp only
    omega

theorem enc_ne (r : Int) (m : List Int) : Lib.encodeRuneZ r ++ m ≠ [] := by
  have := (Lib.encodeRuneZ_length r).1
  intro h
  have h2 := congrArg List.length h
  rw [List.length_append, List.length_nil] at h2
  omega

theorem decT_enc (r : Int) (hr : vr r) (m : List Int) : decT (Lib.encodeRuneZ r ++ m) = Lib.encodeRuneZ r ++ decT m := by
  rw [decT_step _ (enc_ne r m), dZ_enc r hr m, List.drop_left]
  simp only
  rw [Int.toNat_of_nonneg hr.1]

/-- What holds at each step from the left holds of the whole. -/
theorem decT_ind {P : List Int → Prop} (h0 : P []) (h1 : ∀ l, l ≠ [] → P (l.drop (dZ l).2) → P l) (l : List Int) : P l := by
  have key : ∀ k (l : List Int), l.length ≤ k → P l := by
    intro k
    induction k with
    | zero =>
      intro l hl
      rw [List.length_eq_zero_iff.mp (Nat.le_zero.mp hl)]
      exact h0
    | succ k ih =>
      intro l hl
      by_cases h : l = []
      · rw [h]; exact h0
      · have hp := dZ_pos l
        exact h1 l h (ih _ (by rw [List.length_drop]; omega))
  exact key _ l (Nat.le_refl _)

theorem drop_range {l : List Int} (hl : ∀ x ∈ l, 0 ≤ x ∧ x < 256) (n : Nat) : ∀ x ∈ l.drop n, 0 ≤ x ∧ x < 256 := fun x hx => hl x (List.mem_of_mem_drop hx)

theorem decT_again (l : List Int) : (∀ x ∈ l, 0 ≤ x ∧ x < 256) → decT (decT l) = decT l := by
  refine decT_ind (P := fun l => (∀ x ∈ l, 0 ≤ x ∧ x < 256) → decT (decT l) = decT l) (fun _ => rfl) (fun l h ih hl => ?_) l
  rw [decT_step l h, decT_enc _ (dZ_valid l hl), ih (drop_range hl _)]

theorem decT_range (l : List Int) : ∀ x ∈ decT l, 0 ≤ x ∧ x < 256 := by
  refine decT_ind (P := fun l => ∀ x ∈ decT l, 0 ≤ x ∧ x < 256) (by simp [decT_nil]) (fun l h ih x hx => ?_) l
  rw [decT_step l h, List.mem_append] at hx
  rcases hx with hx | hx
  · exact Lib.encodeRuneZ_byte _ x hx
  · exact ih x hx

theorem decT_len (l : List Int) : (decT l).length ≤ 4 * l.length := by
  refine decT_ind (P := fun l => (decT l).length ≤ 4 * l.length) (by simp [decT_nil]) (fun l h ih => ?_) l
  have hp := dZ_pos l
  have h4 := (Lib.encodeRuneZ_length ((dZ l).1 : Int)).2
  have hl : 0 < l.length := List.length_pos_iff.mpr h
  rw [decT_step l h, List.length_append]
  rw [List.length_drop] at ih
  omega

theorem decT_x (m : List Int) : decT (120 :: m) = 120 :: decT m :=
  decT_enc 120 (by unfold vr; omega) m

/-! ### a text's own bytes -/

theorem get_bytes (s : ByteArray) (i k : Nat) : (s.get! (i + k)).toNat = (((bytesOf s).drop i).getD k 0).toNat := by
  have h1 : (s.get! (i + k)) = s.data.toList.getD (i + k) 0 := by
    show s.data[i + k]! = _
    rw [Array.getElem!_eq_getD, Array.getD_eq_getD_getElem?, List.getD_eq_getElem?_getD, Array.getElem?_toList]
    rfl
  rw [h1, List.getD_eq_getElem?_getD, List.getD_eq_getElem?_getD, List.getElem?_drop]
  unfold bytesOf
  rw [List.getElem?_map]
  rcases s.data.toList[i + k]? with _ | c <;> simp

theorem decode_dZ (s : ByteArray) (i : Nat) (_h : i ≤ s.size) : Utf8.decode s i = dZ ((bytesOf s).drop i) := by
  rw [Lib.decode_at]
  unfold dZ
  rw [List.length_drop, bytesOf_length]
  have g0 := get_bytes s i 0
  have g1 := get_bytes s i 1
  have g2 := get_bytes s i 2
  have g3 := get_bytes s i 3
  rw [Nat.add_zero] at g0
  rw [g0, g1, g2, g3]

theorem encode_bytes (r : Int) : bytesOf (Utf8.encode r) = Lib.encodeRuneZ r := by
  have hb : ∀ n : Nat, n < 256 → ((UInt8.ofNat n).toNat : Int) = (n : Int) := fun n hn => by simp; omega
  by_cases hv : vr r
  · obtain ⟨h0, hr⟩ := hv
    have hval : Utf8.valid r = true := by
      unfold Utf8.valid
      simp
      omega
    unfold Utf8.encode
    simp only [hval, if_true]
    by_cases h1 : r ≤ 127
    · rw [Lib.encodeRuneZ_one h0 h1, if_pos (by omega)]
      simp only [bytesOf, List.map_cons, List.map_nil]
      rw [hb _ (by omega), Int.toNat_of_nonneg h0]
    by_cases h2 : r ≤ 2047
    · rw [Lib.encodeRuneZ_two (by omega) h2, if_neg (by omega), if_pos (by omega)]
      simp only [bytesOf, List.map_cons, List.map_nil]
      rw [hb _ (by omega), hb _ (by omega)]
      congr 1
      · omega
      · congr 1; omega
    by_cases h3 : r ≤ 65535
    · rw [Lib.encodeRuneZ_three (by omega), if_neg (by omega), if_neg (by omega), if_pos (by omega)]
      simp only [bytesOf, List.map_cons, List.map_nil]
      rw [hb _ (by omega), hb _ (by omega), hb _ (by omega)]
      congr 1
      · omega
      · congr 1
        · omega
        · congr 1; omega
    · rw [Lib.encodeRuneZ_four (by omega) (by omega), if_neg (by omega), if_neg (by omega), if_neg (by omega)]
      simp only [bytesOf, List.map_cons, List.map_nil]
      rw [hb _ (by omega), hb _ (by omega), hb _ (by omega), hb _ (by omega)]
      congr 1
      · omega
      · congr 1
        · omega
        · congr 1
          · omega
          · congr 1; omega
  · have hval : Utf8.valid r = false := by
      unfold vr at hv
      unfold Utf8.valid
      simp
      omega
    unfold vr at hv
    rw [Lib.encodeRuneZ_bad (by omega)]
    unfold Utf8.encode
    simp only [hval, Bool.false_eq_true, if_false]
    decide +kernel

/-! ### a text as runes and back -/

theorem runesBytes_append (ns : List Int) : bytesOf (runesBytes ns) = ns.flatMap Lib.encodeRuneZ := by
  have key : ∀ (ns : List Int) (s : ByteArray), bytesOf (ns.foldl (fun r n => r ++ Utf8.encode n) s) = bytesOf s ++ ns.flatMap Lib.encodeRuneZ := by
    intro ns
    induction ns with
    | nil => intro s; simp
    | cons n ns ih =>
      intro s
      rw [List.foldl_cons, ih, bytesOf_append, encode_bytes, List.flatMap_cons, List.append_assoc]
  exact key ns ByteArray.empty

theorem runes_from (s : ByteArray) (k : Nat) : ∀ (i : Nat) (ns : List Int), s.size - i ≤ k → i ≤ s.size → ∃ ms : List Int, (Conv.runesFrom s k i (ns.map (Value.int .i32)).toArray) = ((ns ++ ms).map (Value.int .i32)).toArray ∧ ms.flatMap Lib.encodeRuneZ = decT ((bytesOf s).drop i) ∧ ms.length ≤ s.size - i := by
  induction k with
  | zero =>
    intro i ns hk hi
    refine ⟨[], by simp [Conv.runesFrom], ?_, by simp⟩
    rw [List.drop_of_length_le (by rw [bytesOf_length]; omega)]
    rfl
  | succ k ih =>
    intro i ns hk hi
    by_cases h : i < s.size
    · have hd := decode_dZ s i hi
      have hne : (bytesOf s).drop i ≠ [] := by
        intro h2
        have := congrArg List.length h2
        rw [List.length_drop, bytesOf_length, List.length_nil] at this
        omega
      have hp := dZ_pos ((bytesOf s).drop i)
      have hst := decT_step _ hne
      rw [List.drop_drop] at hst
      by_cases hle : i + (dZ ((bytesOf s).drop i)).2 ≤ s.size
      · obtain ⟨ms, h1, h2, h3⟩ := ih (i + (dZ ((bytesOf s).drop i)).2) (ns ++ [((dZ ((bytesOf s).drop i)).1 : Int)]) (by omega) hle
        refine ⟨((dZ ((bytesOf s).drop i)).1 : Int) :: ms, ?_, ?_, by simp; omega⟩
        · rw [Conv.runesFrom, if_pos h]
          simp only [hd]
          rw [show (ns.map (Value.int .i32)).toArray.push (Value.int .i32 (Int.ofNat (dZ ((bytesOf s).drop i)).1)) = ((ns ++ [((dZ ((bytesOf s).drop i)).1 : Int)]).map (Value.int .i32)).toArray by simp, h1]
          simp
        · rw [List.flatMap_cons, h2, hst]
      · exfalso
        have : (dZ ((bytesOf s).drop i)).2 ≤ s.size - i := by
          have := Lib.decodeN_width_le ((bytesOf s).drop i).length (((bytesOf s).drop i).getD 0 0).toNat (((bytesOf s).drop i).getD 1 0).toNat (((bytesOf s).drop i).getD 2 0).toNat (((bytesOf s).drop i).getD 3 0).toNat (by rw [List.length_drop, bytesOf_length]; omega)
          rw [show Lib.decodeN ((bytesOf s).drop i).length (((bytesOf s).drop i).getD 0 0).toNat (((bytesOf s).drop i).getD 1 0).toNat (((bytesOf s).drop i).getD 2 0).toNat (((bytesOf s).drop i).getD 3 0).toNat = dZ ((bytesOf s).drop i) from rfl] at this
          rw [List.length_drop, bytesOf_length] at this
          exact this
        omega
    · refine ⟨[], by rw [Conv.runesFrom, if_neg h]; simp, ?_, by simp⟩
      rw [List.drop_of_length_le (by rw [bytesOf_length]; omega)]
      rfl

theorem dZ_le (l : List Int) (h : l ≠ []) : (dZ l).2 ≤ l.length :=
  Lib.decodeN_width_le _ _ _ _ _ (List.length_pos_iff.mpr h)

/-! ### the mark at the beginning -/

def bom (l : List Int) : List Int := if l.take 3 = [239, 187, 191] then l.drop 3 else l

theorem bom_len (l : List Int) : (bom l).length ≤ l.length := by
  unfold bom
  split
  · rw [List.length_drop]; omega
  · exact Nat.le_refl _

theorem bom_range (l : List Int) (hl : ∀ x ∈ l, 0 ≤ x ∧ x < 256) : ∀ x ∈ bom l, 0 ≤ x ∧ x < 256 := by
  unfold bom
  split
  · exact drop_range hl 3
  · exact hl

theorem trim_some (s : ByteArray) (hs : s.size < 100000000) : strings_TrimPrefix.f s (⟨#[239, 187, 191]⟩ : ByteArray) = some (strOfNums (bom (bytesOf s))) := by
  have h3 : (⟨#[239, 187, 191]⟩ : ByteArray).size = 3 := rfl
  have hx : (s.extract 0 3).toList = (⟨#[239, 187, 191]⟩ : ByteArray).toList ↔ (bytesOf s).take 3 = [239, 187, 191] := by
    rw [toList_data, toList_data]
    constructor
    · intro h
      have h2 : bytesOf (s.extract 0 3) = bytesOf (⟨#[239, 187, 191]⟩ : ByteArray) := by unfold bytesOf; rw [h]
      rw [bytesOf_extract, List.drop_zero] at h2
      exact h2
    · intro h
      have h2 : bytesOf (s.extract 0 3) = bytesOf (⟨#[239, 187, 191]⟩ : ByteArray) := by rw [bytesOf_extract, List.drop_zero]; exact h
      rw [bytesOf_inj h2]
  unfold strings_TrimPrefix.f stringslite_TrimPrefix.f stringslite_HasPrefix.f bom
  rw [h3]
  by_cases hge : 3 ≤ s.size
  · rw [if_pos (by omega), if_pos (by omega), if_pos (by omega), Option.bind_some]
    simp only [show ((3 : Nat) : Int).toNat = 3 from rfl]
    by_cases he : (bytesOf s).take 3 = [239, 187, 191]
    · rw [if_pos he, if_pos (beq_iff_eq.mpr (hx.mpr he)), if_pos (by omega), if_pos (by omega), Option.bind_some]
      congr 1
      apply bytesOf_inj
      rw [bytesOf_strOfNums _ (drop_range (bytesOf_range s) 3), bytesOf_extract, List.take_of_length_le (by rw [bytesOf_length]; exact Nat.le_refl _)]
    · rw [if_neg he, if_neg (fun h => he (hx.mp (beq_iff_eq.mp h))), Option.bind_some, strOfNums_bytesOf]
  · rw [if_neg (by omega), Option.bind_some, if_neg (by decide), Option.bind_some]
    rw [if_neg, strOfNums_bytesOf]
    intro h
    have := congrArg List.length h
    rw [List.length_take, bytesOf_length] at this
    simp at this
    omega

end Go.Proofs.YtcnjbbgecopjmaaDoor.Pl
