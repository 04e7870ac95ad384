/- InfraNumerals: for every int64, two ints and every byte the statement's function returns true. No condition. -/
import Derived.Test.YtcnjbbgecopjmaaIntP
import Derived.Test.YtcnjbbgecopjmaaPXx8
namespace Go.Proofs.Ytcnjbbgecopjmaa.Pure
open Go.RowKit Go.Proofs.Ytcnjbbgecopjmaa.PX Go.Proofs.Ytcnjbbgecopjmaa.Pl Go.Proofs.YtcnjbbgecopjmaaW.PrintWords Go.Proofs.YtcnjbbgecopjmaaW.PrintLast

/-- A number's decimal digits. -/
def decs (n : Nat) : List Int := if n < 10 then [48 + (n : Int)] else decs (n / 10) ++ [48 + ((n % 10 : Nat) : Int)]
  termination_by n
  decreasing_by omega

theorem decs_all (n : Nat) : (decs n).all dig = true := by
  induction n using Nat.strongRecOn with
  | _ n ih =>
    unfold decs
    split
    · simp [dig]; omega
    · rw [List.all_append, ih (n / 10) (by omega)]
      simp [dig]; omega

theorem decs_fold (n : Nat) (hn : n ≤ 9223372036854775807) : (decs n).foldl sat 0 = (n : Int) := by
  induction n using Nat.strongRecOn with
  | _ n ih =>
    unfold decs
    split
    · simp only [List.foldl_cons, List.foldl_nil, sat]
      rw [if_neg (by omega)]
      omega
    · rw [List.foldl_append, ih (n / 10) (by omega) (by omega)]
      simp only [List.foldl_cons, List.foldl_nil, sat]
      rw [if_neg (by omega)]
      omega

theorem decs_pos (n : Nat) : 0 < (decs n).length := by
  unfold decs
  split
  · simp
  · simp

theorem digit_bytes (r : Nat) (h : r < 10) : bytesOf ((⟨#[48, 49, 50, 51, 52, 53, 54, 55, 56, 57]⟩ : ByteArray).extract r (r + 1)) = [48 + (r : Int)] := by
  rcases (by omega : r = 0 ∨ r = 1 ∨ r = 2 ∨ r = 3 ∨ r = 4 ∨ r = 5 ∨ r = 6 ∨ r = 7 ∨ r = 8 ∨ r = 9) with rfl | rfl | rfl | rfl | rfl | rfl | rfl | rfl | rfl | rfl <;> rfl

theorem size_of_bytes {s : ByteArray} {l : List Int} (h : bytesOf s = l) : s.size = l.length := by rw [← bytesOf_length, h]

section
variable (x0 x1 x2 x3 : Int) (r : Bool)

theorem loop0 (n : Nat) : ∀ acc : ByteArray, n < 9223372036854775808 → acc.size + n ≤ 9223372036854775807 → (0 < n ∨ acc.size = 0) →
    (∀ s, bytesOf s = decs n ++ bytesOf acc → Ev (fun k => ostiarylaw1_InfraNumerals.l1 k x0 x1 x2 x3 s 0) r) →
    Ev (fun k => ostiarylaw1_InfraNumerals.l0 k x0 x1 x2 x3 acc (n : Int)) r := by
  induction n using Nat.strongRecOn with
  | _ n ih =>
    intro acc hn hsz hor hk
    have em : (n : Int).tmod 10 = ((n % 10 : Nat) : Int) := by rw [Int.tmod_eq_emod_of_nonneg (by omega)]; omega
    have ed : (n : Int).tdiv 10 = ((n / 10 : Nat) : Int) := by rw [Int.tdiv_eq_ediv_of_nonneg (by omega)]; omega
    have ew : wrap64 (((n % 10 : Nat) : Int) + 1) = ((n % 10 + 1 : Nat) : Int) := by rw [wrap_in (by omega)]; rfl
    have ew2 : wrap64 ((n / 10 : Nat) : Int) = ((n / 10 : Nat) : Int) := wrap_in (by omega)
    obtain ⟨D, hD⟩ : ∃ D, D = (⟨#[48, 49, 50, 51, 52, 53, 54, 55, 56, 57]⟩ : ByteArray).extract (n % 10) (n % 10 + 1) := ⟨_, rfl⟩
    have hDb : bytesOf D = [48 + ((n % 10 : Nat) : Int)] := by rw [hD]; exact digit_bytes (n % 10) (by omega)
    have hDs : D.size = 1 := size_of_bytes hDb
    have one : ∀ k, ostiarylaw1_InfraNumerals.l0 (k + 1) x0 x1 x2 x3 acc (n : Int) = ostiarylaw1_InfraNumerals.l0 k x0 x1 x2 x3 (D ++ acc) ((n / 10 : Nat) : Int) := by
      intro k
      simp only [ostiarylaw1_InfraNumerals.l0]
      rw [em, ed, ew, ew2, Int.toNat_natCast, Int.toNat_natCast, ← hD, hDs, if_pos (show (0 : Int) ≤ ((n % 10 : Nat) : Int) by omega), if_pos (show ((n % 10 : Nat) : Int) ≤ ((n % 10 + 1 : Nat) : Int) by omega), if_pos (show ((n % 10 + 1 : Nat) : Int) ≤ 10 by omega), if_pos (show 1 + acc.size ≤ 9223372036854775807 by omega)]
      by_cases h0 : (n : Int) > 0
      · rw [if_pos h0]
      · rw [if_neg h0, if_pos]
        rw [toList_nil]
        have : acc.size = 0 := by omega
        have := bytesOf_length acc
        exact List.length_eq_zero_iff.mp (by omega)
    have hDa : (D ++ acc).size = 1 + acc.size := by rw [ByteArray.size_append, hDs]
    refine Ev.step one ?_
    by_cases h10 : n < 10
    · have e0 : n / 10 = 0 := by omega
      rw [e0]
      refine Ev.step (f := fun k => ostiarylaw1_InfraNumerals.l1 k x0 x1 x2 x3 (D ++ acc) 0) (fun k => ?_) (hk _ ?_)
      · simp only [ostiarylaw1_InfraNumerals.l0]
        rw [if_neg (by omega), if_neg]
        rw [toList_nil]
        intro hnil
        have := size_of_bytes hnil
        rw [List.length_nil] at this
        omega
      · rw [bytesOf_append, hDb]
        unfold decs
        rw [if_pos h10, Nat.mod_eq_of_lt h10]
    · refine ih (n / 10) (by omega) _ (by omega) (by omega) (.inl (by omega)) (fun s hs => hk s ?_)
      rw [hs, bytesOf_append, hDb]
      conv => rhs; unfold decs
      rw [if_neg h10, List.append_assoc]

theorem loop1 (z : Int) (hz : 0 ≤ z ∧ z ≤ 20) (hw : ostiarybook_Within.f x1 0 20 = some z) (d : Nat) : ∀ (i : Nat) (s : ByteArray), z.toNat - i = d → (i : Int) ≤ z → s.size + d < 1000 →
    (∀ t, bytesOf t = List.replicate d 48 ++ bytesOf s → Ev (fun k => (infra_Int.f k t).bind fun p => if t.size + 1 ≤ 9223372036854775807 then ((infra_Int.f k (t ++ (⟨#[53]⟩ : ByteArray))).bind fun q => (if p.2 = true then (if p.1 = x0 then (if q.2 = true then (ostiarylaw1_InfraNumerals.j3 k x2 x3 t (decide (q.1 < p.1))) else (ostiarylaw1_InfraNumerals.j3 k x2 x3 t true)) else (ostiarylaw1_InfraNumerals.j3 k x2 x3 t true)) else (ostiarylaw1_InfraNumerals.j3 k x2 x3 t true))) else none) r) →
    Ev (fun k => ostiarylaw1_InfraNumerals.l1 k x0 x1 x2 x3 s (i : Int)) r := by
  induction d with
  | zero =>
    intro i s hd hi hs hk
    refine Ev.step (fun k => ?_) (hk s (by simp))
    simp only [ostiarylaw1_InfraNumerals.l1]
    rw [hw, Option.bind_some, if_neg (by omega)]
  | succ d ih =>
    intro i s hd hi hs hk
    have hw1 : wrap64 ((i : Int) + 1) = ((i + 1 : Nat) : Int) := by rw [wrap_in (by omega)]; rfl
    refine Ev.step (f := fun k => ostiarylaw1_InfraNumerals.l1 k x0 x1 x2 x3 ((⟨#[48]⟩ : ByteArray) ++ s) ((i + 1 : Nat) : Int)) (fun k => ?_) (ih (i + 1) _ (by omega) (by omega) ?_ (fun t ht => hk t ?_))
    · simp only [ostiarylaw1_InfraNumerals.l1]
      rw [hw, Option.bind_some, if_pos (by omega), if_pos (by omega), hw1]
    · rw [ByteArray.size_append]
      have : (⟨#[48]⟩ : ByteArray).size = 1 := rfl
      omega
    · rw [ht, bytesOf_append, show bytesOf (⟨#[48]⟩ : ByteArray) = [48] from rfl, List.replicate_succ', List.append_assoc]

end

theorem zeros_fold (z : Nat) (l : List Int) : (List.replicate z (48 : Int) ++ l).foldl sat 0 = l.foldl sat 0 := by
  induction z with
  | zero => simp
  | succ z ih =>
    rw [List.replicate_succ, List.cons_append, List.foldl_cons, show sat 0 48 = 0 by decide]
    exact ih

theorem fold_in (l : List Int) (h : l.all dig = true) : ∀ n, 0 ≤ n ∧ n ≤ 9223372036854775807 → 0 ≤ l.foldl sat n ∧ l.foldl sat n ≤ 9223372036854775807 := by
  induction l with
  | nil => intro n hn; exact hn
  | cons x l ih =>
    intro n hn
    rw [List.all_cons, Bool.and_eq_true] at h
    exact ih h.2 _ (sat_in hn h.1)

theorem decs_len (j : Nat) : ∀ n, n < 10 ^ (j + 1) → (decs n).length ≤ j + 1 := by
  induction j with
  | zero =>
    intro n hn
    unfold decs
    rw [if_pos (by omega)]
    simp
  | succ j ih =>
    intro n hn
    unfold decs
    split
    · simp
    · have := ih (n / 10) (by rw [Nat.pow_succ] at hn; omega)
      simp; omega

theorem tail (x0 x2 x3 : Int) (t : ByteArray) (hx3 : 0 ≤ x3 ∧ x3 < 256) (ht : t.size < 4611686018427387904) (hall : (bytesOf t).all dig = true) (hpos : 0 < t.size) (hf : (bytesOf t).foldl sat 0 = x0) :
    Ev (fun k => (infra_Int.f k t).bind fun p => if t.size + 1 ≤ 9223372036854775807 then ((infra_Int.f k (t ++ (⟨#[53]⟩ : ByteArray))).bind fun q => (if p.2 = true then (if p.1 = x0 then (if q.2 = true then (ostiarylaw1_InfraNumerals.j3 k x2 x3 t (decide (q.1 < p.1))) else (ostiarylaw1_InfraNumerals.j3 k x2 x3 t true)) else (ostiarylaw1_InfraNumerals.j3 k x2 x3 t true)) else (ostiarylaw1_InfraNumerals.j3 k x2 x3 t true))) else none) true := by
  have i1 : intAns (bytesOf t) = (x0, true) := by
    unfold intAns
    rw [hall, if_pos rfl, hf, bytesOf_length, decide_eq_true hpos]
  have h0 := fold_in (bytesOf t) hall 0 (by omega)
  rw [hf] at h0
  have b5 : bytesOf (t ++ (⟨#[53]⟩ : ByteArray)) = bytesOf t ++ [53] := bytesOf_append _ _
  have s5 : (t ++ (⟨#[53]⟩ : ByteArray)).size = t.size + 1 := by rw [ByteArray.size_append]; rfl
  have i2 : intAns (bytesOf (t ++ (⟨#[53]⟩ : ByteArray))) = (sat x0 53, true) := by
    unfold intAns
    rw [b5, List.all_append, hall, Bool.true_and, if_pos (by decide), List.foldl_append, hf]
    simp
  have hle : ¬ sat x0 53 < x0 := by unfold sat; split <;> omega
  refine Ev.bind (int_ev t (by omega)) ?_
  rw [i1]
  simp only [if_pos (show t.size + 1 ≤ 9223372036854775807 by omega)]
  refine Ev.bind (int_ev _ (by omega)) ?_
  rw [i2]
  simp only [if_true, decide_eq_false hle]
  obtain ⟨m, hm, hm0, hm1⟩ := within_some x2 (t.size : Int) (by omega)
  have b3 : bytesOf (t.extract 0 m.toNat ++ strOfNums [x3] ++ t.extract m.toNat t.size) = (bytesOf t).take m.toNat ++ [x3] ++ (bytesOf t).drop m.toNat := by
    rw [bytesOf_append, bytesOf_append, bytesOf_strOfNums [x3] (by simpa using hx3), bytesOf_extract, bytesOf_extract, List.drop_zero, List.take_of_length_le (show (bytesOf t).length ≤ t.size by rw [bytesOf_length]; exact Nat.le_refl _)]
  have s3 : (t.extract 0 m.toNat ++ strOfNums [x3] ++ t.extract m.toNat t.size).size = t.size + 1 := by
    rw [← bytesOf_length, b3]
    simp [bytesOf_length]
    omega
  have s1 : (t.extract 0 m.toNat).size + (strOfNums [x3]).size ≤ 9223372036854775807 := by
    rw [ByteArray.size_extract, strOfNums_size]; simp; omega
  have s2 : (t.extract 0 m.toNat ++ strOfNums [x3]).size + (t.extract m.toNat t.size).size ≤ 9223372036854775807 := by
    rw [← ByteArray.size_append, s3]; omega
  have hall2 : ((bytesOf t).take m.toNat ++ [x3] ++ (bytesOf t).drop m.toNat).all dig = dig x3 := by
    have : ((bytesOf t).take m.toNat ++ (bytesOf t).drop m.toNat).all dig = true := by rw [List.take_append_drop]; exact hall
    rw [List.all_append, Bool.and_eq_true] at this
    rw [List.all_append, List.all_append, this.1, this.2]
    simp
  have i3 : (intAns (bytesOf (t.extract 0 m.toNat ++ strOfNums [x3] ++ t.extract m.toNat t.size))).2 = dig x3 := by
    rw [b3]
    unfold intAns
    rw [hall2]
    cases dig x3
    · rfl
    · simp; omega
  refine Ev.step (f := fun k => (infra_Int.f k (t.extract 0 m.toNat ++ strOfNums [x3] ++ t.extract m.toNat t.size)).bind fun q => if x3 ≥ 48 then (if (q.2 == decide (x3 ≤ 57)) = true then ((ostiarylaw1_known.f k).bind fun t200 => (some t200)) else (some false)) else (if (q.2 == false) = true then ((ostiarylaw1_known.f k).bind fun t201 => (some t201)) else (some false))) (fun k => ?_) ?_
  · simp only [ostiarylaw1_InfraNumerals.j3]
    rw [hm]
    simp only [Option.bind_some, Bool.false_eq_true, if_false]
    rw [if_pos hm0, if_pos hm1, if_pos s1, if_pos s2]
  · refine Ev.bind (int_ev _ (by omega)) ?_
    have hkn : Ev (fun k => (ostiarylaw1_known.f k).bind fun t => some t) true := Ev.bind known_ev (Ev.now true)
    by_cases h48 : x3 ≥ 48
    · simp only [if_pos h48]
      rw [i3, show dig x3 = decide (x3 ≤ 57) by unfold dig; rw [decide_eq_true h48, Bool.true_and]]
      simpa using hkn
    · simp only [if_neg h48]
      rw [i3, show dig x3 = false by unfold dig; rw [decide_eq_false (by omega), Bool.false_and]]
      simpa using hkn

theorem InfraNumerals : ostiarylaw1_InfraNumerals.Pure := by
  intro a0 a1 a2 a3 w0 w1 w2 w3
  have b0 : -9223372036854775808 ≤ a0 ∧ a0 ≤ 9223372036854775807 := by simpa [Lit.wf, IntKind.min, IntKind.max, IntKind.signed, IntKind.bits] using w0
  have b2 : -9223372036854775808 ≤ a2 ∧ a2 ≤ 9223372036854775807 := by simpa [Lit.wf, IntKind.min, IntKind.max, IntKind.signed, IntKind.bits] using w2
  have b3 : 0 ≤ a3 ∧ a3 ≤ 255 := by simpa [Lit.wf, IntKind.min, IntKind.max, IntKind.signed, IntKind.bits] using w3
  obtain ⟨z, hz, hz0, hz1⟩ := within_some a1 20 (by omega)
  have main : ∀ n : Nat, n ≤ 9223372036854775807 → Ev (fun k => ostiarylaw1_InfraNumerals.j0 k (n : Int) a1 a2 a3) true := by
    intro n hn
    refine Ev.step (f := fun k => ostiarylaw1_InfraNumerals.l0 k (n : Int) a1 a2 a3 (⟨#[]⟩ : ByteArray) (n : Int)) (fun k => by simp only [ostiarylaw1_InfraNumerals.j0]) ?_
    refine loop0 (n : Int) a1 a2 a3 true n _ (by omega) (by rw [show (⟨#[]⟩ : ByteArray).size = 0 from rfl]; omega) (.inr rfl) (fun s hs => ?_)
    rw [show bytesOf (⟨#[]⟩ : ByteArray) = [] from rfl, List.append_nil] at hs
    have hl := decs_len 18 n (by omega)
    have hp := decs_pos n
    have hsz := size_of_bytes hs
    refine loop1 (n : Int) a1 a2 a3 true z ⟨hz0, hz1⟩ hz z.toNat 0 s (by omega) (by omega) (by omega) (fun t ht => ?_)
    rw [hs] at ht
    have htz := size_of_bytes ht
    rw [List.length_append, List.length_replicate] at htz
    refine tail (n : Int) a2 a3 t (by omega) (by omega) ?_ (by omega) ?_
    · rw [ht, List.all_append, decs_all, Bool.and_true, List.all_replicate]
      simp [dig]
    · rw [ht, zeros_fold, decs_fold n hn]
  by_cases hneg : a0 < 0
  · obtain ⟨n, hn⟩ : ∃ n : Nat, -(a0 + 1) = (n : Int) := ⟨(-(a0 + 1)).toNat, by omega⟩
    obtain ⟨k, hk⟩ := (main n (by omega)).rounds
    refine ⟨k, ?_⟩
    unfold ostiarylaw1_InfraNumerals.f
    rw [if_pos hneg, wrap_in (x := a0 + 1) (by omega), wrap_in (by omega), hn]
    exact hk
  · obtain ⟨n, hn⟩ : ∃ n : Nat, a0 = (n : Int) := ⟨a0.toNat, by omega⟩
    subst hn
    obtain ⟨k, hk⟩ := (main n (by omega)).rounds
    refine ⟨k, ?_⟩
    unfold ostiarylaw1_InfraNumerals.f
    rw [if_neg hneg]
    exact hk

end Go.Proofs.Ytcnjbbgecopjmaa.Pure
