/- Walk of InfraTokens: for any two texts it answers true. -/
import Derived.Test.YtcnjbbgecopjmaaDoorLow
namespace Go.Proofs.YtcnjbbgecopjmaaDoor.Own
open Go.RowKit Go.Proofs.YtcnjbbgecopjmaaDoor.PX Go.Proofs.YtcnjbbgecopjmaaDoor.Pl Go.Proofs.YtcnjbbgecopjmaaDoorW.PrintWords Go.Proofs.YtcnjbbgecopjmaaDoorW.PrintLast Go.Proofs.YtcnjbbgecopjmaaDoorW.PrintMore

theorem few_str (s : ByteArray) (w : World) : Calls Tryd.prog 10 #[.string s, .int .i64 300] w fun e w' => ∃ t : ByteArray, t.size ≤ 300 ∧ e = .returned (.string t) ∧ Below w.heap.size w w' := by
  by_cases h : (s.size : Int) > 300
  · have hf : ostiarykeep_Few.f s 300 = some (s.extract 0 300) := by
      unfold ostiarykeep_Few.f
      rw [if_pos h, if_pos (by omega), if_pos (by omega)]
      rfl
    exact (ostiarykeep_Few.calls s 300 _ w hf).mono fun e w' hh => ⟨_, by rw [ByteArray.size_extract]; omega, hh.1, hh.2.below⟩
  · have hf : ostiarykeep_Few.f s 300 = some s := by
      unfold ostiarykeep_Few.f
      rw [if_neg h]
    exact (ostiarykeep_Few.calls s 300 _ w hf).mono fun e w' hh => ⟨s, by omega, hh.1, hh.2.below⟩

theorem tokAns_two (l m : List Int) : tokAns (l ++ m) = ((tokAns l || l.isEmpty) && (tokAns m || m.isEmpty) && !(l ++ m).isEmpty) := by
  unfold tokAns
  rw [List.all_append]
  rcases l with _ | ⟨a, l⟩ <;> rcases m with _ | ⟨b, m⟩ <;> simp

theorem tok32 : tok 32 = false := by decide +kernel

theorem tokAns_blank (l m : List Int) : tokAns (l ++ [32] ++ m) = false := by
  unfold tokAns
  rw [List.all_append, List.all_append, List.all_cons, tok32]
  simp

theorem drop_again (p : Int → Bool) (l : List Int) : (l.dropWhile p).dropWhile p = l.dropWhile p := by
  induction l with
  | nil => rfl
  | cons c l ih =>
    rw [List.dropWhile_cons]
    split
    · exact ih
    · rename_i h
      rw [List.dropWhile_cons, if_neg h]

theorem rtrim_rtrim (l : List Int) : rtrim (rtrim l) = rtrim l := by
  unfold rtrim
  rw [List.reverse_reverse, drop_again]

theorem strip_strip (l : List Int) : strip (strip l) = strip l := by
  have h1 : rtrim (strip l) = strip l := by rw [strip_swap, rtrim_rtrim]
  unfold strip at h1 ⊢
  rw [h1, drop_again]

theorem strip_in (l : List Int) : strip ([32, 10] ++ l ++ [9, 32]) = strip l := by
  have h9 : Pl.blank 9 = true := rfl
  have h10 : Pl.blank 10 = true := rfl
  have h32 : Pl.blank 32 = true := rfl
  have e : strip ([32, 10] ++ l ++ [9, 32]) = strip ([32, 10] ++ l) := by
    unfold strip
    rw [show [32, 10] ++ l ++ [9, 32] = ([32, 10] ++ l ++ [9]) ++ [32] by simp, rtrim_snoc, if_pos h32, rtrim_snoc, if_pos h9]
  rw [e, strip_swap, strip_swap, show [32, 10] ++ l = 32 :: 10 :: l from rfl, List.dropWhile_cons, if_pos h32, List.dropWhile_cons, if_pos h10]

set_option linter.unusedSimpArgs false in
set_option maxHeartbeats 4000000 in
set_option maxRecDepth 100000 in
theorem tokens_any (a0 b0 : ByteArray) (W : World) : Calls Tryd.prog 4 #[.string a0, .string b0] W fun e w' => e = .returned (.bool true) ∧ Below W.heap.size W w' := by
  go_enter Tryd.func4, Tryd.ntmps4
  go_wp2_with fail
  refine (few_str a0 _).mono ?_
  rintro e w1 ⟨a, ha, rfl, hb1⟩
  go_wp2_with fail
  refine (few_str b0 _).mono ?_
  rintro e w2 ⟨b, hb, rfl, hb2⟩
  replace hb2 := below_step hb1 hb2
  clear hb1
  have hls : (9223372036854775807 < a.size + b.size) = False := eq_false (by omega)
  have hls2 : (9223372036854775807 < a.size + 1) = False := eq_false (by omega)
  have hls3 : (9223372036854775807 < a.size + 1 + b.size) = False := eq_false (by omega)
  have htwo := tokAns_two (bytesOf a) (bytesOf b)
  rw [← bytesOf_append] at htwo
  have hnil : ∀ s : ByteArray, (bytesOf s).isEmpty = s.toList.isEmpty := fun s => by
    rw [Bool.eq_iff_iff, List.isEmpty_iff, List.isEmpty_iff, toList_nil]
  rw [hnil, hnil, hnil] at htwo
  have happ : (a ++ b).toList.isEmpty = (a.toList.isEmpty && b.toList.isEmpty) := by
    rw [← hnil, ← hnil, ← hnil, bytesOf_append]
    rcases bytesOf a with _ | ⟨x, l⟩ <;> rcases bytesOf b with _ | ⟨y, m⟩ <;> rfl
  have hta := tok_any a (by omega)
  have htb := tok_any b (by omega)
  have htt := tok_any (a ++ b) (by rw [ByteArray.size_append]; omega)
  have hbl := tok_any (a ++ (⟨#[32]⟩ : ByteArray) ++ b) (by rw [ByteArray.size_append, ByteArray.size_append, show (⟨#[32]⟩ : ByteArray).size = 1 from rfl]; omega)
  have h32 : tokAns (bytesOf (a ++ (⟨#[32]⟩ : ByteArray) ++ b)) = false := by
    rw [bytesOf_append, bytesOf_append]
    exact tokAns_blank _ _
  rw [h32] at hbl
  generalize tokAns (bytesOf a) = Ta at *
  generalize tokAns (bytesOf b) = Tb at *
  generalize tokAns (bytesOf (a ++ b)) = Tt at *
  have HTA := Lib.hid hta
  have HTB := Lib.hid htb
  have HTT := Lib.hid htt
  have HBL := Lib.hid hbl
  have HTWO := Lib.hid htwo
  have HAPP := Lib.hid happ
  clear hta htb hbl h32 htt htwo happ hnil
  go_upto_region 3 with fail
  go_cut [42] (fun v wc => v = .bool false ∧ Below W.heap.size W wc)
  case first =>
    have H2 := Lib.hid hb2
    clear hb2
    by_cases hea : a.toList = [] <;> by_cases heb : b.toList = [] <;> cases Ta <;> cases Tb
    all_goals
      first
        | (have hEa : a.toList.isEmpty = true := List.isEmpty_iff.mpr hea)
        | (have hEa : a.toList.isEmpty = false := eq_false_of_ne_true (fun h => hea (List.isEmpty_iff.mp h)))
      first
        | (have hEb : b.toList.isEmpty = true := List.isEmpty_iff.mpr heb)
        | (have hEb : b.toList.isEmpty = false := eq_false_of_ne_true (fun h => heb (List.isEmpty_iff.mp h)))
      have hEab := HAPP.out
      have hTt := HTWO.out
      rw [hEab, hEa, hEb] at hTt
      rw [hEa, hEb] at hEab
      simp only [Bool.and_true, Bool.true_and, Bool.and_false, Bool.false_and, Bool.or_true, Bool.or_false, Bool.true_or, Bool.false_or, Bool.not_true, Bool.not_false] at hTt hEab
      subst hTt
      have hNa := congrArg Bool.not hEa
      have hNb := congrArg Bool.not hEb
      have hNab := congrArg Bool.not hEab
      simp only [Bool.not_true, Bool.not_false] at hNa hNb hNab
      go_wp2_with fail
      refine (HTT.out _).mono ?_
      rintro e w3 ⟨rfl, hb3⟩
      have H3 := Lib.hid (below_step H2.out hb3)
      clear hb3
      go_wp2_with fail
      refine (HTA.out _).mono ?_
      rintro e w4 ⟨rfl, hb4⟩
      have H4 := Lib.hid (below_step H3.out hb4)
      clear hb4
      go_wp2_with (first
        | (go_at_call_of 11 (Value.string b); (with_reducible refine (HTB.out _).mono ?_); rintro e w5 ⟨rfl, hb5⟩; have H5 := Lib.hid (below_step H4.out hb5); clear hb5)
        | (go_at_call_of 11 (Value.string (a ++ (⟨#[32]⟩ : ByteArray) ++ b)); (with_reducible refine (HBL.out _).mono ?_); rintro e w6 ⟨rfl, hb6⟩; have H6 := Lib.hid (below_step (by first | exact H5.out | exact H4.out) hb6); clear hb6))
      go_meet
      case rel => exact ⟨rfl, H6.out⟩
  case rest =>
    obtain ⟨rfl, hbc⟩ := hcut
    have hxa := strip_any a (by omega)
    have hya := lower_any a (by omega)
    have hzb := lower_any b (by omega)
    have hxs : (strip (bytesOf a)).length ≤ 300 := by
      have := strip_len (bytesOf a)
      rw [bytesOf_length] at this
      omega
    obtain ⟨x, hx⟩ : ∃ x, x = strOfNums (strip (bytesOf a)) := ⟨_, rfl⟩
    obtain ⟨y, hy⟩ : ∃ y, y = strOfNums (low (bytesOf a)) := ⟨_, rfl⟩
    obtain ⟨z, hz⟩ : ∃ z, z = strOfNums (low (bytesOf b)) := ⟨_, rfl⟩
    have bx : bytesOf x = strip (bytesOf a) := by rw [hx, bytesOf_strOfNums _ (strip_range _ (bytesOf_range a))]
    have bY : bytesOf y = low (bytesOf a) := by rw [hy, bytesOf_strOfNums _ (low_range _ (bytesOf_range a))]
    have bz : bytesOf z = low (bytesOf b) := by rw [hz, bytesOf_strOfNums _ (low_range _ (bytesOf_range b))]
    have sx : x.size ≤ 300 := by rw [← bytesOf_length, bx]; exact hxs
    have sy : y.size = a.size := by rw [← bytesOf_length, bY, low_length, bytesOf_length]
    have sz : z.size = b.size := by rw [← bytesOf_length, bz, low_length, bytesOf_length]
    have hxx := strip_any x (by omega)
    rw [bx, strip_strip, ← hx] at hxx
    have hyy := lower_any y (by omega)
    rw [bY, low_low, ← hy] at hyy
    have hin := strip_any ((⟨#[32, 10]⟩ : ByteArray) ++ a ++ (⟨#[9, 32]⟩ : ByteArray)) (by rw [ByteArray.size_append, ByteArray.size_append, show (⟨#[32, 10]⟩ : ByteArray).size = 2 from rfl, show (⟨#[9, 32]⟩ : ByteArray).size = 2 from rfl]; omega)
    rw [bytesOf_append, bytesOf_append, show bytesOf (⟨#[32, 10]⟩ : ByteArray) = [32, 10] from rfl, show bytesOf (⟨#[9, 32]⟩ : ByteArray) = [9, 32] from rfl, strip_in, ← hx] at hin
    have hab := lower_any (a ++ b) (by rw [ByteArray.size_append]; omega)
    have hyz : strOfNums (low (bytesOf (a ++ b))) = y ++ z := by
      apply bytesOf_inj
      rw [bytesOf_strOfNums _ (low_range _ (bytesOf_range _)), bytesOf_append, low_append, bytesOf_append, bY, bz]
    rw [hyz] at hab
    rw [← hx] at hxa
    rw [← hy] at hya
    rw [← hz] at hzb
    have HXA := Lib.hid hxa
    have HYA := Lib.hid hya
    have HZB := Lib.hid hzb
    have HXX := Lib.hid hxx
    have HYY := Lib.hid hyy
    have HIN := Lib.hid hin
    have HAB := Lib.hid hab
    have hsy : ((y.size : Int) == (a.size : Int)) = true := by rw [sy]; exact beq_self_eq_true _
    have hsy2 : (y.size == a.size) = true := by rw [sy]; exact beq_self_eq_true _
    have hl4 : (9223372036854775807 < 2 + a.size) = False := eq_false (by omega)
    have hl5 : (9223372036854775807 < 2 + a.size + 2) = False := eq_false (by omega)
    have hl6 : (9223372036854775807 < y.size + z.size) = False := eq_false (by omega)
    have SY := Lib.hid sy
    clear hxa hya hzb hxx hyy hin hab hyz hx hy hz bx bY bz hxs sx sy sz
    go_wp2_with fail
    refine (HXA.out _).mono ?_
    rintro e w3 ⟨rfl, hb3⟩
    replace hb3 := below_step hbc hb3
    go_wp2_with fail
    refine (HYA.out _).mono ?_
    rintro e w4 ⟨rfl, hb4⟩
    replace hb4 := below_step hb3 hb4
    go_wp2_with fail
    refine (HXX.out _).mono ?_
    rintro e w5 ⟨rfl, hb5⟩
    replace hb5 := below_step hb4 hb5
    go_wp2_with fail
    refine (HYY.out _).mono ?_
    rintro e w6 ⟨rfl, hb6⟩
    replace hb6 := below_step hb5 hb6
    go_wp2_with fail
    refine (HIN.out _).mono ?_
    rintro e w7 ⟨rfl, hb7⟩
    replace hb7 := below_step hb6 hb7
    go_wp2_with fail
    refine (HAB.out _).mono ?_
    rintro e w8 ⟨rfl, hb8⟩
    replace hb8 := below_step hb7 hb8
    go_wp2_with fail
    refine (HZB.out _).mono ?_
    rintro e w9 ⟨rfl, hb9⟩
    replace hb9 := below_step hb8 hb9
    go_wp2_with fail
    refine (known_any _).mono ?_
    rintro e w10 ⟨rfl, hb10⟩
    replace hb10 := below_step hb9 hb10
    go_wp2_with fail
    go_ret
    exact ⟨rfl, hb10⟩

end Go.Proofs.YtcnjbbgecopjmaaDoor.Own
