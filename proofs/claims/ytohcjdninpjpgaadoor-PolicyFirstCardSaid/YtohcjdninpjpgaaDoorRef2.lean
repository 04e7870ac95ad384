/- Plain law: the reference's Text and Values against the program's. -/
import Derived.Test.YtohcjdninpjpgaaDoorRef
import Derived.Test.YtohcjdninpjpgaaDoorPXx7
namespace Go.Proofs.YtohcjdninpjpgaaDoor.Pl
open Go.RowKit Go.Proofs.YtohcjdninpjpgaaDoor.PX Go.Proofs.YtohcjdninpjpgaaDoor.Own Go.Proofs.YtohcjdninpjpgaaDoorW.PrintWords Go.Proofs.YtohcjdninpjpgaaDoorW.PrintLast Go.Proofs.YtohcjdninpjpgaaDoorW.PrintMore

theorem toL_append (a b : ByteArray) : toL (a ++ b) = toL a ++ toL b := by simp [toL, ByteArray.data_append]

theorem rdS_at {l : List ByteArray} {i : Nat} (h : i < l.length) : rdOf ByteArray.empty l (i : Int) = l[i] := by
  unfold rdOf
  rw [Int.toNat_natCast, List.getD_eq_getElem?_getD, List.getElem?_eq_getElem h]
  rfl

theorem size_toL (s : ByteArray) : s.size = (toL s).length := (toL_length s).symm

/-- One rule's words behind what stands. -/
theorem rtext_l1 (rep : Bool) (l : List S52) (i : Nat) (hi : i < l.length) (L : Nat) (hx : (ruleT l[i]).length ≤ L ∧ l[i].f1.length ≤ L) (hL : L ≤ 1000) (K : Nat) (base : ByteArray) (hb : base.size ≤ 1000000) : ∀ (d j : Nat) (out : ByteArray), j + d = l[i].f1.length →
    toL out = toL base ++ (toL l[i].f0 ++ Lib.joinTail [32] ((l[i].f1.map toL).take j)) →
    ∃ out', toL out' = toL base ++ ruleT l[i] ∧ ostiaryref10_Text.l1 (K + d + 1) out (i : Int) (j : Int) (l.map cv) rep = ostiaryref10_Text.l0 K out' (wrap64 ((i : Int) + 1)) (l.map cv) rep := by
  intro d
  have hR : ruleT l[i] = toL l[i].f0 ++ Lib.joinTail [32] (l[i].f1.map toL) := by
    unfold ruleT
    rw [List.map_cons, Lib.join_cons]
  have hcv : (l.map cv).length = l.length := List.length_map _
  have hrd : rd_T69 (l.map cv) (i : Int) = cv l[i] := by
    rw [rd69_at (by rw [hcv]; exact hi), List.getElem_map]
  induction d with
  | zero =>
    intro j out hj ho
    refine ⟨out, ?_, ?_⟩
    · rw [ho, hR, List.take_of_length_le (by rw [List.length_map]; omega)]
    · rw [ostiaryref10_Text.l1, hcv, if_pos (by omega), if_pos (by omega), hrd, if_neg (by show ¬ (j : Int) < (l[i].f1.length : Int); omega)]
  | succ d ih =>
    intro j out hj ho
    have hlt : j < l[i].f1.length := by omega
    have hw : wrap64 ((j : Int) + 1) = ((j + 1 : Nat) : Int) := by rw [wrap_in (by omega)]; omega
    have hpart := Lib.joinTail_take_le [32] (l[i].f1.map toL) (j + 1)
    have htake : Lib.joinTail [32] ((l[i].f1.map toL).take (j + 1)) = Lib.joinTail [32] ((l[i].f1.map toL).take j) ++ [32] ++ toL (l[i].f1[j]) :=
      Lib.joinTail_take_succ [32] _ j _ (by rw [List.getElem?_map, List.getElem?_eq_getElem hlt]; rfl)
    have hsz : (toL base ++ (toL l[i].f0 ++ Lib.joinTail [32] ((l[i].f1.map toL).take (j + 1)))).length ≤ 1000000 + L := by
      have := congrArg List.length hR
      rw [List.length_append] at this
      rw [List.length_append, List.length_append, toL_length base]
      omega
    rw [htake] at hsz
    have hos : out.size = (toL base ++ (toL l[i].f0 ++ Lib.joinTail [32] ((l[i].f1.map toL).take j))).length := by rw [size_toL, ho]
    have hall : out.size + 1 + l[i].f1[j].size ≤ 1000000 + L := by
      simp only [List.length_append, List.length_cons, List.length_nil, toL_length] at hsz hos
      omega
    have h32 : (out ++ (⟨#[32]⟩ : ByteArray)).size = out.size + 1 := by rw [ByteArray.size_append]; rfl
    obtain ⟨out', h1, h2⟩ := ih (j + 1) ((out ++ (⟨#[32]⟩ : ByteArray)) ++ l[i].f1[j]) (by omega) (by
      rw [toL_append, toL_append, ho, htake]
      simp only [List.append_assoc])
    refine ⟨out', h1, ?_⟩
    rw [show K + (d + 1) + 1 = (K + d + 1) + 1 by omega, ostiaryref10_Text.l1, hcv, if_pos (by omega), if_pos (by omega), hrd]
    rw [show (cv l[i]).f1 = l[i].f1 from rfl, rdS_at hlt, if_pos (by omega), if_pos (by omega), if_pos (by omega), if_pos (by rw [h32]; omega), hw]
    exact h2

theorem textL_take {l : List S52} {i : Nat} (hi : i < l.length) : textL (l.take (i + 1)) = (if i = 0 then [] else textL (l.take i) ++ [59, 32]) ++ ruleT l[i] := by
  unfold textL
  cases l with
  | nil => simp at hi
  | cons x r =>
    cases i with
    | zero => simp [Lib.join_one]
    | succ i =>
      have hi' : i < r.length := by simpa using hi
      rw [List.take_succ_cons, List.take_succ_cons, List.map_cons, List.map_cons, Lib.join_cons, Lib.join_cons, List.map_take, List.map_take, Lib.joinTail_take_succ [59, 32] (r.map ruleT) i (ruleT r[i]) (by rw [List.getElem?_map, List.getElem?_eq_getElem hi']; rfl)]
      simp [List.append_assoc]

theorem rtext_l0 (rep : Bool) (l : List S52) (L : Nat) (hI : InvR L l) (hL : L ≤ 1000) : ∀ (d i : Nat) (out : ByteArray) (K : Nat), i + d = l.length → toL out = textL (l.take i) → 1100 * d + 1 ≤ K →
    ostiaryref10_Text.l0 K out (i : Int) (l.map cv) rep = some (textS l) := by
  intro d
  have hcv : (l.map cv).length = l.length := List.length_map _
  induction d with
  | zero =>
    intro i out K hi ho hK
    obtain ⟨K, rfl⟩ : ∃ k, K = k + 1 := ⟨K - 1, by omega⟩
    rw [ostiaryref10_Text.l0, hcv, if_neg (by omega)]
    rw [List.take_of_length_le (by omega)] at ho
    have : out = textS l := data_inj (by rw [show out.data.toList = textL l from ho]; rfl)
    rw [this]
  | succ d ih =>
    intro i out K hi ho hK
    have hlt : i < l.length := by omega
    have hfew := hI.few
    have hw : wrap64 ((i : Int) + 1) = ((i + 1 : Nat) : Int) := by rw [wrap_in (by omega)]; omega
    have hx := hI.len l[i] (List.getElem_mem hlt)
    have hrd : rd_T69 (l.map cv) (i : Int) = cv l[i] := by
      rw [rd69_at (by rw [hcv]; exact hlt), List.getElem_map]
    have hf0 : l[i].f0.size ≤ L := by
      have : (ruleT l[i]).length = l[i].f0.size + (Lib.joinTail [32] (l[i].f1.map toL)).length := by
        unfold ruleT
        rw [List.map_cons, Lib.join_cons, List.length_append, toL_length]
      omega
    have hIt : InvR L (l.take i) := ⟨fun x h => hI.good x (List.mem_of_mem_take h), fun x h => hI.len x (List.mem_of_mem_take h), List.Pairwise.sublist (List.take_sublist _ _) hI.apart, by have := hI.few; rw [List.length_take]; omega⟩
    have hosz : out.size ≤ 33 * L + 64 := by rw [size_toL, ho]; exact text_le _ hIt
    obtain ⟨K, rfl⟩ : ∃ k, K = k + l[i].f1.length + 1 + 2 := ⟨K - l[i].f1.length - 3, by omega⟩
    have step : ∀ base : ByteArray, base.size ≤ 1000000 → toL base = (if i = 0 then [] else textL (l.take i) ++ [59, 32]) → ostiaryref10_Text.j1 (K + l[i].f1.length + 1 + 1) base (i : Int) (l.map cv) rep = some (textS l) := by
      intro base hbs hbt
      obtain ⟨out', h1, h2⟩ := rtext_l1 rep l i hlt L hx hL K base hbs l[i].f1.length 0 (base ++ l[i].f0) (by omega) (by
        rw [toL_append, List.take_zero]
        simp [Lib.joinTail])
      rw [ostiaryref10_Text.j1, hcv, if_pos (by omega), if_pos (by omega), hrd, show (cv l[i]).f0 = l[i].f0 from rfl, if_pos (by omega)]
      rw [show ((0 : Nat) : Int) = 0 from rfl] at h2
      rw [h2, hw]
      exact ih (i + 1) out' K (by omega) (by rw [h1, hbt, textL_take hlt]) (by omega)
    rw [ostiaryref10_Text.l0, hcv, if_pos (by omega)]
    by_cases h0 : i = 0
    · rw [if_neg (by omega)]
      refine step out (by omega) ?_
      rw [ho, if_pos h0, h0]
      simp [textL, Lib.join_nil]
    · have hs2 : (out ++ (⟨#[59, 32]⟩ : ByteArray)).size = out.size + 2 := by rw [ByteArray.size_append]; rfl
      rw [if_pos (by omega), if_pos (by omega)]
      refine step _ (by omega) ?_
      rw [toL_append, ho, if_neg h0]

theorem rtext_f (rep : Bool) (l : List S52) (L : Nat) (hI : InvR L l) (hL : L ≤ 1000) (K : Nat) (hK : 40000 ≤ K) : ostiaryref10_Text.f K (l.map cv) rep = some (textS l) := by
  unfold ostiaryref10_Text.f
  have := hI.few
  exact rtext_l0 rep l L hI hL l.length 0 ⟨#[]⟩ K (by omega) (by simp [textL, Lib.join_nil, toL]) (by omega)

/-! ### Chain, Values -/

def bothS (o1 o2 : Option (List ByteArray)) : Prop := ∃ ch : List ByteArray, ch.length ≤ 4 ∧ o1 = some ch ∧ o2 = some ch

theorem bs_ite {c : Prop} [Decidable c] {a b a' b' : Option (List ByteArray)} (h1 : c → bothS a a') (h2 : ¬ c → bothS b b') : bothS (if c then a else b) (if c then a' else b') := by
  by_cases h : c
  · rw [if_pos h, if_pos h]; exact h1 h
  · rw [if_neg h, if_neg h]; exact h2 h

theorem bs_mk (ch : List ByteArray) (h : ch.length ≤ 4) {a b : Option (List ByteArray)} (ha : a = some ch) (hb : b = some ch) : bothS a b := ⟨ch, h, ha, hb⟩

theorem bs_frame (a : ByteArray) : bothS (if ([] : List ByteArray).length < 8796093022208 then ((some (([] : List ByteArray) ++ [a] : List ByteArray)).bind fun y112 => (if y112.length < 8796093022208 then ((some (y112 ++ [(⟨#[99, 104, 105, 108, 100, 45, 115, 114, 99]⟩ : ByteArray)] : List ByteArray)).bind fun y115 => (if y115.length < 8796093022208 then (some (y115 ++ [(⟨#[100, 101, 102, 97, 117, 108, 116, 45, 115, 114, 99]⟩ : ByteArray)])) else (none))) else (none))) else (none)) (some (([a, (⟨#[99, 104, 105, 108, 100, 45, 115, 114, 99]⟩ : ByteArray), (⟨#[100, 101, 102, 97, 117, 108, 116, 45, 115, 114, 99]⟩ : ByteArray)] : List ByteArray))) := by
  refine bs_mk [a, ⟨#[99, 104, 105, 108, 100, 45, 115, 114, 99]⟩, ⟨#[100, 101, 102, 97, 117, 108, 116, 45, 115, 114, 99]⟩] (by simp) ?_ rfl
  simp

theorem bs_j0 (K : Nat) (a : ByteArray) (b : Bool) : bothS (policy_Chain.j0 (K + 1) a ([] : List ByteArray) a b) (ostiaryref10_Chain.j0 (K + 1) a a b) := by
  rw [policy_Chain.j0, ostiaryref10_Chain.j0]
  refine bs_ite (fun _ => ?_) (fun _ => bs_ite (fun _ => ?_) (fun _ => ?_))
  · exact bs_mk [a, ⟨#[100, 101, 102, 97, 117, 108, 116, 45, 115, 114, 99]⟩] (by simp) (by simp) rfl
  · exact bs_mk [a] (by simp) (by simp) rfl
  · exact bs_mk [] (by simp) rfl rfl

theorem chain_eq (a : ByteArray) (K : Nat) : bothS (policy_Chain.f (K + 1) a) (ostiaryref10_Chain.f (K + 1) a) := by
  unfold policy_Chain.f ostiaryref10_Chain.f
  repeat' (first | exact bs_j0 K a _ | exact bs_frame a | exact bs_mk _ (by simp) rfl rfl | refine bs_ite (fun _ => ?_) (fun _ => ?_))

/-! ### Values -/

def valuesS (l : List S52) : List ByteArray → List ByteArray × ByteArray × Bool
  | [] => ([], ⟨#[]⟩, false)
  | n :: r => match l.find? (fun x => x.f0.toList == n.toList) with
    | some x => (x.f1, n, true)
    | none => valuesS l r

theorem ruleFrom_find (name : ByteArray) : ∀ (l : List S52) (i : Nat), match l.find? (fun x => x.f0.toList == name.toList) with
    | some x => ∃ j, j < l.length ∧ ruleFrom name l i = ((i + j : Nat) : Int) ∧ l[j]? = some x
    | none => ruleFrom name l i = -1
  | [], _ => rfl
  | x :: r, i => by
    rw [List.find?_cons, ruleFrom]
    cases e : (x.f0.toList == name.toList) with
    | true =>
      rw [if_pos rfl]
      exact ⟨0, by simp, rfl, rfl⟩
    | false =>
      rw [if_neg Bool.false_ne_true]
      have := ruleFrom_find name r (i + 1)
      simp only
      split at this
      · rename_i y hy
        obtain ⟨j, h1, h2, h3⟩ := this
        exact ⟨j + 1, by simp; omega, by rw [h2]; omega, by simpa using h3⟩
      · exact this

theorem values_l0 (l : List S52) (L : Nat) (hl : l.length ≤ 32) (hv : ∀ x ∈ l, x.f1.length ≤ L) (hL : L ≤ 1000) (rep : Bool) (ch : List ByteArray) (hc : ch.length ≤ 4) : ∀ (d i K : Nat), i + d = ch.length → d + 1 ≤ K →
    policy_Values.l0 K ch (ch.length : Int) (i : Int) l rep = some (valuesS l (ch.drop i)) := by
  intro d
  induction d with
  | zero =>
    intro i K hi hK
    obtain ⟨K, rfl⟩ : ∃ k, K = k + 1 := ⟨K - 1, by omega⟩
    rw [policy_Values.l0, if_neg (by omega), List.drop_of_length_le (by omega)]
    rfl
  | succ d ih =>
    intro i K hi hK
    obtain ⟨K, rfl⟩ : ∃ k, K = k + 1 := ⟨K - 1, by omega⟩
    have hlt : i < ch.length := by omega
    have hw : wrap64 ((i : Int) + 1) = ((i + 1 : Nat) : Int) := by rw [wrap_in (by omega)]; omega
    have hd : ch.drop i = ch[i] :: ch.drop (i + 1) := List.drop_eq_getElem_cons hlt
    have hf := ruleFrom_find ch[i] l 0
    rw [policy_Values.l0, if_pos (by omega), if_pos (by omega), if_pos (by omega), rdS_at hlt, hd, valuesS]
    unfold policy_Policy_rule.f policy_Rule.f
    rw [if_pos (by omega), Option.bind_some]
    split at hf
    · rename_i x hx
      obtain ⟨j, h1, h2, h3⟩ := hf
      rw [Nat.zero_add] at h2
      have hrd : rd_T52 l (j : Int) = x := by
        rw [rd_at h1]
        rw [List.getElem?_eq_getElem h1] at h3
        exact Option.some.inj h3
      have hm : x ∈ l := List.mem_of_find?_eq_some hx
      have hcl : slices_Clone_string_string.f x.f1 = some x.f1 := by
        unfold slices_Clone_string_string.f
        have := hv x hm
        rw [if_pos (by omega)]
      rw [h2, if_neg (by omega), if_pos (by omega), if_pos (by omega), hrd, Option.bind_some]
      simp only
      rw [if_pos trivial, hcl]
      rfl
    · rw [hf, if_pos (by decide), Option.bind_some]
      simp only
      rw [if_neg Bool.false_ne_true, hw]
      exact ih (i + 1) K (by omega) (by omega)

theorem rvalues_l1 (l : List S52) (rep : Bool) (ch : List ByteArray) (i : Nat) (hi : i < ch.length) (hl : l.length ≤ 32) (K : Nat) : ∀ (d j : Nat), j + d = l.length →
    ostiaryref10_Values.l1 (K + d + 1) ch (i : Int) (j : Int) (l.map cv) rep = match (l.drop j).find? (fun x => x.f0.toList == ch[i].toList) with
      | some x => some (x.f1, ch[i], true)
      | none => ostiaryref10_Values.l0 K ch (wrap64 ((i : Int) + 1)) (l.map cv) rep := by
  intro d
  have hcv : (l.map cv).length = l.length := List.length_map _
  induction d with
  | zero =>
    intro j hj
    rw [ostiaryref10_Values.l1, hcv, if_neg (by omega), List.drop_of_length_le (by omega)]
    rfl
  | succ d ih =>
    intro j hj
    have hlt : j < l.length := by omega
    have hw : wrap64 ((j : Int) + 1) = ((j + 1 : Nat) : Int) := by rw [wrap_in (by omega)]; omega
    have hd : l.drop j = l[j] :: l.drop (j + 1) := List.drop_eq_getElem_cons hlt
    have hrd : rd_T69 (l.map cv) (j : Int) = cv l[j] := by rw [rd69_at (by rw [hcv]; exact hlt), List.getElem_map]
    rw [show K + (d + 1) + 1 = (K + d + 1) + 1 by omega, ostiaryref10_Values.l1, hcv, if_pos (by omega), if_pos (by omega), if_pos (by omega), if_pos (by omega), hrd, rdS_at hi, hd, List.find?_cons]
    rw [show (cv l[j]).f0 = l[j].f0 from rfl, show (cv l[j]).f1 = l[j].f1 from rfl]
    by_cases e : l[j].f0.toList = ch[i].toList
    · rw [if_pos e, show (l[j].f0.toList == ch[i].toList) = true by simpa using e]
    · rw [if_neg e, show (l[j].f0.toList == ch[i].toList) = false by simpa using e, hw]
      exact ih (j + 1) (by omega)

theorem rvalues_l0 (l : List S52) (hl : l.length ≤ 32) (rep : Bool) (ch : List ByteArray) (hc : ch.length ≤ 4) : ∀ (d i K : Nat), i + d = ch.length → 40 * d + 1 ≤ K →
    ostiaryref10_Values.l0 K ch (i : Int) (l.map cv) rep = some (valuesS l (ch.drop i)) := by
  intro d
  induction d with
  | zero =>
    intro i K hi hK
    obtain ⟨K, rfl⟩ : ∃ k, K = k + 1 := ⟨K - 1, by omega⟩
    rw [ostiaryref10_Values.l0, if_neg (by omega), List.drop_of_length_le (by omega)]
    rfl
  | succ d ih =>
    intro i K hi hK
    obtain ⟨K, rfl⟩ : ∃ k, K = k + l.length + 1 + 1 := ⟨K - l.length - 2, by omega⟩
    have hlt : i < ch.length := by omega
    have hw : wrap64 ((i : Int) + 1) = ((i + 1 : Nat) : Int) := by rw [wrap_in (by omega)]; omega
    have hd : ch.drop i = ch[i] :: ch.drop (i + 1) := List.drop_eq_getElem_cons hlt
    have h1 := rvalues_l1 l rep ch i hlt hl K l.length 0 (by omega)
    rw [show ((0 : Nat) : Int) = 0 from rfl, List.drop_zero] at h1
    rw [ostiaryref10_Values.l0, if_pos (by omega), h1, hd, valuesS]
    cases hf : l.find? (fun x => x.f0.toList == ch[i].toList) with
    | some x => rfl
    | none =>
      simp only
      rw [hw]
      exact ih (i + 1) K (by omega) (by omega)

theorem values_eq (l : List S52) (L : Nat) (hl : l.length ≤ 32) (hv : ∀ x ∈ l, x.f1.length ≤ L) (hL : L ≤ 1000) (rep : Bool) (n : ByteArray) (K : Nat) (hK : 300 ≤ K) :
    ∃ v : List ByteArray × ByteArray × Bool, v.1.length ≤ 1000 ∧ policy_Values.f K l rep n = some v ∧ ostiaryref10_Values.f K (l.map cv) rep n = some v := by
  obtain ⟨K, rfl⟩ : ∃ k, K = k + 1 := ⟨K - 1, by omega⟩
  obtain ⟨ch, hc, h1, h2⟩ := chain_eq n K
  have hb : ∀ c : List ByteArray, (valuesS l c).1.length ≤ 1000 := by
    intro c
    induction c with
    | nil => simp [valuesS]
    | cons a r ih =>
      rw [valuesS]
      cases hf : l.find? (fun x => x.f0.toList == a.toList) with
      | some x => exact Nat.le_trans (hv x (List.mem_of_find?_eq_some hf)) hL
      | none => exact ih
  refine ⟨valuesS l ch, hb ch, ?_, ?_⟩
  · unfold policy_Values.f
    rw [h1, Option.bind_some]
    have := values_l0 l L hl hv hL rep ch hc ch.length 0 (K + 1) (by omega) (by omega)
    rw [List.drop_zero] at this
    exact this
  · unfold ostiaryref10_Values.f
    rw [h2, Option.bind_some]
    have := rvalues_l0 l hl rep ch hc ch.length 0 (K + 1) (by omega) (by omega)
    rw [List.drop_zero] at this
    exact this

end Go.Proofs.YtohcjdninpjpgaaDoor.Pl
