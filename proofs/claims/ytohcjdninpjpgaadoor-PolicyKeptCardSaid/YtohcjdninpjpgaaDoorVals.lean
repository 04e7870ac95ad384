/- Plain law: what the statement PolicyKept calls answers, and how much there is of it. -/
import Derived.Test.YtohcjdninpjpgaaDoorInv
namespace Go.Proofs.YtohcjdninpjpgaaDoor.Kp
open Go.RowKit Go.Proofs.YtohcjdninpjpgaaDoor.PX Go.Proofs.YtohcjdninpjpgaaDoor.Own Go.Proofs.YtohcjdninpjpgaaDoor.Pl Go.Proofs.YtohcjdninpjpgaaDoorW.PrintWords Go.Proofs.YtohcjdninpjpgaaDoorW.PrintLast Go.Proofs.YtohcjdninpjpgaaDoorW.PrintMore

theorem rdS_at {l : List ByteArray} {i : Nat} (h : i < l.length) : rdOf ByteArray.empty l (i : Int) = l[i] := by
  unfold rdOf
  rw [Int.toNat_natCast, List.getD_eq_getElem?_getD, List.getElem?_eq_getElem h]
  rfl

def valuesS (l : List S52) : List ByteArray → List ByteArray × ByteArray × Bool
  | [] => ([], ⟨#[]⟩, false)
  | n :: r => match l.find? (fun x => x.f0.toList == n.toList) with
    | some x => (x.f1, n, true)
    | none => valuesS l r

theorem ruleFrom_find (name : ByteArray) : ∀ (l : List S52) (i : Nat), match l.find? (fun x => x.f0.toList == name.toList) with
    | some x => ∃ j, j < l.length ∧ ruleFrom name l i = ((i + j : Nat) : Int) ∧ l[j]? = some x
    | none => ruleFrom name l i = -1
  | [], _ => rfl
  | x :: r, i => by
    rw [List.find?_cons, ruleFrom]
    cases e : (x.f0.toList == name.toList) with
    | true =>
      rw [if_pos rfl]
      exact ⟨0, by simp, rfl, rfl⟩
    | false =>
      rw [if_neg Bool.false_ne_true]
      have := ruleFrom_find name r (i + 1)
      simp only
      split at this
      · rename_i y hy
        obtain ⟨j, h1, h2, h3⟩ := this
        exact ⟨j + 1, by simp; omega, by rw [h2]; omega, by simpa using h3⟩
      · exact this

theorem values_l0 (l : List S52) (L : Nat) (hl : l.length ≤ 32) (hv : ∀ x ∈ l, x.f1.length ≤ L) (hL : L ≤ 1000) (rep : Bool) (ch : List ByteArray) (hc : ch.length ≤ 4) : ∀ (d i K : Nat), i + d = ch.length → d + 1 ≤ K →
    policy_Values.l0 K ch (ch.length : Int) (i : Int) l rep = some (valuesS l (ch.drop i)) := by
  intro d
  induction d with
  | zero =>
    intro i K hi hK
    obtain ⟨K, rfl⟩ : ∃ k, K = k + 1 := ⟨K - 1, by omega⟩
    rw [policy_Values.l0, if_neg (by omega), List.drop_of_length_le (by omega)]
    rfl
  | succ d ih =>
    intro i K hi hK
    obtain ⟨K, rfl⟩ : ∃ k, K = k + 1 := ⟨K - 1, by omega⟩
    have hlt : i < ch.length := by omega
    have hw : wrap64 ((i : Int) + 1) = ((i + 1 : Nat) : Int) := by rw [wrap_in (by omega)]; omega
    have hd : ch.drop i = ch[i] :: ch.drop (i + 1) := List.drop_eq_getElem_cons hlt
    have hf := ruleFrom_find ch[i] l 0
    rw [policy_Values.l0, if_pos (by omega), if_pos (by omega), if_pos (by omega), rdS_at hlt, hd, valuesS]
    unfold policy_Policy_rule.f policy_Rule.f
    rw [if_pos (by omega), Option.bind_some]
    split at hf
    · rename_i x hx
      obtain ⟨j, h1, h2, h3⟩ := hf
      rw [Nat.zero_add] at h2
      have hrd : rd_T52 l (j : Int) = x := by
        rw [rd_at h1]
        rw [List.getElem?_eq_getElem h1] at h3
        exact Option.some.inj h3
      have hm : x ∈ l := List.mem_of_find?_eq_some hx
      have hcl : slices_Clone_string_string.f x.f1 = some x.f1 := by
        unfold slices_Clone_string_string.f
        have := hv x hm
        rw [if_pos (by omega)]
      rw [h2, if_neg (by omega), if_pos (by omega), if_pos (by omega), hrd, Option.bind_some]
      simp only
      rw [if_pos trivial, hcl]
      rfl
    · rw [hf, if_pos (by decide), Option.bind_some]
      simp only
      rw [if_neg Bool.false_ne_true, hw]
      exact ih (i + 1) K (by omega) (by omega)

theorem values_len (l : List S52) (L : Nat) (hv : ∀ x ∈ l, x.f1.length ≤ L) : ∀ ch : List ByteArray, (valuesS l ch).1.length ≤ L
  | [] => Nat.zero_le _
  | n :: r => by
    rw [valuesS]
    split
    · rename_i x hx
      exact hv x (List.mem_of_find?_eq_some hx)
    · exact values_len l L hv r

def isrc : ByteArray := ⟨#[105, 109, 103, 45, 115, 114, 99]⟩
def dsrc : ByteArray := ⟨#[100, 101, 102, 97, 117, 108, 116, 45, 115, 114, 99]⟩
def wsrc : ByteArray := ⟨#[119, 111, 114, 107, 101, 114, 45, 115, 114, 99]⟩
def chW : List ByteArray := [⟨#[119, 111, 114, 107, 101, 114, 45, 115, 114, 99]⟩, ⟨#[99, 104, 105, 108, 100, 45, 115, 114, 99]⟩, ⟨#[115, 99, 114, 105, 112, 116, 45, 115, 114, 99]⟩, ⟨#[100, 101, 102, 97, 117, 108, 116, 45, 115, 114, 99]⟩]

theorem chain_at {a : ByteArray} {ch : List ByteArray} (h : policy_Chain.f 1 a = some ch) : ∀ d, policy_Chain.f (1 + d) a = some ch
  | 0 => h
  | d + 1 => policy_Chain.mono a (1 + d) _ (chain_at h d)

theorem ch_img : policy_Chain.f 1 isrc = some [isrc, dsrc] := by kernel_rfl
theorem ch_work : policy_Chain.f 1 wsrc = some chW := by kernel_rfl

theorem values_img (l : List S52) (L : Nat) (hl : l.length ≤ 32) (hv : ∀ x ∈ l, x.f1.length ≤ L) (hL : L ≤ 1000) : policy_Values.f 10 l false isrc = some (valuesS l [isrc, dsrc]) := by
  unfold policy_Values.f
  rw [chain_at ch_img 9, Option.bind_some]
  exact values_l0 l L hl hv hL false [isrc, dsrc] (by decide) 2 0 10 rfl (by decide)

theorem few_f (s : ByteArray) : ∃ t, ostiarykeep_Few.f s 300 = some t ∧ t.size ≤ 300 := by
  unfold ostiarykeep_Few.f
  by_cases h : (s.size : Int) > 300
  · rw [if_pos h, if_pos (by decide), if_pos (by omega)]
    refine ⟨_, rfl, ?_⟩
    rw [ByteArray.size_extract]
    simp
    omega
  · rw [if_neg h]
    exact ⟨s, rfl, by omega⟩

end Go.Proofs.YtohcjdninpjpgaaDoor.Kp
