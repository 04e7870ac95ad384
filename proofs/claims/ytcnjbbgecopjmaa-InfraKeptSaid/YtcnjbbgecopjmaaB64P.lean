/- Plain law: what Base64's printed functions answer (infra's and the reference's): the same. -/
import Derived.Test.YtcnjbbgecopjmaaPctP
import Derived.Test.YtcnjbbgecopjmaaPXx2
import Derived.Test.YtcnjbbgecopjmaaPXx5
import Derived.Laws.BitsLemmas
namespace Go.Proofs.Ytcnjbbgecopjmaa.Pl
open Go.RowKit Go.Proofs.Ytcnjbbgecopjmaa.Own Go.Proofs.Ytcnjbbgecopjmaa.PX Go.Proofs.YtcnjbbgecopjmaaW.PrintWords Go.Proofs.YtcnjbbgecopjmaaW.PrintLast Go.Proofs.YtcnjbbgecopjmaaW.PrintMore

def blank (c : Int) : Bool := c == 9 || c == 10 || c == 12 || c == 13 || c == 32

theorem blank_infra (c : Int) (hc : 0 ≤ c ∧ c < 256) : ∃ v, strings_IndexByte.f (⟨#[9, 10, 12, 13, 32]⟩ : ByteArray) c = some v ∧ decide (v < 0) = !blank c := by
  refine ⟨_, rfl, ?_⟩
  have := of_decide_eq_true (all_bytes (p := fun c => decide ((strings_IndexByte.f (⟨#[9, 10, 12, 13, 32]⟩ : ByteArray) c).map (fun v => decide (v < 0)) = some (!blank c))) (by decide +kernel) c hc)
  exact Option.some.inj this

theorem blank_ref (c : Int) : ostiaryref1_Blank.f c = some (blank c) := by
  unfold ostiaryref1_Blank.f blank
  by_cases h1 : c = 9
  · simp [h1]
  by_cases h2 : c = 10
  · simp [h2]
  by_cases h3 : c = 12
  · simp [h3]
  by_cases h4 : c = 13
  · simp [h4]
  simp [h1, h2, h3, h4]

/-- A digit's number; -1: none. -/
def val64 (c : Int) : Int := Lib.indexByte (⟨#[65, 66, 67, 68, 69, 70, 71, 72, 73, 74, 75, 76, 77, 78, 79, 80, 81, 82, 83, 84, 85, 86, 87, 88, 89, 90, 97, 98, 99, 100, 101, 102, 103, 104, 105, 106, 107, 108, 109, 110, 111, 112, 113, 114, 115, 116, 117, 118, 119, 120, 121, 122, 48, 49, 50, 51, 52, 53, 54, 55, 56, 57, 43, 47]⟩ : ByteArray).data.toList c.toNat.toUInt8

theorem val_infra (c : Int) : strings_IndexByte.f (⟨#[65, 66, 67, 68, 69, 70, 71, 72, 73, 74, 75, 76, 77, 78, 79, 80, 81, 82, 83, 84, 85, 86, 87, 88, 89, 90, 97, 98, 99, 100, 101, 102, 103, 104, 105, 106, 107, 108, 109, 110, 111, 112, 113, 114, 115, 116, 117, 118, 119, 120, 121, 122, 48, 49, 50, 51, 52, 53, 54, 55, 56, 57, 43, 47]⟩ : ByteArray) c = some (val64 c) := rfl

theorem val_in (c : Int) (hc : 0 ≤ c ∧ c < 256) : val64 c < 64 :=
  of_decide_eq_true (all_bytes (p := fun c => decide (val64 c < 64)) (by decide +kernel) c hc)

theorem val_ref (c : Int) (hc : 0 ≤ c ∧ c < 256) : Ev (fun k => ostiaryref1_value64.f k c) (val64 c) :=
  Ev.of (ostiaryref1_value64.mono c) (k := 80) (of_decide_eq_true (all_bytes (p := fun c => decide (ostiaryref1_value64.f 80 c = some (val64 c))) (by decide +kernel) c hc))

/-- The digits, one by one. -/
def run64 : List Int → List Int → Int → Int → List Int × Bool
  | [], out, _, _ => (out, true)
  | c :: l, out, n, b => if val64 c < 0 then ([], false) else if b + 6 ≥ 8 then run64 l (out ++ [((n * 64 + val64 c) % 65536 / 2 ^ (b - 2).toNat) % 256]) ((n * 64 + val64 c) % 65536) (b - 2) else run64 l out ((n * 64 + val64 c) % 65536) (b + 6)

/-- Without up to so many signs at the end. -/
def strip64 : Nat → List Int → List Int
  | 0, l => l
  | k + 1, l => if 0 < l.length ∧ rd l ((l.length : Int) - 1) = 61 then strip64 k (l.take (l.length - 1)) else l

def fin64 (l : List Int) : List Int × Bool := if (l.length : Int) % 4 = 1 then ([], false) else run64 l [] 0 0

def kept (l : List Int) : List Int := l.filter fun c => !blank c

/-- Base64 of a list of bytes. -/
def b64 (l : List Int) : List Int × Bool := fin64 (if (kept l).length % 4 = 0 then strip64 2 (kept l) else kept l)

theorem word_step (n v : Int) (hn : 0 ≤ n ∧ n < 65536) (hv : 0 ≤ v ∧ v < 64) : Go.bits .or .i64 (Go.bits .and .i64 (wrap64 (n * 64)) 65535) v = (n * 64 + v) % 65536 := by
  have hw : ∀ m : Int, 0 ≤ m → m < 2 ^ 24 → IntKind.i64.wrap m = m := fun m h0 h1 => by rw [IntKind.wrap_i64]; omega
  have e1 : Go.bits .and .i64 (n * 64) 65535 = n * 64 % 65536 := bits_mask .i64 24 (by decide) hw 16 (by decide) (n * 64) (by omega) (by omega)
  rw [wrap_in (by omega), e1]
  rw [bits_join .i64 24 (by decide) hw 6 (n * 64 % 65536) v (by omega) (by omega) (by omega) hv.1 (by omega) (by omega)]
  omega

theorem shr_pow (x b : Int) (hb : 0 ≤ b ∧ b < 8) : shr .i64 x b = x / 2 ^ b.toNat := by
  unfold shr
  rw [Nat.min_eq_left]
  simp [IntKind.bits]
  omega

theorem rd_get (l : List Int) (i : Nat) (h : i < l.length) : rd l (i : Int) = l[i] := by
  unfold rd
  rw [Int.toNat_natCast, List.getD_eq_getElem?_getD, List.getElem?_eq_getElem h]
  rfl

theorem drop_rd (l : List Int) (i : Nat) (h : i < l.length) : l.drop i = rd l (i : Int) :: l.drop (i + 1) := by
  rw [rd_get l i h]
  exact (List.getElem_cons_drop h).symm

theorem infra_l2 (l : List Int) (hl : l.length < 100000000) (hr : ∀ x ∈ l, 0 ≤ x ∧ x < 256) (d : Nat) : ∀ (i : Nat) (out : List Int) (n b : Int), l.length - i = d → i ≤ l.length → out.length ≤ i → 0 ≤ n ∧ n < 65536 → 0 ≤ b ∧ b < 8 →
    Ev (fun k => infra_Base64.l2 k out n b l (l.length : Int) (i : Int)) (run64 (l.drop i) out n b) := by
  induction d with
  | zero =>
    intro i out n b hd hi ho hn hb
    rw [List.drop_of_length_le (by omega)]
    refine Ev.step (f := fun _ => some (out, true)) (fun k => ?_) (Ev.now _)
    simp only [infra_Base64.l2]
    rw [if_neg (by omega)]
  | succ d ih =>
    intro i out n b hd hi ho hn hb
    have hlt : i < l.length := by omega
    have hc := hr (rd l (i : Int)) (by rw [rd_get l i hlt]; exact List.getElem_mem _)
    have hw : wrap64 ((i : Int) + 1) = ((i + 1 : Nat) : Int) := by rw [wrap_in (by omega)]; rfl
    have hv := val_in _ hc
    rw [drop_rd l i hlt]
    unfold run64
    by_cases hneg : val64 (rd l (i : Int)) < 0
    · rw [if_pos hneg]
      refine Ev.step (f := fun _ => some ([], false)) (fun k => ?_) (Ev.now _)
      simp only [infra_Base64.l2]
      rw [if_pos (by omega), if_pos (by omega), if_pos (by omega), val_infra, Option.bind_some, if_pos hneg]
    · rw [if_neg hneg]
      have hws := word_step n (val64 (rd l (i : Int))) hn (by omega)
      have hm : 0 ≤ (n * 64 + val64 (rd l (i : Int))) % 65536 ∧ (n * 64 + val64 (rd l (i : Int))) % 65536 < 65536 := by omega
      by_cases h8 : b + 6 ≥ 8
      · rw [if_pos h8]
        refine Ev.step (fun k => ?_) (ih (i + 1) _ _ (b - 2) (by omega) hlt (by simp; omega) hm (by omega))
        simp only [infra_Base64.l2]
        rw [if_pos (by omega), if_pos (by omega), if_pos (by omega), val_infra, Option.bind_some, if_neg hneg, wrap_in (x := b + 6) (by omega), if_pos h8, wrap_in (x := b + 6 - 8) (by omega), if_pos (by omega), if_pos (by omega), hws, hw, show b + 6 - 8 = b - 2 by omega, shr_pow _ _ (by omega)]
      · rw [if_neg h8]
        refine Ev.step (fun k => ?_) (ih (i + 1) _ _ (b + 6) (by omega) hlt (by omega) hm (by omega))
        simp only [infra_Base64.l2]
        rw [if_pos (by omega), if_pos (by omega), if_pos (by omega), val_infra, Option.bind_some, if_neg hneg, wrap_in (x := b + 6) (by omega), if_neg h8, hws, hw]

theorem infra_j3 (l : List Int) (hl : l.length < 100000000) (hr : ∀ x ∈ l, 0 ≤ x ∧ x < 256) : Ev (fun k => infra_Base64.j3 k l) (fin64 l) := by
  unfold fin64
  by_cases h1 : (l.length : Int) % 4 = 1
  · rw [if_pos h1]
    refine Ev.step (f := fun _ => some ([], false)) (fun k => ?_) (Ev.now _)
    simp only [infra_Base64.j3]
    rw [if_pos h1]
  · rw [if_neg h1]
    refine Ev.step (fun k => ?_) (infra_l2 l hl hr l.length 0 [] 0 0 (by omega) (by omega) (by simp) (by omega) (by omega))
    simp only [infra_Base64.j3]
    rw [if_neg h1, if_pos (by omega)]
    rfl

theorem infra_l1 (d : Nat) : ∀ (l : List Int) (x : Int), x = 2 - (d : Int) → d ≤ 2 → d ≤ l.length → l.length < 100000000 → (∀ x ∈ l, 0 ≤ x ∧ x < 256) →
    Ev (fun k => infra_Base64.l1 k l x) (fin64 (strip64 d l)) := by
  induction d with
  | zero =>
    intro l x hx h2 hd hl hr
    refine Ev.step (fun k => ?_) (infra_j3 l hl hr)
    simp only [infra_Base64.l1]
    rw [if_neg (by omega)]
  | succ d ih =>
    intro l x hx h2 hd hl hr
    have hw : wrap64 ((l.length : Int) - 1) = (l.length : Int) - 1 := wrap_in (by omega)
    have hwx : wrap64 (x + 1) = x + 1 := wrap_in (by omega)
    unfold strip64
    by_cases he : rd l ((l.length : Int) - 1) = 61
    · rw [if_pos ⟨by omega, he⟩]
      refine Ev.step (fun k => ?_) (ih (l.take (l.length - 1)) (x + 1) (by omega) (by omega) (by rw [List.length_take]; omega) (by rw [List.length_take]; omega) (fun v hv => hr v (List.mem_of_mem_take hv)))
      simp only [infra_Base64.l1]
      rw [if_pos (by omega), hw, hwx, if_pos (by omega), if_pos (by omega), if_pos he, if_pos (by omega), show ((l.length : Int) - 1).toNat = l.length - 1 by omega]
    · rw [if_neg (fun h => he h.2)]
      refine Ev.step (fun k => ?_) (infra_j3 l hl hr)
      simp only [infra_Base64.l1]
      rw [if_pos (by omega), hw, if_pos (by omega), if_pos (by omega), if_neg he]

theorem kept_range (l : List Int) (h : ∀ x ∈ l, 0 ≤ x ∧ x < 256) : ∀ x ∈ kept l, 0 ≤ x ∧ x < 256 := fun x hx => h x (List.mem_filter.mp hx).1

theorem kept_len (l : List Int) : (kept l).length ≤ l.length := List.length_filter_le _ _

theorem infra_tail (l : List Int) (hl : l.length < 100000000) (hr : ∀ x ∈ l, 0 ≤ x ∧ x < 256) :
    Ev (fun k => if (l.length : Int) > 0 then infra_Base64.j1 k l (((l.length : Int) % 4) == 0) else infra_Base64.j1 k l false) (fin64 (if l.length % 4 = 0 then strip64 2 l else l)) := by
  by_cases h0 : (l.length : Int) > 0
  · simp only [if_pos h0]
    by_cases h4 : l.length % 4 = 0
    · rw [if_pos h4]
      refine Ev.step (fun k => ?_) (infra_l1 2 l 0 rfl (by omega) (by omega) hl hr)
      simp only [infra_Base64.j1]
      rw [if_pos (by rw [beq_iff_eq]; omega)]
    · rw [if_neg h4]
      refine Ev.step (fun k => ?_) (infra_j3 l hl hr)
      simp only [infra_Base64.j1]
      rw [if_neg (by rw [beq_iff_eq]; omega)]
  · simp only [if_neg h0]
    have hnil : l = [] := List.length_eq_zero_iff.mp (by omega)
    subst hnil
    refine Ev.step (fun k => ?_) (infra_j3 [] hl hr)
    simp only [infra_Base64.j1]
    rw [if_neg (by decide)]

theorem infra_b64 (s : ByteArray) (hs : s.size < 100000000) : Ev (fun k => infra_Base64.f k s) (b64 (bytesOf s)) := by
  have key : ∀ d i out, s.size - i = d → i ≤ s.size → out.length ≤ i → (∀ x ∈ out, 0 ≤ x ∧ x < 256) → Ev (fun k => infra_Base64.l0 k s out (s.size : Int) ((i : Nat) : Int)) (fin64 (if (out ++ kept ((bytesOf s).drop i)).length % 4 = 0 then strip64 2 (out ++ kept ((bytesOf s).drop i)) else out ++ kept ((bytesOf s).drop i))) := by
    intro d
    induction d with
    | zero =>
      intro i out hd hi ho hr
      rw [List.drop_of_length_le (by rw [bytesOf_length]; omega), show kept [] = [] from rfl, List.append_nil]
      refine Ev.step (fun k => ?_) (infra_tail out (by omega) hr)
      simp only [infra_Base64.l0]
      rw [if_neg (by omega)]
    | succ d ih =>
      intro i out hd hi ho hr
      have hlt : i < s.size := by omega
      have hb := bt_range s i
      have hw : wrap64 ((i : Int) + 1) = ((i + 1 : Nat) : Int) := by rw [wrap_in (by omega)]; rfl
      obtain ⟨v, hv, hvb⟩ := blank_infra (bt s i) (by omega)
      rw [drop_bytes s i hlt]
      by_cases hbl : blank (bt s i) = true
      · rw [show kept (bt s i :: (bytesOf s).drop (i + 1)) = kept ((bytesOf s).drop (i + 1)) by unfold kept; rw [List.filter_cons, if_neg (by simp [hbl])]]
        refine Ev.step (fun k => ?_) (ih (i + 1) out (by omega) hlt (by omega) hr)
        rw [hbl] at hvb
        have hvb' : ¬ v < 0 := of_decide_eq_false hvb
        simp only [infra_Base64.l0]
        rw [if_pos (by omega), if_pos (by omega), if_pos (by omega), hv, Option.bind_some, if_neg hvb', hw]
      · rw [show kept (bt s i :: (bytesOf s).drop (i + 1)) = bt s i :: kept ((bytesOf s).drop (i + 1)) by unfold kept; rw [List.filter_cons, if_pos (by simp [hbl])], show out ++ bt s i :: kept ((bytesOf s).drop (i + 1)) = (out ++ [bt s i]) ++ kept ((bytesOf s).drop (i + 1)) by simp]
        refine Ev.step (fun k => ?_) (ih (i + 1) (out ++ [bt s i]) (by omega) hlt (by simp; omega) (fun x hx => by
          rw [List.mem_append, List.mem_singleton] at hx
          rcases hx with hx | rfl
          · exact hr x hx
          · omega))
        rw [eq_false_of_ne_true hbl] at hvb
        have hvb' : v < 0 := of_decide_eq_true hvb
        simp only [infra_Base64.l0]
        rw [if_pos (by omega), if_pos (by omega), if_pos (by omega), hv, Option.bind_some, if_pos hvb', if_pos (by omega), hw]
  have h := key s.size 0 [] (by omega) (by omega) (by simp) (by simp)
  rw [List.drop_zero, List.nil_append] at h
  exact h

end Go.Proofs.Ytcnjbbgecopjmaa.Pl
