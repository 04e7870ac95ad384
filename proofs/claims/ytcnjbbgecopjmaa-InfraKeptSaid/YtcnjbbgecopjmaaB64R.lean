/- Plain law: what the reference's Base64's printed function answers: the same as infra's. -/
import Derived.Test.YtcnjbbgecopjmaaB64P
namespace Go.Proofs.Ytcnjbbgecopjmaa.Pl
open Go.RowKit Go.Proofs.Ytcnjbbgecopjmaa.Own Go.Proofs.Ytcnjbbgecopjmaa.PX Go.Proofs.YtcnjbbgecopjmaaW.PrintWords Go.Proofs.YtcnjbbgecopjmaaW.PrintLast Go.Proofs.YtcnjbbgecopjmaaW.PrintMore

theorem ref_step (n v : Int) (hn : 0 ≤ n ∧ n < 65536) (hv : 0 ≤ v ∧ v < 64) : Int.tmod (wrap64 ((wrap64 (n * 64)) + v)) 65536 = (n * 64 + v) % 65536 := by
  rw [wrap_in (x := n * 64) (by omega), wrap_in (by omega), Int.tmod_eq_emod_of_nonneg (by omega)]

theorem u64_in {x : Int} (h : 0 ≤ x ∧ x < 64) : IntKind.u64.wrap (wrap64 x) = x := by
  rw [wrap_in (by omega)]
  simp [IntKind.wrap, IntKind.bits, IntKind.signed]
  omega

theorem ref_l2 (l : List Int) (hl : l.length < 100000000) (hr : ∀ x ∈ l, 0 ≤ x ∧ x < 256) (d : Nat) : ∀ (i : Nat) (out : List Int) (n b : Int), l.length - i = d → i ≤ l.length → out.length ≤ i → 0 ≤ n ∧ n < 65536 → 0 ≤ b ∧ b < 8 →
    Ev (fun k => ostiaryref1_Base64.l2 k l out n b (i : Int)) (run64 (l.drop i) out n b) := by
  induction d with
  | zero =>
    intro i out n b hd hi ho hn hb
    rw [List.drop_of_length_le (by omega)]
    refine Ev.step (f := fun _ => some (out, true)) (fun k => ?_) (Ev.now _)
    simp only [ostiaryref1_Base64.l2]
    rw [if_neg (by omega)]
  | succ d ih =>
    intro i out n b hd hi ho hn hb
    have hlt : i < l.length := by omega
    have hc := hr (rd l (i : Int)) (by rw [rd_get l i hlt]; exact List.getElem_mem _)
    have hw : wrap64 ((i : Int) + 1) = ((i + 1 : Nat) : Int) := by rw [wrap_in (by omega)]; rfl
    have hv := val_in _ hc
    rw [drop_rd l i hlt]
    unfold run64
    have one : ∀ k, ostiaryref1_Base64.l2 (k + 1) l out n b (i : Int) = (ostiaryref1_value64.f k (rd l (i : Int))).bind fun t167 => if t167 < 0 then some (([] : List Int), false) else (if b + 6 ≥ 8 then (ostiaryref1_Base64.l2 k l (out ++ [(shr .i64 (Int.tmod (wrap64 ((wrap64 (n * 64)) + t167)) 65536) (b - 2)) % 256]) (Int.tmod (wrap64 ((wrap64 (n * 64)) + t167)) 65536) (b - 2) ((i + 1 : Nat) : Int)) else (ostiaryref1_Base64.l2 k l out (Int.tmod (wrap64 ((wrap64 (n * 64)) + t167)) 65536) (b + 6) ((i + 1 : Nat) : Int))) := by
      intro k
      simp only [ostiaryref1_Base64.l2]
      rw [if_pos (by omega), if_pos (by omega), hw, wrap_in (x := b + 6) (by omega)]
      refine congrArg _ (funext fun t => ?_)
      by_cases ht : t < 0
      · rw [if_pos ht, if_pos ht]
      · rw [if_neg ht, if_neg ht]
        by_cases h8 : b + 6 ≥ 8
        · rw [if_pos h8, if_pos h8, u64_in (x := b + 6 - 8) (by omega), if_pos (by omega), if_pos (by omega), wrap_in (x := b + 6 - 8) (by omega), show b + 6 - 8 = b - 2 by omega]
        · rw [if_neg h8, if_neg h8]
    refine Ev.step one (Ev.bind (val_ref _ hc) ?_)
    by_cases hneg : val64 (rd l (i : Int)) < 0
    · simp only [if_pos hneg]
      exact Ev.now _
    · simp only [if_neg hneg]
      have hws := ref_step n (val64 (rd l (i : Int))) hn (by omega)
      have hm : 0 ≤ (n * 64 + val64 (rd l (i : Int))) % 65536 ∧ (n * 64 + val64 (rd l (i : Int))) % 65536 < 65536 := by omega
      by_cases h8 : b + 6 ≥ 8
      · simp only [if_pos h8]
        rw [hws, shr_pow _ _ (by omega)]
        exact ih (i + 1) _ _ (b - 2) (by omega) hlt (by simp; omega) hm (by omega)
      · simp only [if_neg h8]
        rw [hws]
        exact ih (i + 1) _ _ (b + 6) (by omega) hlt (by omega) hm (by omega)

theorem ref_j2 (l : List Int) (hl : l.length < 100000000) (hr : ∀ x ∈ l, 0 ≤ x ∧ x < 256) : Ev (fun k => ostiaryref1_Base64.j2 k l) (fin64 l) := by
  unfold fin64
  by_cases h1 : (l.length : Int) % 4 = 1
  · rw [if_pos h1]
    refine Ev.step (f := fun _ => some ([], false)) (fun k => ?_) (Ev.now _)
    simp only [ostiaryref1_Base64.j2]
    rw [if_pos h1]
  · rw [if_neg h1]
    refine Ev.step (fun k => ?_) (ref_l2 l hl hr l.length 0 [] 0 0 (by omega) (by omega) (by simp) (by omega) (by omega))
    simp only [ostiaryref1_Base64.j2]
    rw [if_neg h1]
    rfl

theorem ref_l1 (d : Nat) : ∀ (l : List Int) (x : Int), x = 2 - (d : Int) → d ≤ 2 → l.length < 100000000 → (∀ x ∈ l, 0 ≤ x ∧ x < 256) →
    Ev (fun k => ostiaryref1_Base64.l1 k l x) (fin64 (strip64 d l)) := by
  induction d with
  | zero =>
    intro l x hx h2 hl hr
    refine Ev.step (fun k => ?_) (ref_j2 l hl hr)
    simp only [ostiaryref1_Base64.l1]
    rw [if_neg (by omega)]
  | succ d ih =>
    intro l x hx h2 hl hr
    have hw : wrap64 ((l.length : Int) - 1) = (l.length : Int) - 1 := wrap_in (by omega)
    have hwx : wrap64 (x + 1) = x + 1 := wrap_in (by omega)
    unfold strip64
    by_cases h0 : 0 < l.length
    · by_cases he : rd l ((l.length : Int) - 1) = 61
      · rw [if_pos ⟨h0, he⟩]
        refine Ev.step (fun k => ?_) (ih (l.take (l.length - 1)) (x + 1) (by omega) (by omega) (by rw [List.length_take]; omega) (fun v hv => hr v (List.mem_of_mem_take hv)))
        simp only [ostiaryref1_Base64.l1]
        rw [if_pos (by omega), if_pos (by omega), hw, hwx, if_pos (by omega), if_pos (by omega), if_pos he, if_pos (by omega), show ((l.length : Int) - 1).toNat = l.length - 1 by omega]
      · rw [if_neg (fun h => he h.2)]
        refine Ev.step (fun k => ?_) (ref_j2 l hl hr)
        simp only [ostiaryref1_Base64.l1]
        rw [if_pos (by omega), if_pos (by omega), hw, if_pos (by omega), if_pos (by omega), if_neg he]
    · rw [if_neg (fun h => h0 h.1)]
      refine Ev.step (fun k => ?_) (ref_j2 l hl hr)
      simp only [ostiaryref1_Base64.l1]
      rw [if_pos (by omega), if_neg (by omega)]

theorem ref_b64 (s : ByteArray) (hs : s.size < 100000000) : Ev (fun k => ostiaryref1_Base64.f k s) (b64 (bytesOf s)) := by
  have key : ∀ d i out, s.size - i = d → i ≤ s.size → out.length ≤ i → (∀ x ∈ out, 0 ≤ x ∧ x < 256) → Ev (fun k => ostiaryref1_Base64.l0 k s out ((i : Nat) : Int)) (fin64 (if (out ++ kept ((bytesOf s).drop i)).length % 4 = 0 then strip64 2 (out ++ kept ((bytesOf s).drop i)) else out ++ kept ((bytesOf s).drop i))) := by
    intro d
    induction d with
    | zero =>
      intro i out hd hi ho hr
      rw [List.drop_of_length_le (by rw [bytesOf_length]; omega), show kept [] = [] from rfl, List.append_nil]
      by_cases h4 : out.length % 4 = 0
      · rw [if_pos h4]
        refine Ev.step (fun k => ?_) (ref_l1 2 out 0 rfl (by omega) (by omega) hr)
        simp only [ostiaryref1_Base64.l0]
        rw [if_neg (by omega), if_pos (by omega)]
      · rw [if_neg h4]
        refine Ev.step (fun k => ?_) (ref_j2 out (by omega) hr)
        simp only [ostiaryref1_Base64.l0]
        rw [if_neg (by omega), if_neg (by omega)]
    | succ d ih =>
      intro i out hd hi ho hr
      have hlt : i < s.size := by omega
      have hb := bt_range s i
      have hw : wrap64 ((i : Int) + 1) = ((i + 1 : Nat) : Int) := by rw [wrap_in (by omega)]; rfl
      have hv := blank_ref (bt s i)
      rw [drop_bytes s i hlt]
      by_cases hbl : blank (bt s i) = true
      · rw [show kept (bt s i :: (bytesOf s).drop (i + 1)) = kept ((bytesOf s).drop (i + 1)) by unfold kept; rw [List.filter_cons, if_neg (by simp [hbl])]]
        refine Ev.step (fun k => ?_) (ih (i + 1) out (by omega) hlt (by omega) hr)
        simp only [ostiaryref1_Base64.l0]
        rw [if_pos (by omega), if_pos (by omega), hv, Option.bind_some, if_pos hbl, hw]
      · rw [show kept (bt s i :: (bytesOf s).drop (i + 1)) = bt s i :: kept ((bytesOf s).drop (i + 1)) by unfold kept; rw [List.filter_cons, if_pos (by simp [hbl])], show out ++ bt s i :: kept ((bytesOf s).drop (i + 1)) = (out ++ [bt s i]) ++ kept ((bytesOf s).drop (i + 1)) by simp]
        refine Ev.step (fun k => ?_) (ih (i + 1) (out ++ [bt s i]) (by omega) hlt (by simp; omega) (fun x hx => by
          rw [List.mem_append, List.mem_singleton] at hx
          rcases hx with hx | rfl
          · exact hr x hx
          · omega))
        simp only [ostiaryref1_Base64.l0]
        rw [if_pos (by omega), if_pos (by omega), hv, Option.bind_some, if_neg hbl, if_pos (by omega), hw]
  have h := key s.size 0 [] (by omega) (by omega) (by simp) (by simp)
  rw [List.drop_zero, List.nil_append] at h
  exact h

end Go.Proofs.Ytcnjbbgecopjmaa.Pl
