/- Plain law: what is encoded is decoded to itself; what is percented by a set and has no percent sign is unpercented to itself. -/
import Derived.Test.YtcnjbbgecopjmaaSays
import Derived.Test.YtcnjbbgecopjmaaEnc
namespace Go.Proofs.Ytcnjbbgecopjmaa.Pl
open Go.RowKit Go.Proofs.Ytcnjbbgecopjmaa.Own Go.Proofs.Ytcnjbbgecopjmaa.PX Go.Proofs.YtcnjbbgecopjmaaW.PrintWords Go.Proofs.YtcnjbbgecopjmaaW.PrintLast Go.Proofs.YtcnjbbgecopjmaaW.PrintMore

theorem digit_facts (d : Int) (h0 : 0 ≤ d) (h1 : d < 64) : val64 (bt sixty d) = d ∧ bt sixty d ≠ 61 ∧ blank (bt sixty d) = false := by
  have key : (List.range 64).all (fun n => decide (val64 (bt sixty (n : Int)) = (n : Int) ∧ bt sixty (n : Int) ≠ 61 ∧ blank (bt sixty (n : Int)) = false)) = true := by decide +kernel
  have := of_decide_eq_true (List.all_eq_true.mp key d.toNat (List.mem_range.mpr (by omega)))
  rwa [Int.toNat_of_nonneg h0] at this

theorem word3_sum {a b c : Int} (ha : 0 ≤ a ∧ a < 256) (hb : 0 ≤ b ∧ b < 256) (hc : 0 ≤ c ∧ c < 256) : word3 a b c = a * 65536 + b * 256 + c := by
  have hw : ∀ m : Int, 0 ≤ m → m < 2 ^ 24 → IntKind.i64.wrap m = m := fun m h0 h1 => by rw [IntKind.wrap_i64]; omega
  unfold word3
  rw [bits_join .i64 24 (by decide) hw 16 (a * 65536) (b * 256) (by omega) (by omega) (by omega) (by omega) (by omega) (by omega)]
  rw [bits_join .i64 24 (by decide) hw 8 (a * 65536 + b * 256) c (by omega) (by omega) (by omega) (by omega) (by omega) (by omega)]

/-- The k-th digit's number. -/
def dnum (x : Int) (k : Nat) : Int := x / 2 ^ (18 - 6 * k) % 64

theorem dig_num {x : Int} (h0 : 0 ≤ x) (h1 : x < 16777216) (k : Nat) (hk : k < 4) : dig64 x k = bt sixty (dnum x k) ∧ 0 ≤ dnum x k ∧ dnum x k < 64 := by
  have hp : 0 ≤ x / 2 ^ (18 - 6 * k) ∧ x / 2 ^ (18 - 6 * k) < 16777216 := by
    rcases (by omega : k = 0 ∨ k = 1 ∨ k = 2 ∨ k = 3) with rfl | rfl | rfl | rfl <;> simp <;> omega
  unfold dig64 dnum
  rw [and63 _ hp.1 hp.2]
  exact ⟨rfl, by omega, by omega⟩

theorem dig_all {a b c : Int} (ha : 0 ≤ a ∧ a < 256) (hb : 0 ≤ b ∧ b < 256) (hc : 0 ≤ c ∧ c < 256) (k : Nat) (hk : k < 4) :
    val64 (dig64 (word3 a b c) k) = dnum (a * 65536 + b * 256 + c) k ∧ dig64 (word3 a b c) k ≠ 61 ∧ blank (dig64 (word3 a b c) k) = false := by
  have hw := word3_in ha hb hc
  obtain ⟨e, h0, h1⟩ := dig_num hw.1 hw.2 k hk
  rw [word3_sum ha hb hc] at *
  rw [e]
  exact digit_facts _ h0 h1

/-- Bytes as digits, without signs at the end. -/
def encN : List Int → List Int
  | [] => []
  | [a] => [dig64 (word3 a 0 0) 0, dig64 (word3 a 0 0) 1]
  | [a, b] => [dig64 (word3 a b 0) 0, dig64 (word3 a b 0) 1, dig64 (word3 a b 0) 2]
  | a :: b :: c :: l => dig64 (word3 a b c) 0 :: dig64 (word3 a b c) 1 :: dig64 (word3 a b c) 2 :: dig64 (word3 a b c) 3 :: encN l

/-- Digits, none a blank, none the sign. -/
def Clean (l : List Int) : Prop := ∀ x ∈ l, x ≠ 61 ∧ blank x = false

theorem encN_facts : ∀ xs : List Int, (∀ x ∈ xs, 0 ≤ x ∧ x < 256) → ∃ p : List Int, (p = [] ∨ p = [61] ∨ p = [61, 61]) ∧ enc xs = encN xs ++ p ∧ Clean (encN xs) ∧ (encN xs ++ p).length % 4 = 0
  | [], _ => ⟨[], .inl rfl, rfl, fun x hx => by simp [encN] at hx, rfl⟩
  | [a], h => by
    have ha := h a (by simp)
    have d0 := dig_all ha (by omega : (0 : Int) ≤ 0 ∧ (0 : Int) < 256) (by omega : (0 : Int) ≤ 0 ∧ (0 : Int) < 256) 0 (by omega)
    have d1 := dig_all ha (by omega : (0 : Int) ≤ 0 ∧ (0 : Int) < 256) (by omega : (0 : Int) ≤ 0 ∧ (0 : Int) < 256) 1 (by omega)
    refine ⟨[61, 61], .inr (.inr rfl), rfl, fun x hx => ?_, by simp [encN]⟩
    simp only [encN, List.mem_cons, List.not_mem_nil, or_false] at hx
    rcases hx with rfl | rfl
    · exact d0.2
    · exact d1.2
  | [a, b], h => by
    have ha := h a (by simp)
    have hb := h b (by simp)
    have d0 := dig_all ha hb (by omega : (0 : Int) ≤ 0 ∧ (0 : Int) < 256) 0 (by omega)
    have d1 := dig_all ha hb (by omega : (0 : Int) ≤ 0 ∧ (0 : Int) < 256) 1 (by omega)
    have d2 := dig_all ha hb (by omega : (0 : Int) ≤ 0 ∧ (0 : Int) < 256) 2 (by omega)
    refine ⟨[61], .inr (.inl rfl), rfl, fun x hx => ?_, by simp [encN]⟩
    simp only [encN, List.mem_cons, List.not_mem_nil, or_false] at hx
    rcases hx with rfl | rfl | rfl
    · exact d0.2
    · exact d1.2
    · exact d2.2
  | a :: b :: c :: l, h => by
    have ha := h a (by simp)
    have hb := h b (by simp)
    have hc := h c (by simp)
    obtain ⟨p, hp, he, hcl, h4⟩ := encN_facts l (fun x hx => h x (by simp [hx]))
    refine ⟨p, hp, by simp only [enc, encN, he, List.cons_append], fun x hx => ?_, by simp only [encN, List.cons_append, List.length_cons]; omega⟩
    simp only [encN, List.mem_cons] at hx
    rcases hx with rfl | rfl | rfl | rfl | hx
    · exact (dig_all ha hb hc 0 (by omega)).2
    · exact (dig_all ha hb hc 1 (by omega)).2
    · exact (dig_all ha hb hc 2 (by omega)).2
    · exact (dig_all ha hb hc 3 (by omega)).2
    · exact hcl x hx

theorem enc_len (xs : List Int) (h : ∀ x ∈ xs, 0 ≤ x ∧ x < 256) : (enc xs).length % 4 = 0 := by
  obtain ⟨p, _, he, _, h4⟩ := encN_facts xs h
  rw [he]
  exact h4

theorem enc_size : ∀ xs : List Int, (enc xs).length ≤ 2 * xs.length + 4
  | [] => by simp [enc]
  | [a] => by simp [enc]
  | [a, b] => by simp [enc]
  | a :: b :: c :: l => by
    have := enc_size l
    simp only [enc, List.length_cons]
    omega

theorem kept_enc (xs : List Int) (h : ∀ x ∈ xs, 0 ≤ x ∧ x < 256) : kept (enc xs) = enc xs := by
  obtain ⟨p, hp, he, hcl, _⟩ := encN_facts xs h
  unfold kept
  rw [List.filter_eq_self]
  intro x hx
  rw [he, List.mem_append] at hx
  rcases hx with hx | hx
  · rw [(hcl x hx).2]; rfl
  · rcases hp with rfl | rfl | rfl
    · simp at hx
    · simp at hx; subst hx; rfl
    · simp at hx; subst hx; rfl

theorem strip_keep (k : Nat) (l : List Int) (h : ∀ x ∈ l, x ≠ 61) : strip64 k l = l := by
  cases k with
  | zero => rfl
  | succ k =>
    unfold strip64
    rw [if_neg]
    rintro ⟨h0, he⟩
    rw [show ((l.length : Int) - 1) = ((l.length - 1 : Nat) : Int) by omega, rd_get l (l.length - 1) (by omega)] at he
    exact h _ (List.getElem_mem _) he

theorem strip_one (k : Nat) (l : List Int) : strip64 (k + 1) (l ++ [61]) = strip64 k l := by
  conv => lhs; unfold strip64
  rw [if_pos]
  · congr 1
    simp
  · refine ⟨by simp, ?_⟩
    have e : (((l ++ [61]).length : Nat) : Int) - 1 = ((l.length : Nat) : Int) := by simp
    rw [e, rd_get (l ++ [61]) l.length (by simp)]
    simp

theorem strip_enc (xs : List Int) (h : ∀ x ∈ xs, 0 ≤ x ∧ x < 256) : strip64 2 (enc xs) = encN xs := by
  obtain ⟨p, hp, he, hcl, _⟩ := encN_facts xs h
  have hn : ∀ x ∈ encN xs, x ≠ 61 := fun x hx => (hcl x hx).1
  rw [he]
  rcases hp with rfl | rfl | rfl
  · rw [List.append_nil]; exact strip_keep 2 _ hn
  · rw [strip_one]; exact strip_keep 1 _ hn
  · rw [show encN xs ++ [61, 61] = (encN xs ++ [61]) ++ [61] by simp, strip_one, strip_one]; exact strip_keep 0 _ hn

theorem step_lo (c : Int) (l : List Int) (out : List Int) (n b v : Int) (hv : val64 c = v) (h0 : ¬ v < 0) (hb : ¬ b + 6 ≥ 8) : run64 (c :: l) out n b = run64 l out ((n * 64 + v) % 65536) (b + 6) := by
  rw [run64, hv, if_neg h0, if_neg hb]

theorem step_hi (c : Int) (l : List Int) (out : List Int) (n b v : Int) (hv : val64 c = v) (h0 : ¬ v < 0) (hb : b + 6 ≥ 8) : run64 (c :: l) out n b = run64 l (out ++ [((n * 64 + v) % 65536 / 2 ^ (b - 2).toNat) % 256]) ((n * 64 + v) % 65536) (b - 2) := by
  rw [run64, hv, if_neg h0, if_pos hb]

theorem run_enc : ∀ (xs : List Int) (out : List Int) (n : Int), (∀ x ∈ xs, 0 ≤ x ∧ x < 256) → 0 ≤ n ∧ n < 65536 → run64 (encN xs) out n 0 = (out ++ xs, true)
  | [], out, n, _, _ => by simp [encN, run64]
  | [a], out, n, h, hn => by
    have ha := h a (by simp)
    have z : (0 : Int) ≤ 0 ∧ (0 : Int) < 256 := by omega
    have d0 := (dig_all ha z z 0 (by omega)).1
    have d1 := (dig_all ha z z 1 (by omega)).1
    simp only [dnum] at d0 d1
    rw [encN, step_lo _ _ _ _ _ _ d0 (by simp; omega) (by omega), step_hi _ _ _ _ _ _ d1 (by simp; omega) (by omega), run64]
    simp
    omega
  | [a, b], out, n, h, hn => by
    have ha := h a (by simp)
    have hb := h b (by simp)
    have z : (0 : Int) ≤ 0 ∧ (0 : Int) < 256 := by omega
    have d0 := (dig_all ha hb z 0 (by omega)).1
    have d1 := (dig_all ha hb z 1 (by omega)).1
    have d2 := (dig_all ha hb z 2 (by omega)).1
    simp only [dnum] at d0 d1 d2
    rw [encN, step_lo _ _ _ _ _ _ d0 (by simp; omega) (by omega), step_hi _ _ _ _ _ _ d1 (by simp; omega) (by omega), step_hi _ _ _ _ _ _ d2 (by simp; omega) (by omega), run64]
    simp
    omega
  | a :: b :: c :: l, out, n, h, hn => by
    have ha := h a (by simp)
    have hb := h b (by simp)
    have hc := h c (by simp)
    have d0 := (dig_all ha hb hc 0 (by omega)).1
    have d1 := (dig_all ha hb hc 1 (by omega)).1
    have d2 := (dig_all ha hb hc 2 (by omega)).1
    have d3 := (dig_all ha hb hc 3 (by omega)).1
    simp only [dnum] at d0 d1 d2 d3
    rw [encN, step_lo _ _ _ _ _ _ d0 (by simp; omega) (by omega), step_hi _ _ _ _ _ _ d1 (by simp; omega) (by omega), step_hi _ _ _ _ _ _ d2 (by simp; omega) (by omega), step_hi _ _ _ _ _ _ d3 (by simp; omega) (by omega)]
    rw [show ((0 : Int) + 6 - 2 - 2 - 2) = 0 from rfl, run_enc l _ _ (fun x hx => h x (by simp [hx])) (by omega)]
    simp
    omega

/-- What is encoded is decoded to itself; blanks between change nothing. -/
theorem b64_enc (xs : List Int) (h : ∀ x ∈ xs, 0 ≤ x ∧ x < 256) : b64 (enc xs) = (xs, true) := by
  have h4 := enc_len xs h
  unfold b64
  rw [kept_enc xs h, if_pos h4, strip_enc xs h]
  unfold fin64
  have hl : ¬ ((encN xs).length : Int) % 4 = 1 := by
    have key : ∀ ys : List Int, (encN ys).length % 4 ≠ 1 := by
      intro ys
      induction ys using encN.induct with
      | case1 => simp [encN]
      | case2 a => simp [encN]
      | case3 a b => simp [encN]
      | case4 a b c l ih => simp only [encN, List.length_cons]; omega
    have := key xs
    omega
  rw [if_neg hl, run_enc xs [] 0 h (by omega)]
  rfl

theorem b64_kept (l m : List Int) (h : kept l = kept m) : b64 l = b64 m := by
  unfold b64
  rw [h]

theorem b64_blanks (xs : List Int) (h : ∀ x ∈ xs, 0 ≤ x ∧ x < 256) (i : Nat) : b64 ((enc xs).take i ++ [32, 10] ++ (enc xs).drop i) = (xs, true) := by
  rw [← b64_enc xs h]
  refine b64_kept _ _ ?_
  have e : kept [32, 10] = [] := rfl
  have ap : ∀ a b : List Int, kept (a ++ b) = kept a ++ kept b := fun a b => by unfold kept; rw [List.filter_append]
  rw [ap, ap, e, List.append_nil, ← ap, List.take_append_drop]

theorem enc_range (xs : List Int) : ∀ x ∈ enc xs, 0 ≤ x ∧ x < 256 := by
  induction xs using enc.induct with
  | case1 => simp [enc]
  | case2 a =>
    intro x hx
    simp only [enc, List.mem_cons, List.not_mem_nil, or_false] at hx
    rcases hx with rfl | rfl | rfl | rfl
    · exact bt_r _ _
    · exact bt_r _ _
    · omega
    · omega
  | case3 a b =>
    intro x hx
    simp only [enc, List.mem_cons, List.not_mem_nil, or_false] at hx
    rcases hx with rfl | rfl | rfl | rfl
    · exact bt_r _ _
    · exact bt_r _ _
    · exact bt_r _ _
    · omega
  | case4 a b c l ih =>
    intro x hx
    simp only [enc, List.mem_cons] at hx
    rcases hx with rfl | rfl | rfl | rfl | hx
    · exact bt_r _ _
    · exact bt_r _ _
    · exact bt_r _ _
    · exact bt_r _ _
    · exact ih x hx

/-! ### Unpercent of Percent -/

theorem unp_plain (c : Int) (l : List Int) (h : c ≠ 37) : unp (c :: l) = c :: unp l := by
  rcases l with _ | ⟨a, _ | ⟨b, l⟩⟩
  · rfl
  · rfl
  · show (if c = 37 ∧ 0 ≤ hexv a ∧ 0 ≤ hexv b then (16 * hexv a + hexv b) :: unp l else c :: unp (a :: b :: l)) = _
    rw [if_neg (fun x => h x.1)]

theorem unp_hexes (c : Int) (hc : 0 ≤ c ∧ c < 256) (l : List Int) : unp (hexes c ++ l) = c :: unp l := by
  have h := of_decide_eq_true (all_bytes (p := fun c => decide (∃ a ∈ (hexes c)[1]?, ∃ b ∈ (hexes c)[2]?, 0 ≤ hexv a ∧ 0 ≤ hexv b ∧ 16 * hexv a + hexv b = c)) (by decide +kernel) c hc)
  obtain ⟨a, ha, b, hb, h0, h1, h2⟩ := h
  simp only [hexes, List.getElem?_cons_succ, List.getElem?_cons_zero, Option.mem_def, Option.some.injEq] at ha hb
  subst ha hb
  show (if (37 : Int) = 37 ∧ _ ∧ _ then _ else _) = _
  rw [if_pos ⟨rfl, h0, h1⟩, h2]
  rfl

theorem unp_pct (set : Int) (l : List Int) (hl : ∀ x ∈ l, 0 ≤ x ∧ x < 256) (h37 : ∀ x ∈ l, x ≠ 37) : unp (pctL set l) = l := by
  induction l with
  | nil => rfl
  | cons c l ih =>
    have hc := hl c List.mem_cons_self
    have ih' := ih (fun x hx => hl x (List.mem_cons_of_mem _ hx)) (fun x hx => h37 x (List.mem_cons_of_mem _ hx))
    rw [show pctL set (c :: l) = pctB set c ++ pctL set l from rfl]
    unfold pctB
    split
    · rw [unp_hexes c hc, ih']
    · show unp (c :: pctL set l) = _
      rw [unp_plain c _ (h37 c List.mem_cons_self), ih']

end Go.Proofs.Ytcnjbbgecopjmaa.Pl
