/- Plain law: what Unpercent's and the reference's Percent's printed functions answer. -/
import Derived.Test.YtcnjbbgecopjmaaPctP
import Derived.Test.YtcnjbbgecopjmaaPXx3
import Derived.Test.YtcnjbbgecopjmaaPXx5
import Derived.Test.YtcnjbbgecopjmaaPXx6
import Derived.Test.YtcnjbbgecopjmaaPXx7
namespace Go.Proofs.Ytcnjbbgecopjmaa.Pl
open Go.RowKit Go.Proofs.Ytcnjbbgecopjmaa.Own Go.Proofs.Ytcnjbbgecopjmaa.PX Go.Proofs.YtcnjbbgecopjmaaW.PrintWords Go.Proofs.YtcnjbbgecopjmaaW.PrintLast Go.Proofs.YtcnjbbgecopjmaaW.PrintMore

theorem bt_r (s : ByteArray) (i : Int) : 0 ≤ bt s i ∧ bt s i < 256 := by have := bt_range s i; omega

/-- A hexadecimal digit's number; -1: none. -/
def hexv (c : Int) : Int := (infra_digit.f 4 c).getD 0

theorem hexv_ev (c : Int) (hc : 0 ≤ c ∧ c < 256) : Ev (fun k => infra_digit.f k c) (hexv c) :=
  Ev.of (infra_digit.mono c) (k := 4) (of_decide_eq_true (all_bytes (p := fun c => decide (infra_digit.f 4 c = some (hexv c))) (by decide +kernel) c hc))

theorem hexv_ref (c : Int) (hc : 0 ≤ c ∧ c < 256) : Ev (fun k => ostiaryref1_Hex.f k c) (hexv c) :=
  Ev.of (ostiaryref1_Hex.mono c) (k := 4) (of_decide_eq_true (all_bytes (p := fun c => decide (ostiaryref1_Hex.f 4 c = some (hexv c))) (by decide +kernel) c hc))

theorem hexv_in (c : Int) (hc : 0 ≤ c ∧ c < 256) : hexv c < 16 :=
  of_decide_eq_true (all_bytes (p := fun c => decide (hexv c < 16)) (by decide +kernel) c hc)

/-- Unpercent of a list of bytes. -/
def unp : List Int → List Int
  | c :: d :: e :: l => if c = 37 ∧ 0 ≤ hexv d ∧ 0 ≤ hexv e then (16 * hexv d + hexv e) :: unp l else c :: unp (d :: e :: l)
  | l => l

theorem join_hex (a b : Int) (ha : 0 ≤ a ∧ a < 16) (hb : 0 ≤ b ∧ b < 16) : Go.bits .or .i64 (wrap64 (a * 16)) b % 256 = 16 * a + b := by
  have key : (List.range 16).all (fun m => (List.range 16).all fun n => decide (Go.bits .or .i64 (wrap64 ((m : Int) * 16)) (n : Int) % 256 = 16 * (m : Int) + (n : Int))) = true := by decide +kernel
  have h1 := List.all_eq_true.mp key a.toNat (List.mem_range.mpr (by omega))
  have h2 := of_decide_eq_true (List.all_eq_true.mp h1 b.toNat (List.mem_range.mpr (by omega)))
  rwa [Int.toNat_of_nonneg ha.1, Int.toNat_of_nonneg hb.1] at h2

theorem unp_short (l : List Int) (h : l.length < 3) : unp l = l := by
  rcases l with _ | ⟨a, _ | ⟨b, _ | ⟨c, l⟩⟩⟩ <;> first | rfl | (simp at h; omega)

theorem unp_cons (c : Int) (l : List Int) (h : l.length < 2) : unp (c :: l) = c :: unp l := by
  rw [unp_short _ (by simp; omega), unp_short _ (by omega)]

theorem unp_infra (s : ByteArray) (hs : s.size < 100000000) : Ev (fun k => infra_Unpercent.f k s) (strOfNums (unp (bytesOf s))) := by
  have key : ∀ d (i : Nat) (out : List Int), s.size - i ≤ d → i ≤ s.size → out.length ≤ i → Ev (fun k => infra_Unpercent.l0 k s out (i : Int)) (strOfNums (out ++ unp ((bytesOf s).drop i))) := by
    intro d
    induction d with
    | zero =>
      intro i out hd hi ho
      have hi' : i = s.size := by omega
      subst hi'
      rw [List.drop_of_length_le (by rw [bytesOf_length]; exact Nat.le_refl _), show unp [] = [] from rfl, List.append_nil]
      refine Ev.step (f := fun _ => some (strOfNums out)) (fun k => ?_) (Ev.now _)
      simp only [infra_Unpercent.l0]
      rw [if_neg (by omega)]
    | succ d ih =>
      intro i out hd hi ho
      by_cases hend : i = s.size
      · exact ih i out (by omega) hi ho
      have hlt : i < s.size := by omega
      have hr := bt_r s i
      have hw1 : wrap64 ((i : Int) + 1) = ((i + 1 : Nat) : Int) := by rw [wrap_in (by omega)]; rfl
      have hw2 : wrap64 ((i : Int) + 2) = ((i + 2 : Nat) : Int) := by rw [wrap_in (by omega)]; rfl
      have hw3 : wrap64 (((i + 2 : Nat) : Int) + 1) = ((i + 3 : Nat) : Int) := by rw [wrap_in (by omega)]; rfl
      have fin : unp ((bytesOf s).drop i) = bt s i :: unp ((bytesOf s).drop (i + 1)) → Ev (fun k => infra_Unpercent.j1 k s out (i : Int) false) (strOfNums (out ++ unp ((bytesOf s).drop i))) := by
        intro he
        rw [he, show out ++ bt s i :: unp ((bytesOf s).drop (i + 1)) = (out ++ [bt s i]) ++ unp ((bytesOf s).drop (i + 1)) by simp]
        refine Ev.step (fun k => ?_) (ih (i + 1) (out ++ [bt s i]) (by omega) hlt (by simp; omega))
        simp only [infra_Unpercent.j1]
        rw [if_neg (by decide), if_pos (by omega), if_pos (by omega), if_pos (by omega), hw1]
      by_cases hc : bt s i = 37
      · by_cases h2 : i + 2 < s.size
        · have hr1 := bt_r s ((i + 1 : Nat) : Int)
          have hr2 := bt_r s ((i + 2 : Nat) : Int)
          have hdr : (bytesOf s).drop i = bt s i :: bt s ((i + 1 : Nat) : Int) :: bt s ((i + 2 : Nat) : Int) :: (bytesOf s).drop (i + 3) := by
            rw [drop_bytes s i hlt, drop_bytes s (i + 1) (by omega), drop_bytes s (i + 2) h2]
          have hx1 := hexv_in _ hr1
          have hx2 := hexv_in _ hr2
          have hcut : unp (bt s i :: bt s ((i + 1 : Nat) : Int) :: bt s ((i + 2 : Nat) : Int) :: (bytesOf s).drop (i + 3)) = if bt s i = 37 ∧ 0 ≤ hexv (bt s ((i + 1 : Nat) : Int)) ∧ 0 ≤ hexv (bt s ((i + 2 : Nat) : Int)) then (16 * hexv (bt s ((i + 1 : Nat) : Int)) + hexv (bt s ((i + 2 : Nat) : Int))) :: unp ((bytesOf s).drop (i + 3)) else bt s i :: unp ((bytesOf s).drop (i + 1)) := by
            rw [drop_bytes s (i + 1) (by omega), drop_bytes s (i + 2) h2]
            rfl
          rw [← hdr] at hcut
          refine Ev.step (f := fun k => (infra_digit.f k (bt s ((i + 1 : Nat) : Int))).bind fun t132 => if t132 ≥ 0 then (infra_digit.f k (bt s ((i + 2 : Nat) : Int))).bind fun t133 => infra_Unpercent.j1 k s out (i : Int) (decide (t133 ≥ 0)) else infra_Unpercent.j1 k s out (i : Int) false) (fun k => ?_) ?_
          · simp only [infra_Unpercent.l0]
            rw [if_pos (by omega), if_pos (by omega), if_pos hc, hw1, hw2, if_pos (by omega), if_pos (by omega), if_pos (by omega)]
            simp only [if_pos (show (0 : Int) ≤ ((i + 2 : Nat) : Int) by omega)]
          · refine Ev.bind (hexv_ev _ hr1) ?_
            by_cases ht1 : hexv (bt s ((i + 1 : Nat) : Int)) ≥ 0
            · simp only [if_pos ht1]
              refine Ev.bind (hexv_ev _ hr2) ?_
              by_cases ht2 : hexv (bt s ((i + 2 : Nat) : Int)) ≥ 0
              · rw [decide_eq_true ht2, hcut, if_pos ⟨hc, ht1, ht2⟩, show ∀ x : Int, ∀ l, out ++ x :: l = (out ++ [x]) ++ l by simp]
                refine Ev.step (f := fun k => (infra_digit.f k (bt s ((i + 1 : Nat) : Int))).bind fun t134 => (infra_digit.f k (bt s ((i + 2 : Nat) : Int))).bind fun t135 => infra_Unpercent.l0 k s (out ++ [(Go.bits .or .i64 (wrap64 (t134 * 16)) t135) % 256]) ((i + 3 : Nat) : Int)) (fun k => ?_) ?_
                · simp only [infra_Unpercent.j1]
                  rw [if_pos trivial, hw1, hw2, if_pos (by omega), if_pos (by omega)]
                  simp only [if_pos (show (0 : Int) ≤ ((i + 2 : Nat) : Int) by omega), if_pos (show ((i + 2 : Nat) : Int) < (s.size : Int) by omega), if_pos (show out.length < 140737488355328 by omega), hw3]
                · refine Ev.bind (hexv_ev _ hr1) (Ev.bind (hexv_ev _ hr2) ?_)
                  rw [join_hex _ _ ⟨ht1, hx1⟩ ⟨ht2, hx2⟩]
                  exact ih (i + 3) _ (by omega) (by omega) (by simp; omega)
              · rw [decide_eq_false ht2]
                exact fin (by rw [hcut, if_neg (fun h => ht2 h.2.2)])
            · simp only [if_neg ht1]
              exact fin (by rw [hcut, if_neg (fun h => ht1 h.2.1)])
        · refine Ev.step (fun k => ?_) (fin (by rw [drop_bytes s i hlt]; exact unp_cons _ _ (by rw [List.length_drop, bytesOf_length]; omega)))
          simp only [infra_Unpercent.l0]
          rw [if_pos (by omega), if_pos (by omega), if_pos hc, hw2, if_neg (by omega)]
      · refine Ev.step (fun k => ?_) (fin ?_)
        · simp only [infra_Unpercent.l0]
          rw [if_pos (by omega), if_pos (by omega), if_neg hc]
        · rw [drop_bytes s i hlt]
          rcases hd' : (bytesOf s).drop (i + 1) with _ | ⟨a, _ | ⟨b, l⟩⟩
          · rfl
          · rfl
          · show (if bt s i = 37 ∧ 0 ≤ hexv a ∧ 0 ≤ hexv b then (16 * hexv a + hexv b) :: unp l else bt s i :: unp (a :: b :: l)) = _
            rw [if_neg (fun h => hc h.1)]
  have h := key s.size 0 [] (by omega) (by omega) (by simp)
  rw [List.drop_zero, List.nil_append] at h
  exact h

theorem ref_join (a b : Int) (ha : 0 ≤ a ∧ a < 16) (hb : 0 ≤ b ∧ b < 16) : (wrap64 ((wrap64 (16 * a)) + b)) % 256 = 16 * a + b := by
  rw [wrap_in (x := 16 * a) (by omega), wrap_in (by omega)]
  omega

theorem unp_ref (s : ByteArray) (hs : s.size < 100000000) : Ev (fun k => ostiaryref1_Unpercent.f k s) (strOfNums (unp (bytesOf s))) := by
  have key : ∀ d (i : Nat) (out : List Int), s.size - i ≤ d → i ≤ s.size → out.length ≤ i → Ev (fun k => ostiaryref1_Unpercent.l0 k s out (i : Int)) (strOfNums (out ++ unp ((bytesOf s).drop i))) := by
    intro d
    induction d with
    | zero =>
      intro i out hd hi ho
      have hi' : i = s.size := by omega
      subst hi'
      rw [List.drop_of_length_le (by rw [bytesOf_length]; exact Nat.le_refl _), show unp [] = [] from rfl, List.append_nil]
      refine Ev.step (f := fun _ => some (strOfNums out)) (fun k => ?_) (Ev.now _)
      simp only [ostiaryref1_Unpercent.l0]
      rw [if_neg (by omega)]
    | succ d ih =>
      intro i out hd hi ho
      by_cases hend : i = s.size
      · exact ih i out (by omega) hi ho
      have hlt : i < s.size := by omega
      have hr := bt_r s i
      have hw1 : wrap64 ((i : Int) + 1) = ((i + 1 : Nat) : Int) := by rw [wrap_in (by omega)]; rfl
      have hw2 : wrap64 ((i : Int) + 2) = ((i + 2 : Nat) : Int) := by rw [wrap_in (by omega)]; rfl
      have hw3 : wrap64 (((i + 2 : Nat) : Int) + 1) = ((i + 3 : Nat) : Int) := by rw [wrap_in (by omega)]; rfl
      have fin : unp ((bytesOf s).drop i) = bt s i :: unp ((bytesOf s).drop (i + 1)) → Ev (fun k => ostiaryref1_Unpercent.j1 k s out (i : Int) false) (strOfNums (out ++ unp ((bytesOf s).drop i))) := by
        intro he
        rw [he, show out ++ bt s i :: unp ((bytesOf s).drop (i + 1)) = (out ++ [bt s i]) ++ unp ((bytesOf s).drop (i + 1)) by simp]
        refine Ev.step (fun k => ?_) (ih (i + 1) (out ++ [bt s i]) (by omega) hlt (by simp; omega))
        simp only [ostiaryref1_Unpercent.j1]
        rw [if_neg (by decide), if_pos (by omega), if_pos (by omega), if_pos (by omega), hw1]
      by_cases hc : bt s i = 37
      · by_cases h2 : i + 2 < s.size
        · have hr1 := bt_r s ((i + 1 : Nat) : Int)
          have hr2 := bt_r s ((i + 2 : Nat) : Int)
          have hdr : (bytesOf s).drop i = bt s i :: bt s ((i + 1 : Nat) : Int) :: bt s ((i + 2 : Nat) : Int) :: (bytesOf s).drop (i + 3) := by
            rw [drop_bytes s i hlt, drop_bytes s (i + 1) (by omega), drop_bytes s (i + 2) h2]
          have hx1 := hexv_in _ hr1
          have hx2 := hexv_in _ hr2
          have hcut : unp (bt s i :: bt s ((i + 1 : Nat) : Int) :: bt s ((i + 2 : Nat) : Int) :: (bytesOf s).drop (i + 3)) = if bt s i = 37 ∧ 0 ≤ hexv (bt s ((i + 1 : Nat) : Int)) ∧ 0 ≤ hexv (bt s ((i + 2 : Nat) : Int)) then (16 * hexv (bt s ((i + 1 : Nat) : Int)) + hexv (bt s ((i + 2 : Nat) : Int))) :: unp ((bytesOf s).drop (i + 3)) else bt s i :: unp ((bytesOf s).drop (i + 1)) := by
            rw [drop_bytes s (i + 1) (by omega), drop_bytes s (i + 2) h2]
            rfl
          rw [← hdr] at hcut
          refine Ev.step (f := fun k => (ostiaryref1_Hex.f k (bt s ((i + 1 : Nat) : Int))).bind fun t132 => if t132 ≥ 0 then (ostiaryref1_Hex.f k (bt s ((i + 2 : Nat) : Int))).bind fun t133 => ostiaryref1_Unpercent.j1 k s out (i : Int) (decide (t133 ≥ 0)) else ostiaryref1_Unpercent.j1 k s out (i : Int) false) (fun k => ?_) ?_
          · simp only [ostiaryref1_Unpercent.l0]
            rw [if_pos (by omega), if_pos (by omega), if_pos hc, hw1, hw2, if_pos (by omega), if_pos (by omega), if_pos (by omega)]
            simp only [if_pos (show (0 : Int) ≤ ((i + 2 : Nat) : Int) by omega)]
          · refine Ev.bind (hexv_ref _ hr1) ?_
            by_cases ht1 : hexv (bt s ((i + 1 : Nat) : Int)) ≥ 0
            · simp only [if_pos ht1]
              refine Ev.bind (hexv_ref _ hr2) ?_
              by_cases ht2 : hexv (bt s ((i + 2 : Nat) : Int)) ≥ 0
              · rw [decide_eq_true ht2, hcut, if_pos ⟨hc, ht1, ht2⟩, show ∀ x : Int, ∀ l, out ++ x :: l = (out ++ [x]) ++ l by simp]
                refine Ev.step (f := fun k => (ostiaryref1_Hex.f k (bt s ((i + 1 : Nat) : Int))).bind fun t134 => (ostiaryref1_Hex.f k (bt s ((i + 2 : Nat) : Int))).bind fun t135 => ostiaryref1_Unpercent.l0 k s (out ++ [(wrap64 ((wrap64 (16 * t134)) + t135)) % 256]) ((i + 3 : Nat) : Int)) (fun k => ?_) ?_
                · simp only [ostiaryref1_Unpercent.j1]
                  rw [if_pos trivial, hw1, hw2, if_pos (by omega), if_pos (by omega)]
                  simp only [if_pos (show (0 : Int) ≤ ((i + 2 : Nat) : Int) by omega), if_pos (show ((i + 2 : Nat) : Int) < (s.size : Int) by omega), if_pos (show out.length < 140737488355328 by omega), hw3]
                · refine Ev.bind (hexv_ref _ hr1) (Ev.bind (hexv_ref _ hr2) ?_)
                  rw [ref_join _ _ ⟨ht1, hx1⟩ ⟨ht2, hx2⟩]
                  exact ih (i + 3) _ (by omega) (by omega) (by simp; omega)
              · rw [decide_eq_false ht2]
                exact fin (by rw [hcut, if_neg (fun h => ht2 h.2.2)])
            · simp only [if_neg ht1]
              exact fin (by rw [hcut, if_neg (fun h => ht1 h.2.1)])
        · refine Ev.step (fun k => ?_) (fin (by rw [drop_bytes s i hlt]; exact unp_cons _ _ (by rw [List.length_drop, bytesOf_length]; omega)))
          simp only [ostiaryref1_Unpercent.l0]
          rw [if_pos (by omega), if_pos (by omega), if_pos hc, hw2, if_neg (by omega)]
      · refine Ev.step (fun k => ?_) (fin ?_)
        · simp only [ostiaryref1_Unpercent.l0]
          rw [if_pos (by omega), if_pos (by omega), if_neg hc]
        · rw [drop_bytes s i hlt]
          rcases hd' : (bytesOf s).drop (i + 1) with _ | ⟨a, _ | ⟨b, l⟩⟩
          · rfl
          · rfl
          · show (if bt s i = 37 ∧ 0 ≤ hexv a ∧ 0 ≤ hexv b then (16 * hexv a + hexv b) :: unp l else bt s i :: unp (a :: b :: l)) = _
            rw [if_neg (fun h => hc h.1)]
  have h := key s.size 0 [] (by omega) (by omega) (by simp)
  rw [List.drop_zero, List.nil_append] at h
  exact h

/-! ### the reference's Percent -/

theorem rin_ev (set c : Int) (hc : 0 ≤ c ∧ c < 256) : Ev (fun k => ostiaryref1_In.f k c set) (inS set c) := by
  have key : ∀ s : Int, (List.range 256).all (fun n => decide (ostiaryref1_In.f 30 (n : Int) s = some (inS s (n : Int)))) = true → Ev (fun k => ostiaryref1_In.f k c s) (inS s c) := fun s h =>
    Ev.of (ostiaryref1_In.mono c s) (k := 30) (of_decide_eq_true (all_bytes (p := fun c => decide (ostiaryref1_In.f 30 c s = some (inS s c))) h c hc))
  by_cases h6 : set = 6
  · subst h6; exact key 6 (by decide +kernel)
  by_cases h5 : set = 5
  · subst h5; exact key 5 (by decide +kernel)
  by_cases h4 : set = 4
  · subst h4; exact key 4 (by decide +kernel)
  by_cases h3 : set = 3
  · subst h3; exact key 3 (by decide +kernel)
  by_cases h2 : set = 2
  · subst h2; exact key 2 (by decide +kernel)
  by_cases h1 : set = 1
  · subst h1; exact key 1 (by decide +kernel)
  have hin : inS set c = false := by
    unfold inS infra_in.f
    rw [if_neg h6, if_neg h5, if_neg h4, if_neg h3, if_neg h2, if_neg h1]
    rfl
  rw [hin]
  refine Ev.step (f := fun _ => some false) (fun k => ?_) (Ev.now _)
  unfold ostiaryref1_In.f
  simp only [ostiaryref1_In.j0]
  rw [if_neg h6, if_neg h5, if_neg h4, if_neg h3, if_neg h2, if_neg h1, if_neg h6, if_neg h5, if_neg h4, if_neg h3, if_neg h2, if_neg h1]
  simp

theorem esc_some (c : Int) (hc : 0 ≤ c ∧ c < 256) : ∃ X, ostiaryref1_Escape.f c = some X ∧ bytesOf X = hexes c := by
  have h := of_decide_eq_true (all_bytes (p := fun c => decide ((ostiaryref1_Escape.f c).map bytesOf = some (hexes c))) (by decide +kernel) c hc)
  rw [Option.map_eq_some_iff] at h
  exact h

theorem rpct_ev (s : ByteArray) (set : Int) (hs : s.size ≤ 1000000) : Ev (fun k => ostiaryref1_Percent.f k s set) (strOfNums (pctL set (bytesOf s))) := by
  have key : ∀ d (i : Nat) (out : ByteArray), s.size - i = d → i ≤ s.size → out.size ≤ 3 * i → Ev (fun k => ostiaryref1_Percent.l0 k s set out (i : Int)) (strOfNums (bytesOf out ++ pctL set ((bytesOf s).drop i))) := by
    intro d
    induction d with
    | zero =>
      intro i out hd hi ho
      have hi' : i = s.size := by omega
      subst hi'
      rw [List.drop_of_length_le (by rw [bytesOf_length]; exact Nat.le_refl _), show pctL set [] = [] from rfl, List.append_nil, strOfNums_bytesOf]
      refine Ev.step (f := fun _ => some out) (fun k => ?_) (Ev.now _)
      simp only [ostiaryref1_Percent.l0]
      rw [if_neg (by omega)]
    | succ d ih =>
      intro i out hd hi ho
      have hlt : i < s.size := by omega
      have hr := bt_r s i
      have hw : wrap64 ((i : Int) + 1) = ((i + 1 : Nat) : Int) := by rw [wrap_in (by omega)]; rfl
      have hl := pctB_len set (bt s i)
      obtain ⟨X, hX, hXb⟩ := esc_some (bt s i) hr
      have hXs : X.size = 3 := by rw [← bytesOf_length, hXb]; rfl
      have hcut : bytesOf (s.extract i (i + 1)) = [bt s i] := by
        rw [bytesOf_extract, List.drop_take, drop_bytes s i hlt, show i + 1 - i = 1 by omega]
        rfl
      have hcs : (s.extract i (i + 1)).size = 1 := by rw [← bytesOf_length, hcut]; rfl
      rw [drop_bytes s i hlt, show pctL set (bt s i :: (bytesOf s).drop (i + 1)) = pctB set (bt s i) ++ pctL set ((bytesOf s).drop (i + 1)) from rfl, ← List.append_assoc]
      refine Ev.step (f := fun k => (ostiaryref1_In.f k (bt s i) set).bind fun t173 => if t173 = true then ostiaryref1_Percent.l0 k s set (out ++ X) ((i + 1 : Nat) : Int) else ostiaryref1_Percent.l0 k s set (out ++ s.extract i (i + 1)) ((i + 1 : Nat) : Int)) (fun k => ?_) ?_
      · simp only [ostiaryref1_Percent.l0]
        rw [if_pos (by omega), if_pos (by omega), hw, hX]
        simp only [Option.bind_some]
        rw [if_pos (by omega), if_pos (by omega), if_pos (by omega), Int.toNat_natCast, Int.toNat_natCast, if_pos (by omega)]
      · refine Ev.bind (rin_ev set (bt s i) hr) ?_
        by_cases hin : inS set (bt s i) = true
        · simp only [if_pos hin]
          rw [show pctB set (bt s i) = hexes (bt s i) by unfold pctB; rw [if_pos hin], ← hXb, ← bytesOf_append]
          exact ih (i + 1) _ (by omega) hlt (by rw [ByteArray.size_append]; omega)
        · simp only [if_neg hin]
          rw [show pctB set (bt s i) = [bt s i] by unfold pctB; rw [if_neg hin], ← hcut, ← bytesOf_append]
          exact ih (i + 1) _ (by omega) hlt (by rw [ByteArray.size_append]; omega)
  have h := key s.size 0 ⟨#[]⟩ (by omega) (by omega) (by simp [ByteArray.size])
  rw [List.drop_zero] at h
  exact h

/-! ### Same of two equal lists -/

theorem same_refl (l : List Int) (hl : l.length < 100000000) : Ev (fun k => ostiarybook_Same_byte.f k l l) true := by
  have key : ∀ d (i : Nat), l.length - i = d → i ≤ l.length → Ev (fun k => ostiarybook_Same_byte.l0 k l l (i : Int)) true := by
    intro d
    induction d with
    | zero =>
      intro i hd hi
      refine Ev.step (f := fun _ => some true) (fun k => ?_) (Ev.now _)
      simp only [ostiarybook_Same_byte.l0]
      rw [if_neg (by omega)]
    | succ d ih =>
      intro i hd hi
      have hw : wrap64 ((i : Int) + 1) = ((i + 1 : Nat) : Int) := by rw [wrap_in (by omega)]; rfl
      refine Ev.step (fun k => ?_) (ih (i + 1) (by omega) (by omega))
      simp only [ostiarybook_Same_byte.l0]
      rw [if_pos (by omega), if_pos (by omega), if_pos (by omega), if_pos trivial, hw]
  have e : ∀ k, ostiarybook_Same_byte.f k l l = ostiarybook_Same_byte.l0 k l l ((0 : Nat) : Int) := fun k => by
    unfold ostiarybook_Same_byte.f
    rw [if_pos rfl]
    rfl
  simp only [e]
  exact key l.length 0 (by omega) (by omega)

end Go.Proofs.Ytcnjbbgecopjmaa.Pl
