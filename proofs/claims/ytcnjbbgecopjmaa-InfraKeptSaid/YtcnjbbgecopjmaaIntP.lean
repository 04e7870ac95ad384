/- Plain law: what infra.Int's printed function answers; known answers true. -/
import Derived.Test.YtcnjbbgecopjmaaBytes
import Derived.Test.YtcnjbbgecopjmaaPXx4
import Derived.Test.YtcnjbbgecopjmaaPXx7
import Derived.KernelRfl
namespace Go.Proofs.Ytcnjbbgecopjmaa.Pl
open Go.RowKit Go.Proofs.Ytcnjbbgecopjmaa.PX Go.Proofs.YtcnjbbgecopjmaaW.PrintWords Go.Proofs.YtcnjbbgecopjmaaW.PrintLast

def dig (x : Int) : Bool := decide (48 ≤ x) && decide (x ≤ 57)

def sat (n x : Int) : Int := if n > (9223372036854775807 - (x - 48)) / 10 then 9223372036854775807 else n * 10 + (x - 48)

/-- What Int answers of a list of bytes. -/
def intAns (l : List Int) : Int × Bool := if l.all dig then (l.foldl sat 0, decide (0 < l.length)) else (0, false)

theorem sat_in {n x : Int} (hn : 0 ≤ n ∧ n ≤ 9223372036854775807) (hx : dig x = true) : 0 ≤ sat n x ∧ sat n x ≤ 9223372036854775807 := by
  simp only [dig, Bool.and_eq_true, decide_eq_true_eq] at hx
  unfold sat
  split <;> omega

theorem int_l0 (s : ByteArray) (hs : s.size < 9223372036854775807) (d : Nat) : ∀ (i : Nat) (n : Int), s.size - i = d → i ≤ s.size → 0 ≤ n ∧ n ≤ 9223372036854775807 →
    Ev (fun k => infra_Int.l0 k s n (s.size : Int) (i : Int)) (if ((bytesOf s).drop i).all dig then (((bytesOf s).drop i).foldl sat n, decide (0 < s.size)) else (0, false)) := by
  induction d with
  | zero =>
    intro i n hd hi hn
    have hi' : i = s.size := by omega
    subst hi'
    rw [List.drop_of_length_le (by rw [bytesOf_length]; exact Nat.le_refl _)]
    refine Ev.step (f := fun _ => some (n, decide (0 < s.size))) (fun k => ?_) (Ev.now _)
    simp only [infra_Int.l0]
    rw [if_neg (by omega)]
    congr 2
    exact decide_eq_decide.mpr (by omega)
  | succ d ih =>
    intro i n hd hi hn
    have hlt : i < s.size := by omega
    have hr := bt_range s i
    rw [drop_bytes s i hlt]
    by_cases hdig : dig (bt s i) = true
    · have hdig' := hdig
      simp only [dig, Bool.and_eq_true, decide_eq_true_eq] at hdig'
      have e : (bt s i - 48) % 256 = bt s i - 48 := by omega
      have hw : wrap64 ((i : Int) + 1) = ((i + 1 : Nat) : Int) := by rw [wrap_in (by omega)]; rfl
      rw [List.all_cons, hdig, Bool.true_and, List.foldl_cons]
      refine Ev.step (f := fun k => infra_Int.j1 k s n (bt s i) (s.size : Int) i false) (fun k => ?_) ?_
      · simp only [infra_Int.l0]
        rw [if_pos (by omega), if_pos (by omega), if_pos (by omega), if_neg (by omega), decide_eq_false (by omega)]
      · refine Ev.step (f := fun k => infra_Int.l0 k s (sat n (bt s i)) (s.size : Int) ((i + 1 : Nat) : Int)) (fun k => ?_) (ih (i + 1) _ (by omega) hlt (sat_in hn hdig))
        simp only [infra_Int.j1]
        rw [if_neg (by decide), e, hw]
        unfold sat
        by_cases hc : n > (9223372036854775807 - (bt s i - 48)) / 10
        · rw [if_pos hc, if_pos hc]
        · rw [if_neg hc, if_neg hc, wrap_in (x := n * 10) (by omega), wrap_in (by omega)]
    · have hdig' := hdig
      simp only [dig, Bool.and_eq_true, decide_eq_true_eq] at hdig'
      rw [List.all_cons, eq_false_of_ne_true hdig, Bool.false_and, if_neg (by decide)]
      refine Ev.step (f := fun k => infra_Int.j1 k s n (bt s i) (s.size : Int) i true) (fun k => ?_) ?_
      · simp only [infra_Int.l0]
        rw [if_pos (by omega), if_pos (by omega), if_pos (by omega)]
        by_cases h48 : bt s i < 48
        · rw [if_pos h48]
        · rw [if_neg h48, decide_eq_true (by omega)]
      · refine Ev.step (f := fun _ => some (0, false)) (fun k => ?_) (Ev.now _)
        simp only [infra_Int.j1]
        exact if_pos trivial

theorem int_ev (s : ByteArray) (hs : s.size < 9223372036854775807) : Ev (fun k => infra_Int.f k s) (intAns (bytesOf s)) := by
  have h := int_l0 s hs s.size 0 0 (by omega) (by omega) (by omega)
  rw [List.drop_zero] at h
  unfold intAns
  rw [bytesOf_length]
  exact h

theorem known_ev : Ev (fun k => ostiarylaw1_known.f k) true := Ev.of ostiarylaw1_known.mono (k := 60) (by kernel_rfl)

/-- Within brings a number into its bounds. -/
theorem within_some (n hi : Int) (h0 : 0 ≤ hi ∧ hi < 4611686018427387904) : ∃ m, ostiarybook_Within.f n 0 hi = some m ∧ 0 ≤ m ∧ m ≤ hi := by
  have e1 : wrap64 (wrap64 (hi - 0) + 1) = hi + 1 := by rw [Int.sub_zero, wrap_in (x := hi) (by omega), wrap_in (by omega)]
  have t1 := Int.tmod_lt_of_pos n (show (0 : Int) < hi + 1 by omega)
  have t2 := Int.lt_tmod_of_pos n (show (0 : Int) < hi + 1 by omega)
  unfold ostiarybook_Within.f
  rw [e1, if_neg (by omega)]
  by_cases hneg : n.tmod (hi + 1) < 0
  · rw [if_pos hneg]
    refine ⟨_, rfl, ?_⟩
    rw [wrap_in (x := n.tmod (hi + 1) + hi) (by omega), Int.sub_zero, wrap_in (x := n.tmod (hi + 1) + hi) (by omega), wrap_in (x := n.tmod (hi + 1) + hi + 1) (by omega), wrap_in (by omega)]
    omega
  · rw [if_neg hneg]
    refine ⟨_, rfl, ?_⟩
    rw [wrap_in (by omega)]
    omega

end Go.Proofs.Ytcnjbbgecopjmaa.Pl
