/- Plain law: what infra.Percent's printed function answers. -/
import Derived.Test.YtcnjbbgecopjmaaBytes
import Derived.Test.YtcnjbbgecopjmaaPXx1
namespace Go.Proofs.Ytcnjbbgecopjmaa.Pl
open Go.RowKit Go.Proofs.Ytcnjbbgecopjmaa.PX Go.Proofs.YtcnjbbgecopjmaaW.PrintWords Go.Proofs.YtcnjbbgecopjmaaW.PrintLast

theorem all_bytes {p : Int → Bool} (h : (List.range 256).all (fun n => p (n : Int)) = true) (c : Int) (hc : 0 ≤ c ∧ c < 256) : p c = true := by
  have := List.all_eq_true.mp h c.toNat (List.mem_range.mpr (by omega))
  rwa [Int.toNat_of_nonneg hc.1] at this

/-- Is a byte of a set? -/
def inS (set c : Int) : Bool := (infra_in.f 5 set c).getD false

theorem in_some (set c : Int) (hc : 0 ≤ c ∧ c < 256) : infra_in.f 5 set c = some (inS set c) := by
  have key : ∀ s : Int, (List.range 256).all (fun n => decide (infra_in.f 5 s (n : Int) = some (inS s (n : Int)))) = true → infra_in.f 5 s c = some (inS s c) := fun s h => of_decide_eq_true (all_bytes (p := fun c => decide (infra_in.f 5 s c = some (inS s c))) h c hc)
  by_cases h6 : set = 6
  · subst h6; exact key 6 (by decide +kernel)
  by_cases h5 : set = 5
  · subst h5; exact key 5 (by decide +kernel)
  by_cases h4 : set = 4
  · subst h4; exact key 4 (by decide +kernel)
  by_cases h3 : set = 3
  · subst h3; exact key 3 (by decide +kernel)
  by_cases h2 : set = 2
  · subst h2; exact key 2 (by decide +kernel)
  by_cases h1 : set = 1
  · subst h1; exact key 1 (by decide +kernel)
  have : infra_in.f 5 set c = some false := by
    unfold infra_in.f
    rw [if_neg h6, if_neg h5, if_neg h4, if_neg h3, if_neg h2, if_neg h1]
  unfold inS
  rw [this]
  rfl

theorem in_ev (set c : Int) (hc : 0 ≤ c ∧ c < 256) : Ev (fun k => infra_in.f k set c) (inS set c) := Ev.of (infra_in.mono set c) (in_some set c hc)

/-- A byte's two digits. -/
def hexes (c : Int) : List Int := [37, bt (⟨#[48, 49, 50, 51, 52, 53, 54, 55, 56, 57, 65, 66, 67, 68, 69, 70]⟩ : ByteArray) (c / 16), bt (⟨#[48, 49, 50, 51, 52, 53, 54, 55, 56, 57, 65, 66, 67, 68, 69, 70]⟩ : ByteArray) (Go.bits .and .u8 c 15)]

def pctB (set c : Int) : List Int := if inS set c = true then hexes c else [c]

/-- Percent of a list of bytes. -/
def pctL (set : Int) (l : List Int) : List Int := l.flatMap (pctB set)

theorem and15 (c : Int) (hc : 0 ≤ c ∧ c < 256) : 0 ≤ Go.bits .and .u8 c 15 ∧ Go.bits .and .u8 c 15 < 16 :=
  of_decide_eq_true (all_bytes (p := fun c => decide (0 ≤ Go.bits .and .u8 c 15 ∧ Go.bits .and .u8 c 15 < 16)) (by decide +kernel) c hc)

theorem pctB_len (set c : Int) : (pctB set c).length ≤ 3 := by
  unfold pctB hexes
  split <;> simp

theorem pctL_len (set : Int) (l : List Int) : (pctL set l).length ≤ 3 * l.length := by
  induction l with
  | nil => simp [pctL]
  | cons c l ih =>
    have := pctB_len set c
    simp only [pctL, List.flatMap_cons, List.length_append, List.length_cons] at ih ⊢
    omega

theorem pct_l0 (s : ByteArray) (set : Int) (hs : s.size ≤ 40000000000000) (d : Nat) : ∀ (i : Nat) (out : List Int), s.size - i = d → i ≤ s.size → out.length ≤ 3 * i →
    Ev (fun k => infra_Percent.l0 k s set out (s.size : Int) (i : Int)) (strOfNums (out ++ pctL set ((bytesOf s).drop i))) := by
  induction d with
  | zero =>
    intro i out hd hi ho
    have hi' : i = s.size := by omega
    subst hi'
    rw [List.drop_of_length_le (by rw [bytesOf_length]; exact Nat.le_refl _)]
    refine Ev.step (f := fun _ => some (strOfNums out)) (fun k => ?_) (by rw [show pctL set [] = [] from rfl, List.append_nil]; exact Ev.now _)
    simp only [infra_Percent.l0]
    rw [if_neg (by omega)]
  | succ d ih =>
    intro i out hd hi ho
    have hlt : i < s.size := by omega
    have hr := bt_range s i
    have hw : wrap64 ((i : Int) + 1) = ((i + 1 : Nat) : Int) := by rw [wrap_in (by omega)]; rfl
    have hl := pctB_len set (bt s i)
    rw [drop_bytes s i hlt, show pctL set (bt s i :: (bytesOf s).drop (i + 1)) = pctB set (bt s i) ++ pctL set ((bytesOf s).drop (i + 1)) from rfl, ← List.append_assoc]
    refine Ev.step (f := fun k => (infra_in.f k set (bt s i)).bind fun t106 => if t106 = true then infra_Percent.l0 k s set (out ++ hexes (bt s i)) (s.size : Int) ((i + 1 : Nat) : Int) else infra_Percent.l0 k s set (out ++ [bt s i]) (s.size : Int) ((i + 1 : Nat) : Int)) (fun k => ?_) ?_
    · have h15 := and15 (bt s i) (by omega)
      simp only [infra_Percent.l0]
      rw [if_pos (by omega), if_pos (by omega), if_pos (by omega), hw]
      refine congrArg _ (funext fun t => ?_)
      by_cases ht : t = true
      · rw [if_pos ht, if_pos ht, if_pos (by omega), if_pos (by omega), if_pos h15.1, if_pos h15.2, Option.bind_some, if_pos (by simp; omega)]
        rfl
      · rw [if_neg ht, if_neg ht, if_pos (by omega)]
    · refine Ev.bind (in_ev set (bt s i) (by omega)) ?_
      have h := ih (i + 1) (out ++ pctB set (bt s i)) (by omega) hlt (by rw [List.length_append]; omega)
      by_cases hin : inS set (bt s i) = true
      · rw [show pctB set (bt s i) = hexes (bt s i) by unfold pctB; rw [if_pos hin]] at h ⊢
        simp only [if_pos hin]
        exact h
      · rw [show pctB set (bt s i) = [bt s i] by unfold pctB; rw [if_neg hin]] at h ⊢
        simp only [if_neg hin]
        exact h

theorem pct_ev (s : ByteArray) (set : Int) (hs : s.size ≤ 40000000000000) : Ev (fun k => infra_Percent.f k s set) (strOfNums (pctL set (bytesOf s))) := by
  have h := pct_l0 s set hs s.size 0 [] (by omega) (by omega) (by simp)
  rw [List.drop_zero, List.nil_append] at h
  exact h

theorem hexes_range (c : Int) : ∀ x ∈ hexes c, 0 ≤ x ∧ x < 256 := by
  intro x hx
  unfold hexes at hx
  simp only [List.mem_cons, List.not_mem_nil, or_false] at hx
  rcases hx with rfl | rfl | rfl
  · omega
  · have := bt_range (⟨#[48, 49, 50, 51, 52, 53, 54, 55, 56, 57, 65, 66, 67, 68, 69, 70]⟩ : ByteArray) (c / 16); omega
  · have := bt_range (⟨#[48, 49, 50, 51, 52, 53, 54, 55, 56, 57, 65, 66, 67, 68, 69, 70]⟩ : ByteArray) (Go.bits .and .u8 c 15); omega

theorem pctL_range (set : Int) (l : List Int) (h : ∀ x ∈ l, 0 ≤ x ∧ x < 256) : ∀ x ∈ pctL set l, 0 ≤ x ∧ x < 256 := by
  intro x hx
  unfold pctL at hx
  rw [List.mem_flatMap] at hx
  obtain ⟨c, hc, hx⟩ := hx
  unfold pctB at hx
  split at hx
  · exact hexes_range c x hx
  · rw [List.mem_singleton] at hx
    subst hx
    exact h _ hc

theorem pct_bytes (s : ByteArray) (set : Int) : bytesOf (strOfNums (pctL set (bytesOf s))) = pctL set (bytesOf s) :=
  bytesOf_strOfNums _ (pctL_range set _ (bytesOf_range s))

end Go.Proofs.Ytcnjbbgecopjmaa.Pl
