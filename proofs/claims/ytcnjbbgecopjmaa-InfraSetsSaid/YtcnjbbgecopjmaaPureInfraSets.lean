/- Plain law of InfraSets: for every text of 500 bytes at most the printed function answers true. -/
import Derived.Test.YtcnjbbgecopjmaaPctP
import Derived.Test.YtcnjbbgecopjmaaIntP
import Derived.Test.YtcnjbbgecopjmaaSets
import Derived.Test.YtcnjbbgecopjmaaOpen
namespace Go.Proofs.Ytcnjbbgecopjmaa.Pure
open Go.RowKit Go.Proofs.Ytcnjbbgecopjmaa.Own Go.Proofs.Ytcnjbbgecopjmaa.PX Go.Proofs.Ytcnjbbgecopjmaa.PSets Go.Proofs.Ytcnjbbgecopjmaa.Pl Go.Proofs.YtcnjbbgecopjmaaW.PrintWords Go.Proofs.YtcnjbbgecopjmaaW.PrintLast

/-- What is asked of a set, byte by byte. -/
def fine (v c : Int) : Bool := (pctB v c).all (fun x => decide (32 ≤ x) && decide (x ≤ 126)) && (pctL v (pctB v c) == pctB v c)

def more (u v c : Int) : Bool := decide ((pctB u c).length ≤ (pctB v c).length)

theorem fine_all (v : Int) (h : (List.range 256).all (fun n => fine v (n : Int)) = true) (l : List Int) (hl : ∀ x ∈ l, 0 ≤ x ∧ x < 256) : (∀ x ∈ pctL v l, 32 ≤ x ∧ x ≤ 126) ∧ pctL v (pctL v l) = pctL v l := by
  induction l with
  | nil => exact ⟨by simp [pctL], rfl⟩
  | cons c l ih =>
    obtain ⟨h1, h2⟩ := ih (fun x hx => hl x (List.mem_cons_of_mem _ hx))
    have hc := all_bytes h c (hl c List.mem_cons_self)
    unfold fine at hc
    rw [Bool.and_eq_true, List.all_eq_true, beq_iff_eq] at hc
    have e : pctL v (c :: l) = pctB v c ++ pctL v l := rfl
    have e2 : ∀ a b : List Int, pctL v (a ++ b) = pctL v a ++ pctL v b := fun a b => by simp [pctL]
    rw [e]
    refine ⟨fun x hx => ?_, ?_⟩
    · rw [List.mem_append] at hx
      rcases hx with hx | hx
      · have := hc.1 x hx
        rw [Bool.and_eq_true, decide_eq_true_eq, decide_eq_true_eq] at this
        exact this
      · exact h1 x hx
    · rw [e2, hc.2, h2]

theorem more_all (u v : Int) (h : (List.range 256).all (fun n => more u v (n : Int)) = true) (l : List Int) (hl : ∀ x ∈ l, 0 ≤ x ∧ x < 256) : (pctL u l).length ≤ (pctL v l).length := by
  induction l with
  | nil => simp [pctL]
  | cons c l ih =>
    have h1 := ih (fun x hx => hl x (List.mem_cons_of_mem _ hx))
    have hc := of_decide_eq_true (all_bytes (p := more u v) h c (hl c List.mem_cons_self))
    have e : ∀ v, pctL v (c :: l) = pctB v c ++ pctL v l := fun _ => rfl
    rw [e, e, List.length_append, List.length_append]
    omega

theorem l1_ev (x3 x6 : ByteArray) (x4 : List Int) (x5 : Int) (r : Bool) (hs : x6.size < 1000000) (hx : ∀ x ∈ bytesOf x6, 32 ≤ x ∧ x ≤ 126) (h : Ev (fun k => ostiarylaw1_InfraSets.l0 k x3 x4 (wrap64 (x5 + 1))) r) (d : Nat) :
    ∀ i : Nat, x6.size - i = d → i ≤ x6.size → Ev (fun k => ostiarylaw1_InfraSets.l1 k x3 x4 x5 x6 (i : Int)) r := by
  induction d with
  | zero =>
    intro i hd hi
    refine Ev.step (fun k => ?_) h
    simp only [ostiarylaw1_InfraSets.l1]
    rw [if_neg (by omega)]
  | succ d ih =>
    intro i hd hi
    have hlt : i < x6.size := by omega
    have hb := hx (bt x6 i) (by rw [bt_get x6 i hlt]; exact List.getElem_mem _)
    have hw : wrap64 ((i : Int) + 1) = ((i + 1 : Nat) : Int) := by rw [wrap_in (by omega)]; rfl
    refine Ev.step (fun k => ?_) (ih (i + 1) (by omega) hlt)
    simp only [ostiarylaw1_InfraSets.l1]
    rw [if_pos (by omega), if_pos (by omega), if_neg (by omega), if_neg (by omega), hw]

theorem l0_ev (s : ByteArray) (hs : s.size ≤ 500) (x5 u v : Int) (r : Bool) (h5 : 0 ≤ x5 ∧ x5 < 4) (hv : rd [1, 3, 5, 6] x5 = v) (hu : 0 < x5 → rd [1, 3, 5, 6] (x5 - 1) = u ∧ (List.range 256).all (fun n => more u v (n : Int)) = true)
    (hf : (List.range 256).all (fun n => fine v (n : Int)) = true) (h : Ev (fun k => ostiarylaw1_InfraSets.l0 k s [1, 3, 5, 6] (x5 + 1)) r) : Ev (fun k => ostiarylaw1_InfraSets.l0 k s [1, 3, 5, 6] x5) r := by
  have hrng := bytesOf_range s
  obtain ⟨f1, f2⟩ := fine_all v hf (bytesOf s) hrng
  have hlen : (([1, 3, 5, 6] : List Int).length : Int) = 4 := rfl
  have hsz : ∀ w, (strOfNums (pctL w (bytesOf s))).size = (pctL w (bytesOf s)).length := fun w => strOfNums_size _
  have hl := pctL_len v (bytesOf s)
  rw [bytesOf_length] at hl
  have hw5 : wrap64 (x5 + 1) = x5 + 1 := wrap_in (by omega)
  have fin : Ev (fun k => ostiarylaw1_InfraSets.j1 k s [1, 3, 5, 6] x5 (strOfNums (pctL v (bytesOf s))) false) r := by
    refine Ev.step (fun k => ?_) (l1_ev s (strOfNums (pctL v (bytesOf s))) [1, 3, 5, 6] x5 r (by rw [hsz]; omega) (by rw [pct_bytes]; exact f1) (by rw [hw5]; exact h) _ 0 rfl (by omega))
    simp only [ostiarylaw1_InfraSets.j1]
    rw [if_neg (by decide)]
    rfl
  refine Ev.step (f := fun k => (infra_Percent.f k s v).bind fun t163 => (infra_Percent.f k t163 v).bind fun t165 => if t165.toList = t163.toList then (if x5 > 0 then ((infra_Percent.f k s u).bind fun t167 => ostiarylaw1_InfraSets.j1 k s [1, 3, 5, 6] x5 t163 (decide ((t167.size : Int) > (t163.size : Int)))) else ostiarylaw1_InfraSets.j1 k s [1, 3, 5, 6] x5 t163 false) else ostiarylaw1_InfraSets.j1 k s [1, 3, 5, 6] x5 t163 true) (fun k => ?_) ?_
  · simp only [ostiarylaw1_InfraSets.l0]
    rw [hlen, if_pos h5.2, if_pos h5.1, hv]
    by_cases h0 : x5 > 0
    · rw [wrap_in (x := x5 - 1) (by omega), (hu h0).1]
      simp only [if_pos h0, if_pos (show 0 ≤ x5 - 1 by omega), if_pos (show x5 - 1 < 4 by omega)]
    · simp only [if_neg h0]
  · refine Ev.bind (pct_ev s v (by omega)) ?_
    refine Ev.bind (pct_ev _ v (by rw [hsz]; omega)) ?_
    rw [pct_bytes, f2]
    simp only [if_true]
    by_cases h0 : x5 > 0
    · simp only [if_pos h0]
      refine Ev.bind (pct_ev s u (by omega)) ?_
      have hm := more_all u v (hu h0).2 (bytesOf s) hrng
      rw [hsz, hsz, decide_eq_false (by omega)]
      exact fin
    · simp only [if_neg h0]
      exact fin

theorem InfraSets (s : ByteArray) (hs : s.size ≤ 500) : ∃ k, ostiarylaw1_InfraSets.f k s = some true := by
  have hk : Ev (fun k => ostiarylaw1_InfraSets.l0 k s [1, 3, 5, 6] 4) true := by
    refine Ev.step (f := fun k => (ostiarylaw1_known.f k).bind fun t161 => some t161) (fun k => ?_) (Ev.bind known_ev (Ev.now true))
    simp only [ostiarylaw1_InfraSets.l0]
    rw [if_neg (by decide)]
  have h3 := l0_ev s hs 3 5 6 true (by omega) rfl (fun _ => ⟨rfl, by decide +kernel⟩) (by decide +kernel) hk
  have h2 := l0_ev s hs 2 3 5 true (by omega) rfl (fun _ => ⟨rfl, by decide +kernel⟩) (by decide +kernel) h3
  have h1 := l0_ev s hs 1 1 3 true (by omega) rfl (fun _ => ⟨rfl, by decide +kernel⟩) (by decide +kernel) h2
  have h0 := l0_ev s hs 0 0 1 true (by omega) rfl (fun h => absurd h (by decide)) (by decide +kernel) h1
  exact Ev.rounds h0

theorem sets_walk (W : World) (a : Option Addr) (len cap : Nat) (z : List Int) (h : IsRow .u8 W a len cap z) :
    Calls Try.prog 3 #[.slice a len cap] W fun e w' => e = .returned (.bool true) ∧ Below W.heap.size W w' := by
  obtain ⟨hC, hl, hr⟩ := isRow_bytes h
  obtain ⟨k, hk⟩ := InfraSets (strOfNums ((z.take len).take 500)) (by rw [strOfNums_size]; simp; omega)
  exact PSets.ostiarylaw1_InfraSets.calls k a len cap _ _ true W hC hl rfl hk

end Go.Proofs.Ytcnjbbgecopjmaa.Pure
