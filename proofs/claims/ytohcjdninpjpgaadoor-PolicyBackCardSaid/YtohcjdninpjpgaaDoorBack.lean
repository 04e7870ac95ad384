/- PolicyBack: the plain law. -/
import Derived.Test.YtohcjdninpjpgaaDoorParses
import Derived.Test.YtohcjdninpjpgaaDoorPXx9
namespace Go.Proofs.YtohcjdninpjpgaaDoor.Pl
open Go.RowKit Go.Proofs.YtohcjdninpjpgaaDoor.PX Go.Proofs.YtohcjdninpjpgaaDoor.Own Go.Proofs.YtohcjdninpjpgaaDoorW.PrintWords Go.Proofs.YtohcjdninpjpgaaDoorW.PrintLast Go.Proofs.YtohcjdninpjpgaaDoorW.PrintMore

theorem known_all : ostiarylaw10_known.f 60 = some true := by kernel_rfl

structure InvR (L : Nat) (acc : List S52) : Prop where
  good : ∀ x ∈ acc, goodR x
  len : ∀ x ∈ acc, (ruleT x).length ≤ L ∧ x.f1.length ≤ L
  apart : apartR acc
  few : acc.length ≤ 32

theorem addR_inv {L : Nat} {acc : List S52} {p : ByteArray} (h : InvR L acc) (hp : p.size ≤ L) (hno : (59 : UInt8) ∉ toL p) : InvR L (addR acc p) := by
  have hfew := addR_le acc p h.few
  cases hws : wordsOf p with
  | nil =>
    have e : addR acc p = acc := by unfold addR; rw [hws]
    rw [e]
    exact h
  | cons n vs =>
    by_cases h32 : 32 ≤ acc.length
    · have e : addR acc p = acc := by unfold addR; rw [hws]; simp only; rw [if_pos h32]
      rw [e]
      exact h
    · by_cases hneg : ruleFrom (lowS n) acc 0 < 0
      · have e : addR acc p = acc ++ [⟨lowS n, vs⟩] := by unfold addR; rw [hws]; simp only; rw [if_neg h32, if_pos hneg]
        rw [e] at hfew ⊢
        have hw : ∀ v ∈ n :: vs, plainB v := fun v hv => by
          obtain ⟨h1, h2⟩ := word_good p v (by rw [hws]; exact hv)
          exact ⟨h1, fun c hc => ⟨(h2 c hc).1, fun e => hno (by rw [← e]; exact (h2 c hc).2)⟩⟩
        have hc := words_cost p
        rw [hws] at hc
        have hcost : (ruleT (⟨lowS n, vs⟩ : S52)).length ≤ L := by
          have h1 : (ruleT (⟨lowS n, vs⟩ : S52)).length + 1 = cost (toL (lowS n) :: vs.map toL) := join_cost _ _
          have h2 : cost (toL (lowS n) :: vs.map toL) = cost ((n :: vs).map toL) := by
            simp only [cost, List.map_cons, List.sum_cons, toL_length, lowS_size]
          omega
        have hvl : vs.length ≤ L := by
          have := cost_length ((n :: vs).map toL)
          rw [List.length_map, List.length_cons] at this
          omega
        have hdiff : ∀ x ∈ acc, x.f0 ≠ lowS n := by
          rcases ruleFrom_cases (lowS n) acc 0 with ⟨_, h2⟩ | ⟨h1, _, _⟩
          · exact h2
          · omega
        refine ⟨fun x hx => ?_, fun x hx => ?_, ?_, hfew⟩
        · rcases List.mem_append.1 hx with hx | hx
          · exact h.good x hx
          · rw [List.mem_singleton.1 hx]
            exact ⟨lowS_lowS n, lowS_plain (hw n List.mem_cons_self), fun v hv => hw v (List.mem_cons_of_mem _ hv)⟩
        · rcases List.mem_append.1 hx with hx | hx
          · exact h.len x hx
          · rw [List.mem_singleton.1 hx]
            exact ⟨hcost, hvl⟩
        · unfold apartR
          rw [List.pairwise_append]
          refine ⟨h.apart, List.pairwise_singleton _ _, fun x hx y hy => ?_⟩
          rw [List.mem_singleton.1 hy]
          exact hdiff x hx
      · have e : addR acc p = acc := by unfold addR; rw [hws]; simp only; rw [if_neg h32, if_neg hneg]
        rw [e]
        exact h

theorem fold_inv {L : Nat} : ∀ (ps : List ByteArray) (acc : List S52), InvR L acc → (∀ p ∈ ps, p.size ≤ L ∧ (59 : UInt8) ∉ toL p) → InvR L (ps.foldl addR acc)
  | [], _, h, _ => h
  | p :: r, acc, h, hp => fold_inv r (addR acc p) (addR_inv h (hp p List.mem_cons_self).1 (hp p List.mem_cons_self).2) (fun q hq => hp q (List.mem_cons_of_mem _ hq))

theorem parse_inv (s : ByteArray) : InvR s.size (parseS s) :=
  fold_inv _ _ ⟨fun _ h => absurd h List.not_mem_nil, fun _ h => absurd h List.not_mem_nil, List.Pairwise.nil, by simp⟩ (fun p hp => piece_le 59 s p hp)

theorem lens_le (L : Nat) : ∀ r : List (List UInt8), (∀ t ∈ r, t.length ≤ L) → Lib.lens r ≤ L * r.length
  | [], _ => by simp [Lib.lens]
  | a :: r, h => by
    have h1 := lens_le L r (fun t ht => h t (List.mem_cons_of_mem _ ht))
    have h2 := h a List.mem_cons_self
    simp only [Lib.lens, List.map_cons, List.sum_cons, List.length_cons, Nat.mul_succ] at h1 ⊢
    omega

theorem text_le {L : Nat} (l : List S52) (h : InvR L l) : (textL l).length ≤ 33 * L + 64 := by
  unfold textL
  cases l with
  | nil => simp [Lib.join_nil]
  | cons x r =>
    have hx := h.len x List.mem_cons_self
    have h1 := lens_le L (r.map ruleT) (fun t ht => by
      obtain ⟨y, hy, rfl⟩ := List.mem_map.1 ht
      exact (h.len y (List.mem_cons_of_mem _ hy)).1)
    have hr : r.length ≤ 31 := by have := h.few; simp at this; omega
    rw [List.map_cons, Lib.join_cons, List.length_append, Lib.joinTail_length]
    rw [List.length_map] at h1 ⊢
    have h2 : L * r.length ≤ L * 31 := Nat.mul_le_mul_left _ hr
    have h3 : [(59 : UInt8), 32].length = 2 := rfl
    rw [h3]
    omega

theorem rd_at {l : List S52} {i : Nat} (h : i < l.length) : rd_T52 l (i : Int) = l[i] := by
  unfold rd_T52
  rw [Int.toNat_natCast, List.getD_eq_getElem?_getD, List.getElem?_eq_getElem h]
  rfl

theorem apart_ne {l : List S52} (h : apartR l) {i j : Nat} (hi : i < l.length) (hj : j < i) : l[j].f0 ≠ l[i].f0 := by
  unfold apartR at h
  exact List.pairwise_iff_getElem.1 h j i (by omega) hi hj

theorem back_l1 (rep : Bool) (t : ByteArray) (l q : List S52) (rp rq : Bool) (ha : apartR l) (hn : l.length ≤ 32) (i : Nat) (hi : i < l.length) (v : Option Bool) : ∀ (d j : Nat) (K : Nat), j + d = i → (ostiarylaw10_PolicyBack.l0 K rep t ((i + 1 : Nat) : Int) l rp q rq = v) →
    ostiarylaw10_PolicyBack.l1 (K + d + 1) rep t (i : Int) (j : Int) l rp q rq = v := by
  intro d
  induction d with
  | zero =>
    intro j K hj hv
    have hw : wrap64 ((i : Int) + 1) = ((i + 1 : Nat) : Int) := by rw [wrap_in (by omega)]; omega
    rw [ostiarylaw10_PolicyBack.l1, if_neg (by omega), hw]
    exact hv
  | succ d ih =>
    intro j K hj hv
    have hw : wrap64 ((j : Int) + 1) = ((j + 1 : Nat) : Int) := by rw [wrap_in (by omega)]; omega
    have hne : ¬ ((rd_T52 l (j : Int)).f0).toList = ((rd_T52 l (i : Int)).f0).toList := by
      rw [rd_at (by omega), rd_at hi]
      intro e
      exact apart_ne (j := j) ha hi (by omega) (data_inj (by rw [← toList_data, ← toList_data]; exact e))
    rw [show K + (d + 1) + 1 = (K + d + 1) + 1 by omega, ostiarylaw10_PolicyBack.l1, if_pos (by omega), if_pos (by omega), if_pos (by omega), if_pos (by omega), if_pos (by omega), if_neg hne, hw]
    exact ih (j + 1) K (by omega) hv

theorem back_l0 (rep : Bool) (l : List S52) (L : Nat) (hI : InvR L l) (hL : L ≤ 1000) : ∀ (d i : Nat), i + d = l.length → ∃ K, 60 ≤ K ∧ ostiarylaw10_PolicyBack.l0 K rep (textS l) (i : Int) l rep l rep = some true := by
  intro d
  induction d with
  | zero =>
    intro i hi
    have ht := text_le l hI
    have hf := hI.few
    have htx := text_f l rep (by omega) (fun x hx => by have := hI.len x hx; omega) (by omega) 60 (by omega)
    refine ⟨61, by omega, ?_⟩
    rw [ostiarylaw10_PolicyBack.l0, if_neg (by omega), htx, Option.bind_some, if_pos rfl, if_pos rfl, if_pos (by simp), known_all]
    rfl
  | succ d ih =>
    intro i hi
    obtain ⟨K, hK, h⟩ := ih (i + 1) (by omega)
    refine ⟨K + i + 1 + 1, by omega, ?_⟩
    rw [ostiarylaw10_PolicyBack.l0, if_pos (by omega)]
    exact back_l1 rep (textS l) l l rep rep hI.apart hI.few i (by omega) (some true) i 0 K (by omega) h

theorem back_pure (a0 : ByteArray) (a1 : Bool) : ∃ k, ostiarylaw10_PolicyBack.f k a0 a1 = some true := by
  obtain ⟨s, hs, hf⟩ : ∃ s : ByteArray, s.size ≤ 800 ∧ ostiarykeep_Few.f a0 800 = some s := by
    unfold ostiarykeep_Few.f
    by_cases h : (a0.size : Int) > 800
    · rw [if_pos h, if_pos (by decide), if_pos (by omega)]
      exact ⟨_, by rw [ByteArray.size_extract]; omega, rfl⟩
    · rw [if_neg h]
      exact ⟨a0, by omega, rfl⟩
  have hI := parse_inv s
  have ht := text_le _ hI
  have hfew := hI.few
  have htz : (textS (parseS s)).size ≤ 33 * s.size + 64 := by rw [← toL_length]; exact ht
  obtain ⟨K, _, hK⟩ := back_l0 a1 (parseS s) s.size hI (by omega) (parseS s).length 0 (by omega)
  obtain ⟨M, hM⟩ : ∃ M, M = K + 100000 := ⟨_, rfl⟩
  have hl0 : ostiarylaw10_PolicyBack.l0 M a1 (textS (parseS s)) 0 (parseS s) a1 (parseS s) a1 = some true := by
    have mono : ∀ d, ostiarylaw10_PolicyBack.l0 (K + d) a1 (textS (parseS s)) 0 (parseS s) a1 (parseS s) a1 = some true := by
      intro d
      induction d with
      | zero => exact hK
      | succ d ih => exact (ostiarylaw10_PolicyBack.mono_l (K + d)).1 _ _ _ _ _ _ _ _ ih
    rw [hM]
    exact mono 100000
  refine ⟨M, ?_⟩
  unfold ostiarylaw10_PolicyBack.f
  rw [hf, Option.bind_some, parse_f s a1 (by omega) M (by omega), Option.bind_some]
  simp only
  rw [text_f _ a1 (by omega) (fun x hx => by have := hI.len x hx; omega) (by omega) M (by omega), Option.bind_some, parse_f _ a1 (by omega) M (by omega), Option.bind_some]
  simp only
  rw [parse_text _ hI.good hI.apart hI.few]
  exact hl0

end Go.Proofs.YtohcjdninpjpgaaDoor.Pl
namespace Go.Proofs.YtohcjdninpjpgaaDoor.Own
open Go.RowKit Go.Proofs.YtohcjdninpjpgaaDoor.PX Go.Proofs.YtohcjdninpjpgaaDoor.Pl
theorem back_any (a0 : ByteArray) (a1 : Bool) (w : World) : Calls Tryd.prog 5 #[.string a0, .bool a1] w fun e w' => e = .returned (.bool true) ∧ Below w.heap.size w w' := by
  obtain ⟨k, h⟩ := back_pure a0 a1
  exact ostiarylaw10_PolicyBack.calls k a0 a1 true w h
end Go.Proofs.YtohcjdninpjpgaaDoor.Own
