/- Plain law: what a parsed policy's rules are good for. -/
import Derived.Test.YtohcjdninpjpgaaDoorParses
namespace Go.Proofs.YtohcjdninpjpgaaDoor.Pl
open Go.RowKit Go.Proofs.YtohcjdninpjpgaaDoor.PX Go.Proofs.YtohcjdninpjpgaaDoor.Own Go.Proofs.YtohcjdninpjpgaaDoorW.PrintWords Go.Proofs.YtohcjdninpjpgaaDoorW.PrintLast Go.Proofs.YtohcjdninpjpgaaDoorW.PrintMore

theorem known_all : ostiarylaw10_known.f 60 = some true := by kernel_rfl

structure InvR (L : Nat) (acc : List S52) : Prop where
  good : ∀ x ∈ acc, goodR x
  len : ∀ x ∈ acc, (ruleT x).length ≤ L ∧ x.f1.length ≤ L
  apart : apartR acc
  few : acc.length ≤ 32

theorem addR_inv {L : Nat} {acc : List S52} {p : ByteArray} (h : InvR L acc) (hp : p.size ≤ L) (hno : (59 : UInt8) ∉ toL p) : InvR L (addR acc p) := by
  have hfew := addR_le acc p h.few
  cases hws : wordsOf p with
  | nil =>
    have e : addR acc p = acc := by unfold addR; rw [hws]
    rw [e]
    exact h
  | cons n vs =>
    by_cases h32 : 32 ≤ acc.length
    · have e : addR acc p = acc := by unfold addR; rw [hws]; simp only; rw [if_pos h32]
      rw [e]
      exact h
    · by_cases hneg : ruleFrom (lowS n) acc 0 < 0
      · have e : addR acc p = acc ++ [⟨lowS n, vs⟩] := by unfold addR; rw [hws]; simp only; rw [if_neg h32, if_pos hneg]
        rw [e] at hfew ⊢
        have hw : ∀ v ∈ n :: vs, plainB v := fun v hv => by
          obtain ⟨h1, h2⟩ := word_good p v (by rw [hws]; exact hv)
          exact ⟨h1, fun c hc => ⟨(h2 c hc).1, fun e => hno (by rw [← e]; exact (h2 c hc).2)⟩⟩
        have hc := words_cost p
        rw [hws] at hc
        have hcost : (ruleT (⟨lowS n, vs⟩ : S52)).length ≤ L := by
          have h1 : (ruleT (⟨lowS n, vs⟩ : S52)).length + 1 = cost (toL (lowS n) :: vs.map toL) := join_cost _ _
          have h2 : cost (toL (lowS n) :: vs.map toL) = cost ((n :: vs).map toL) := by
            simp only [cost, List.map_cons, List.sum_cons, toL_length, lowS_size]
          omega
        have hvl : vs.length ≤ L := by
          have := cost_length ((n :: vs).map toL)
          rw [List.length_map, List.length_cons] at this
          omega
        have hdiff : ∀ x ∈ acc, x.f0 ≠ lowS n := by
          rcases ruleFrom_cases (lowS n) acc 0 with ⟨_, h2⟩ | ⟨h1, _, _⟩
          · exact h2
          · omega
        refine ⟨fun x hx => ?_, fun x hx => ?_, ?_, hfew⟩
        · rcases List.mem_append.1 hx with hx | hx
          · exact h.good x hx
          · rw [List.mem_singleton.1 hx]
            exact ⟨lowS_lowS n, lowS_plain (hw n List.mem_cons_self), fun v hv => hw v (List.mem_cons_of_mem _ hv)⟩
        · rcases List.mem_append.1 hx with hx | hx
          · exact h.len x hx
          · rw [List.mem_singleton.1 hx]
            exact ⟨hcost, hvl⟩
        · unfold apartR
          rw [List.pairwise_append]
          refine ⟨h.apart, List.pairwise_singleton _ _, fun x hx y hy => ?_⟩
          rw [List.mem_singleton.1 hy]
          exact hdiff x hx
      · have e : addR acc p = acc := by unfold addR; rw [hws]; simp only; rw [if_neg h32, if_neg hneg]
        rw [e]
        exact h

theorem fold_inv {L : Nat} : ∀ (ps : List ByteArray) (acc : List S52), InvR L acc → (∀ p ∈ ps, p.size ≤ L ∧ (59 : UInt8) ∉ toL p) → InvR L (ps.foldl addR acc)
  | [], _, h, _ => h
  | p :: r, acc, h, hp => fold_inv r (addR acc p) (addR_inv h (hp p List.mem_cons_self).1 (hp p List.mem_cons_self).2) (fun q hq => hp q (List.mem_cons_of_mem _ hq))

theorem parse_inv (s : ByteArray) : InvR s.size (parseS s) :=
  fold_inv _ _ ⟨fun _ h => absurd h List.not_mem_nil, fun _ h => absurd h List.not_mem_nil, List.Pairwise.nil, by simp⟩ (fun p hp => piece_le 59 s p hp)

theorem lens_le (L : Nat) : ∀ r : List (List UInt8), (∀ t ∈ r, t.length ≤ L) → Lib.lens r ≤ L * r.length
  | [], _ => by simp [Lib.lens]
  | a :: r, h => by
    have h1 := lens_le L r (fun t ht => h t (List.mem_cons_of_mem _ ht))
    have h2 := h a List.mem_cons_self
    simp only [Lib.lens, List.map_cons, List.sum_cons, List.length_cons, Nat.mul_succ] at h1 ⊢
    omega

theorem text_le {L : Nat} (l : List S52) (h : InvR L l) : (textL l).length ≤ 33 * L + 64 := by
  unfold textL
  cases l with
  | nil => simp [Lib.join_nil]
  | cons x r =>
    have hx := h.len x List.mem_cons_self
    have h1 := lens_le L (r.map ruleT) (fun t ht => by
      obtain ⟨y, hy, rfl⟩ := List.mem_map.1 ht
      exact (h.len y (List.mem_cons_of_mem _ hy)).1)
    have hr : r.length ≤ 31 := by have := h.few; simp at this; omega
    rw [List.map_cons, Lib.join_cons, List.length_append, Lib.joinTail_length]
    rw [List.length_map] at h1 ⊢
    have h2 : L * r.length ≤ L * 31 := Nat.mul_le_mul_left _ hr
    have h3 : [(59 : UInt8), 32].length = 2 := rfl
    rw [h3]
    omega

theorem rd_at {l : List S52} {i : Nat} (h : i < l.length) : rd_T52 l (i : Int) = l[i] := by
  unfold rd_T52
  rw [Int.toNat_natCast, List.getD_eq_getElem?_getD, List.getElem?_eq_getElem h]
  rfl

end Go.Proofs.YtohcjdninpjpgaaDoor.Pl
