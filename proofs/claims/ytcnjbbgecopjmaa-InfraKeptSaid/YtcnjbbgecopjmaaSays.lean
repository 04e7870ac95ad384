/- Contracts of infra's functions and of the reference's over plain lists of bytes. -/
import Derived.Test.YtcnjbbgecopjmaaUnpP
import Derived.Test.YtcnjbbgecopjmaaB64R
import Derived.Test.YtcnjbbgecopjmaaIntP
import Derived.Test.YtcnjbbgecopjmaaOpen
import Derived.Test.YtcnjbbgecopjmaaFew
namespace Go.Proofs.Ytcnjbbgecopjmaa.Own
open Go.RowKit Go.Proofs.Ytcnjbbgecopjmaa.PX Go.Proofs.Ytcnjbbgecopjmaa.Pl Go.Proofs.YtcnjbbgecopjmaaW.PrintWords Go.Proofs.YtcnjbbgecopjmaaW.PrintLast Go.Proofs.YtcnjbbgecopjmaaW.PrintMore

/-- A slice of bytes in memory of its own, and a bool. -/
def MadePost (p : List Int × Bool) (w : World) (e : Ending) (w' : World) : Prop :=
  ∃ A c, e = .returned (.tuple #[.slice A p.1.length c, .bool p.2]) ∧ p.1.length ≤ c ∧ Kd.R (Kd.int .u8) 5 w' w.heap.size (fun _ => True) (.slice A p.1.length c) p.1 ∧ (Kd.int .u8).C w' A p.1.length p.1 ∧ Below w.heap.size w w'

theorem b64_any (s : ByteArray) (hs : s.size < 100000000) (w : World) : Calls Try.prog 11 #[.string s] w (MadePost (b64 (bytesOf s)) w) := by
  obtain ⟨k, hk⟩ := Ev.rounds (infra_b64 s hs)
  refine (infra_Base64.calls k s _ _ w hk).mono fun e w' ⟨v, he, hR, hb⟩ => ?_
  obtain ⟨A, c, rfl, hc, hC⟩ := Kd.R_reads hR
  exact ⟨A, c, he, hc, hR, hC, hb⟩

theorem rb64_any (s : ByteArray) (hs : s.size < 100000000) (w : World) : Calls Try.prog 12 #[.string s] w (MadePost (b64 (bytesOf s)) w) := by
  obtain ⟨k, hk⟩ := Ev.rounds (ref_b64 s hs)
  refine (ostiaryref1_Base64.calls k s _ _ w hk).mono fun e w' ⟨v, he, hR, hb⟩ => ?_
  obtain ⟨A, c, rfl, hc, hC⟩ := Kd.R_reads hR
  exact ⟨A, c, he, hc, hR, hC, hb⟩

theorem pct_any (s : ByteArray) (set : Int) (hs : s.size ≤ 1000000) (w : World) : Calls Try.prog 9 #[.string s, .int .i64 set] w fun e w' => e = .returned (.string (strOfNums (pctL set (bytesOf s)))) ∧ Below w.heap.size w w' := by
  obtain ⟨k, hk⟩ := Ev.rounds (pct_ev s set (by omega))
  exact infra_Percent.calls k s set _ w hk

theorem rpct_any (s : ByteArray) (set : Int) (hs : s.size ≤ 1000000) (w : World) : Calls Try.prog 16 #[.string s, .int .i64 set] w fun e w' => e = .returned (.string (strOfNums (pctL set (bytesOf s)))) ∧ Below w.heap.size w w' := by
  obtain ⟨k, hk⟩ := Ev.rounds (rpct_ev s set hs)
  refine (ostiaryref1_Percent.calls k s set _ w hk).mono fun e w' h => ?_
  first | exact h | exact ⟨h.1, h.2.below⟩

theorem unp_any (s : ByteArray) (hs : s.size < 100000000) (w : World) : Calls Try.prog 17 #[.string s] w fun e w' => e = .returned (.string (strOfNums (unp (bytesOf s)))) ∧ Below w.heap.size w w' := by
  obtain ⟨k, hk⟩ := Ev.rounds (unp_infra s hs)
  exact infra_Unpercent.calls k s _ w hk

theorem runp_any (s : ByteArray) (hs : s.size < 100000000) (w : World) : Calls Try.prog 18 #[.string s] w fun e w' => e = .returned (.string (strOfNums (unp (bytesOf s)))) ∧ Below w.heap.size w w' := by
  obtain ⟨k, hk⟩ := Ev.rounds (unp_ref s hs)
  exact ostiaryref1_Unpercent.calls k s _ w hk

theorem same_any (A B : Option Addr) (c d : Nat) (l : List Int) (hl : l.length < 100000000) (w : World) (hA : (Kd.int .u8).C w A l.length l) (hc : l.length ≤ c) (hB : (Kd.int .u8).C w B l.length l) (hd : l.length ≤ d) :
    Calls Try.prog 13 #[.slice A l.length c, .slice B l.length d] w fun e w' => e = .returned (.bool true) ∧ Below w.heap.size w w' := by
  obtain ⟨k, hk⟩ := Ev.rounds (same_refl l hl)
  exact (ostiarybook_Same_byte.calls k A c l B d l _ w hA hc hB hd hk).mono fun e w' h => ⟨h.1, h.2.below⟩

theorem known_any (w : World) : Calls Try.prog 10 #[] w fun e w' => e = .returned (.bool true) ∧ Below w.heap.size w w' := by
  obtain ⟨k, hk⟩ := Ev.rounds known_ev
  exact ostiarylaw1_known.calls k _ w hk

/-! ### lengths -/

theorem run64_len (l : List Int) : ∀ out n b, 0 ≤ b ∧ b < 8 → (run64 l out n b).1.length ≤ out.length + l.length := by
  induction l with
  | nil => intro out n b _; simp [run64]
  | cons c l ih =>
    intro out n b hb
    unfold run64
    split
    · simp
    · split
      · have := ih (out ++ [((n * 64 + val64 c) % 65536 / 2 ^ (b - 2).toNat) % 256]) ((n * 64 + val64 c) % 65536) (b - 2) (by omega)
        simp at this ⊢
        omega
      · have := ih out ((n * 64 + val64 c) % 65536) (b + 6) (by omega)
        simp at this ⊢
        omega

theorem strip64_len (k : Nat) : ∀ l, (strip64 k l).length ≤ l.length := by
  induction k with
  | zero => intro l; exact Nat.le_refl _
  | succ k ih =>
    intro l
    unfold strip64
    split
    · have := ih (l.take (l.length - 1))
      rw [List.length_take] at this
      omega
    · exact Nat.le_refl _

theorem fin64_len (l : List Int) : (fin64 l).1.length ≤ l.length := by
  unfold fin64
  split
  · simp
  · have := run64_len l [] 0 0 (by omega)
    simpa using this

theorem b64_len (l : List Int) : (b64 l).1.length ≤ l.length := by
  have h1 := kept_len l
  unfold b64
  split
  · have h2 := fin64_len (strip64 2 (kept l))
    have h3 := strip64_len 2 (kept l)
    omega
  · have h2 := fin64_len (kept l)
    omega

end Go.Proofs.Ytcnjbbgecopjmaa.Own
