/- Walk of InfraCodes: for a slice of bytes that came in and any number it answers true. -/
import Derived.Test.YtcnjbbgecopjmaaSays
import Derived.Test.YtcnjbbgecopjmaaRefEnc
namespace Go.Proofs.Ytcnjbbgecopjmaa.Own
open Go.RowKit Go.Proofs.Ytcnjbbgecopjmaa.PX Go.Proofs.Ytcnjbbgecopjmaa.Pl Go.Proofs.YtcnjbbgecopjmaaW.PrintWords Go.Proofs.YtcnjbbgecopjmaaW.PrintLast Go.Proofs.YtcnjbbgecopjmaaW.PrintMore

theorem few_C' {w : World} {A : Option Addr} {n m : Nat} {xs : List Int} (hC : (Kd.int .u8).C w A n xs) : (xs.take m).length = min n m := (few_C (m := m) hC).1

set_option maxHeartbeats 4000000 in
set_option maxRecDepth 100000 in
theorem codes_any (A : Option Addr) (n c : Nat) (xs : List Int) (set : Int) (W : World) (hC : (Kd.int .u8).C W A n xs) (hnc : n ≤ c) (hr : ∀ x ∈ xs, 0 ≤ x ∧ x < 256) :
    Calls Try.prog 4 #[.slice A n c, .int .i64 set] W fun e w' => e = .returned (.bool true) ∧ Below W.heap.size W w' := by
  obtain ⟨s, hs⟩ : ∃ s, s = strOfNums (xs.take 1500) := ⟨_, rfl⟩
  have hconv : (convert 22 9 (.slice A (min n 1500) c)).run Try.prog W = .ok (.string s) W := few_string hC hs
  have hsz : s.size ≤ 1500 := by rw [hs, strOfNums_size, List.length_take]; omega
  have hC0 := few_C (m := 1500) hC
  have hr0 : ∀ x ∈ xs.take 1500, 0 ≤ x ∧ x < 256 := fun x hx => hr x (List.mem_of_mem_take hx)
  have hl := b64_len (bytesOf s)
  rw [bytesOf_length] at hl
  clear hC hr hs
  go_enter Try.func4, Try.ntmps4
  go_wp2_with fail
  refine (few_1500 A n c hnc _).mono ?_
  rintro e w_ ⟨rfl, hw_⟩
  rw [hw_]
  clear hw_ w_
  go_wp2_with fail
  clear hconv
  refine (b64_any s (by omega) _).mono ?_
  rintro e w1 ⟨A1, c1, rfl, hc1, -, hC1, hb1⟩
  go_wp2_with fail
  refine (rb64_any s (by omega) _).mono ?_
  rintro e w2 ⟨A2, c2, rfl, hc2, -, hC2, hb2⟩
  replace hC1 := Kd.C_below hC1 hb2
  replace hb2 := below_step hb1 hb2
  clear hb1
  generalize hb64 : b64 (bytesOf s) = P at *
  clear hb64
  obtain ⟨l, ok⟩ := P
  go_wp2_with fail
  refine (same_any A1 A2 c1 c2 l (by have h : l.length ≤ s.size := hl; omega) _ hC1 hc1 hC2 hc2).mono ?_
  rintro e w3 ⟨rfl, hb3⟩
  replace hb3 := below_step hb2 hb3
  clear hb2 hC1 hC2 hc1 hc2
  have hC3 := Kd.C_below hC0 hb3
  go_wp2_with fail
  refine (enc_any A (min n 1500) c _ _ hC3 (by omega) (by omega) hr0).mono ?_
  rintro e w4 ⟨rfl, hb4⟩
  replace hC3 := Kd.C_below hC3 hb4
  replace hb4 := below_step hb3 hb4
  clear hb3
  go_wp2_with fail
  refine (refenc_any A (min n 1500) c _ _ hC3 (by omega) (by omega) hr0).mono ?_
  rintro e w5 ⟨rfl, hb5⟩
  replace hb5 := below_step hb4 hb5
  clear hb4 hC3
  go_wp2_with fail
  refine (pct_any s set (by omega) _).mono ?_
  rintro e w6 ⟨rfl, hb6⟩
  replace hb6 := below_step hb5 hb6
  clear hb5
  go_wp2_with fail
  refine (rpct_any s set (by omega) _).mono ?_
  rintro e w7 ⟨rfl, hb7⟩
  replace hb7 := below_step hb6 hb7
  clear hb6
  go_wp2_with fail
  refine (unp_any s (by omega) _).mono ?_
  rintro e w8 ⟨rfl, hb8⟩
  replace hb8 := below_step hb7 hb8
  clear hb7
  go_wp2_with fail
  refine (runp_any s (by omega) _).mono ?_
  rintro e w9 ⟨rfl, hb9⟩
  replace hb9 := below_step hb8 hb9
  clear hb8
  go_wp2_with fail
  refine (known_any _).mono ?_
  rintro e w10 ⟨rfl, hb10⟩
  replace hb10 := below_step hb9 hb10
  clear hb9
  go_wp2_with fail
  go_ret
  exact ⟨rfl, hb10⟩

theorem codes_walk (W : World) (a : Option Addr) (len cap : Nat) (z : List Int) (set : Int) (h : IsRow .u8 W a len cap z) :
    Calls Try.prog 4 #[.slice a len cap, .int .i64 set] W fun e w' => e = .returned (.bool true) ∧ Below W.heap.size W w' := by
  obtain ⟨hC, hl, hr⟩ := isRow_bytes h
  exact codes_any a len cap _ set W hC hl hr

end Go.Proofs.Ytcnjbbgecopjmaa.Own
