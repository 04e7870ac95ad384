/- Walk of InfraTexts: for a slice of bytes that came in it answers true. -/
import Derived.Test.YtcnjbbgecopjmaaDoorRoom
import Derived.Test.YtcnjbbgecopjmaaDoorDec
namespace Go.Proofs.YtcnjbbgecopjmaaDoor.Own
open Go.RowKit Go.Proofs.YtcnjbbgecopjmaaDoor.PX Go.Proofs.YtcnjbbgecopjmaaDoor.Pl Go.Proofs.YtcnjbbgecopjmaaDoorW.PrintWords Go.Proofs.YtcnjbbgecopjmaaDoorW.PrintLast Go.Proofs.YtcnjbbgecopjmaaDoorW.PrintMore

set_option maxHeartbeats 4000000 in
set_option maxRecDepth 100000 in
theorem texts_any (A : Option Addr) (n c : Nat) (xs : List Int) (W : World) (hT : Tabs W) (hC : (Kd.int .u8).C W A n xs) (hnc : n ≤ c) (hr : ∀ x ∈ xs, 0 ≤ x ∧ x < 256) :
    Calls Tryd.prog 6 #[.slice A n c] W fun e w' => e = .returned (.bool true) ∧ Below W.heap.size W w' := by
  have hC0 := few_C (m := 2000) hC
  have hr0 : ∀ x ∈ xs.take 2000, 0 ≤ x ∧ x < 256 := fun x hx => hr x (List.mem_of_mem_take hx)
  have hfew := few_2000 A n c hnc
  have hm : min n 2000 ≤ 2000 := Nat.min_le_right _ _
  have hmc : min n 2000 ≤ c := by omega
  generalize xs.take 2000 = ys at *
  generalize min n 2000 = m at *
  have hl : ys.length = m := hC0.1
  obtain ⟨s, hs⟩ : ∃ s, s = strOfNums ys := ⟨_, rfl⟩
  have hsb : bytesOf s = ys := by rw [hs, bytesOf_strOfNums _ hr0]
  have hss : s.size ≤ 2000 := by rw [← bytesOf_length, hsb]; omega
  have hcv : ∀ w : World, Below W.heap.size W w → (convert 22 9 (.slice A m c)).run Tryd.prog w = .ok (.string s) w := fun w hw => by
    rw [hs]
    exact Kd.C_string Tryd.underlying22 Tryd.underlying5 Tryd.underlying9 (Kd.C_below hC0 hw)
  have HFEW := Lib.hid hfew
  have HCV := Lib.hid hcv
  have HL := Lib.hid hl
  obtain ⟨i0, hi0, _, hsz, _⟩ := info_parts info5
  have hcutA := fun g W => cut_to (P := Tryd.prog) 22 5 .i64 Tryd.underlying22 hi0 (some ⟨g, 0, none⟩) (m + 80) (m + 80) (m : Int) (by omega) (by omega) (Nat.le_refl _) W
  rw [Int.toNat_natCast] at hcutA
  have HCUT := Lib.hid hcutA
  clear hC hr hs hsb hfew hcv hl hi0 hsz hcutA
  go_enter Tryd.func6, Tryd.ntmps6
  go_wp2_with fail
  refine (HFEW.out _).mono ?_
  rintro e w_ ⟨rfl, hw_⟩
  rw [hw_]
  clear hw_ w_
  go_wp2_with fail
  refine (roomy_any A m c ys W hC0 (by omega)).mono ?_
  rintro e w1 ⟨g, rfl, hown, hb1⟩
  have hF0 : (Kd.int .u8).C w1 (some ⟨g, 0, none⟩) (m + 80) (roomL ys 80) := by
    have e : (roomL ys 80).length = m + 80 := by rw [roomL_length ys 80 (Nat.le_refl _), HL.out]
    have hR : (Kd.int .u8).R 5 w1 W.heap.size (fun _ => True) (.slice (some ⟨g, 0, none⟩) (m + 80) (m + 80)) (roomL ys 80) := Kd.R_of_own (by rw [e]; exact hown) (fun _ _ => trivial)
    obtain ⟨A', c', hv, _, hC'⟩ := Kd.R_reads hR
    have hA : A' = some ⟨g, 0, none⟩ := by
      injection hv with h1 h2 h3
      exact h1.symm
    rw [← e, ← hA]
    exact hC'
  have hFt := Kd.C_take (m := m) (by rw [roomL_length ys 80 (Nat.le_refl _), HL.out]; exact hF0) (by rw [roomL_length ys 80 (Nat.le_refl _), HL.out]; omega)
  have htk : (roomL ys 80).take m = ys := by
    unfold roomL
    rw [← HL.out, List.take_left]
  rw [htk, HL.out] at hFt
  have hcv1 := HCV.out w1 hb1
  have hcutg := HCUT.out g
  clear hown htk
  go_wp2_with fail
  clear hcv1
  have hT1 := hT.below hb1 hT.two
  have hC1 := Kd.C_below hC0 hb1
  have hz := Below.refl w1.heap.size w1
  clear hT hC0
  refine (int_any s (by omega) _).mono ?_
  rintro e w2 ⟨rfl, hb2⟩
  have hz2 := below_step hz hb2
  clear hb2
  go_wp2_with fail
  refine (rint_any s (by omega) _).mono ?_
  rintro e w3 ⟨rfl, hb3⟩
  have hz3 := below_step hz2 hb3
  clear hb3
  go_wp2_with fail
  refine (lower_any s (by omega) _).mono ?_
  rintro e w4 ⟨rfl, hb4⟩
  have hz4 := below_step hz3 hb4
  clear hb4
  go_wp2_with fail
  refine (rlower_any s (by omega) _).mono ?_
  rintro e w5 ⟨rfl, hb5⟩
  have hz5 := below_step hz4 hb5
  clear hb5
  go_wp2_with fail
  refine (strip_any s (by omega) _).mono ?_
  rintro e w6 ⟨rfl, hb6⟩
  have hz6 := below_step hz5 hb6
  clear hb6
  go_wp2_with fail
  refine (rstrip_any s (by omega) _).mono ?_
  rintro e w7 ⟨rfl, hb7⟩
  have hz7 := below_step hz6 hb7
  clear hb7
  go_wp2_with fail
  refine (decode_any (some ⟨g, 0, none⟩) m (m + 80) ys _ (hT1.below hz7 hT1.two) (Kd.C_below hFt hz7) (by omega) hr0).mono ?_
  rintro e w8 ⟨rfl, hb8⟩
  have hz8 := below_step hz7 hb8
  clear hb8
  go_wp2_with fail
  refine (rdecode_any A m c ys _ (Kd.C_below hC1 hz8) (by omega) hr0).mono ?_
  rintro e w9 ⟨rfl, hb9⟩
  have hz9 := below_step hz8 hb9
  clear hb9
  go_wp2_with fail
  refine (tok_any s (by omega) _).mono ?_
  rintro e w10 ⟨rfl, hb10⟩
  have hz10 := below_step hz9 hb10
  clear hb10
  go_wp2_with fail
  refine (rtok_any s (by omega) _).mono ?_
  rintro e w11 ⟨rfl, hb11⟩
  have hz11 := below_step hz10 hb11
  clear hb11
  go_wp2_with fail
  refine (intact_any A g m c ys _ (Kd.C_below hC1 hz11) hmc (by omega) (Kd.C_below hF0 hz11)).mono ?_
  rintro e w12 ⟨rfl, hb12⟩
  have hz12 := below_step hz11 hb12
  clear hb12
  go_wp2_with fail
  refine (known_any _).mono ?_
  rintro e w13 ⟨rfl, hb13⟩
  have hz13 := below_step hz12 hb13
  clear hb13
  go_wp2_with fail
  go_ret
  exact ⟨rfl, below_step hb1 hz13⟩

theorem texts_walk (W : World) (a : Option Addr) (len cap : Nat) (z : List Int) (hT : Tabs W) (h : IsRow .u8 W a len cap z) :
    Calls Tryd.prog 6 #[.slice a len cap] W fun e w' => e = .returned (.bool true) ∧ Below W.heap.size W w' := by
  obtain ⟨hC, hl, hr⟩ := isRow_bytes h
  exact texts_any a len cap _ W hT hC hl hr

end Go.Proofs.YtcnjbbgecopjmaaDoor.Own
