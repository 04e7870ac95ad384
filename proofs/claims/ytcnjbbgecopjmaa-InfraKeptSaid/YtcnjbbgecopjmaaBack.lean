/- Walk of InfraBack: for a slice of bytes that came in and any number it answers true. -/
import Derived.Test.YtcnjbbgecopjmaaBackP
namespace Go.Proofs.Ytcnjbbgecopjmaa.Own
open Go.RowKit Go.Proofs.Ytcnjbbgecopjmaa.PX Go.Proofs.Ytcnjbbgecopjmaa.Pl Go.Proofs.YtcnjbbgecopjmaaW.PrintWords Go.Proofs.YtcnjbbgecopjmaaW.PrintLast Go.Proofs.YtcnjbbgecopjmaaW.PrintMore

theorem b64_made (s : ByteArray) (hs : s.size < 100000000) (xs : List Int) (he : b64 (bytesOf s) = (xs, true)) (w : World) : Calls Try.prog 11 #[.string s] w fun e w' =>
    ∃ A c, e = .returned (.tuple #[.slice A xs.length c, .bool true]) ∧ (Kd.int .u8).C w' A xs.length xs ∧ Below w.heap.size w w' := by
  have h := b64_any s hs w
  rw [he] at h
  exact h.mono fun e w' ⟨A, c, he, hc, hR, hC, hb⟩ => ⟨A, c, he, hC, hb⟩

theorem within_any (n hi : Int) (h0 : 0 ≤ hi ∧ hi < 1000000) (w : World) : Calls Try.prog 19 #[.int .i64 n, .int .i64 0, .int .i64 hi] w fun e w' => ∃ m : Nat, e = .returned (.int .i64 m) ∧ (m : Int) ≤ hi ∧ Below w.heap.size w w' := by
  obtain ⟨m, hm, h1, h2⟩ := within_some n hi (by omega)
  refine (ostiarybook_Within.calls n 0 hi m w hm).mono fun e w' h => ?_
  exact ⟨m.toNat, by rw [Int.toNat_of_nonneg h1]; exact h.1, by omega, h.2.below⟩

theorem cut_to_any (s : ByteArray) (i : Nat) (hi : i ≤ s.size) : ∃ X : ByteArray, bytesOf X = (bytesOf s).take i ∧ X.size = i ∧ ∀ W : World, (Instr.slice 9 (.string s) none (some (.int .i64 (i : Int))) none).run Try.prog W = .ok (.string X) W := by
  refine ⟨_, ?_, ?_, fun W => run_slice_string_h W 9 s Try.underlying9 .i64 (i : Int) (by omega) (by omega)⟩
  · rw [bytesOf_extract]; simp
  · rw [ByteArray.size_extract]; omega

theorem cut_from_any (s : ByteArray) (i : Nat) (hi : i ≤ s.size) : ∃ X : ByteArray, bytesOf X = (bytesOf s).drop i ∧ X.size = s.size - i ∧ ∀ W : World, (Instr.slice 9 (.string s) (some (.int .i64 (i : Int))) none none).run Try.prog W = .ok (.string X) W := by
  refine ⟨_, ?_, ?_, fun W => run_slice_string_l W 9 s Try.underlying9 .i64 (i : Int) (by omega) (by omega)⟩
  · rw [bytesOf_extract, List.take_of_length_le (by rw [bytesOf_length]; exact Nat.le_refl _)]; simp
  · rw [ByteArray.size_extract]; omega

set_option maxHeartbeats 4000000 in
set_option maxRecDepth 100000 in
theorem back_any (A : Option Addr) (n c : Nat) (xs : List Int) (at_ : Int) (W : World) (hC : (Kd.int .u8).C W A n xs) (hnc : n ≤ c) (hr : ∀ x ∈ xs, 0 ≤ x ∧ x < 256) :
    Calls Try.prog 5 #[.slice A n c, .int .i64 at_] W fun e w' => e = .returned (.bool true) ∧ Below W.heap.size W w' := by
  have hC0 := few_C (m := 1500) hC
  have hr0 : ∀ x ∈ xs.take 1500, 0 ≤ x ∧ x < 256 := fun x hx => hr x (List.mem_of_mem_take hx)
  have hlen : (xs.take 1500).length ≤ 1500 := by rw [List.length_take]; omega
  have hln : (xs.take 1500).length = min n 1500 := hC0.1
  generalize xs.take 1500 = ys at *
  have hfew := few_1500 A n c hnc
  have hm15 : min n 1500 ≤ 1500 := Nat.min_le_right _ _
  have hmc : min n 1500 ≤ c := by omega
  generalize min n 1500 = m at *
  obtain ⟨b, hb⟩ : ∃ b, b = strOfNums ys := ⟨_, rfl⟩
  have hbb : bytesOf b = ys := by rw [hb, bytesOf_strOfNums _ hr0]
  obtain ⟨s, hs⟩ : ∃ s, s = strOfNums (enc ys) := ⟨_, rfl⟩
  have hsb : bytesOf s = enc ys := by rw [hs, bytesOf_strOfNums _ (enc_range ys)]
  have hss : s.size ≤ 3004 := by rw [← bytesOf_length, hsb]; have := enc_size ys; omega
  have hs4 : s.size % 4 = 0 := by rw [← bytesOf_length, hsb]; exact enc_len ys hr0
  have hcvs : ∀ w : World, Below W.heap.size W w → (convert 22 9 (.slice A m c)).run Try.prog w = .ok (.string b) w := fun w hw => by
    rw [hb]
    exact Kd.C_string Try.underlying22 Try.underlying5 Try.underlying9 (Kd.C_below hC0 hw)
  have hx64 : b64 (bytesOf s) = (ys, true) := by rw [hsb]; exact b64_enc ys hr0
  have HS := Lib.hid hs
  have HB := Lib.hid hb
  have HBB := Lib.hid hbb
  have HSB := Lib.hid hsb
  have HLN := Lib.hid hln
  have HCV := Lib.hid hcvs
  clear hC hr hs hb hbb hsb hln hcvs
  have HFEW := Lib.hid hfew
  clear hfew
  go_enter Try.func5, Try.ntmps5
  go_wp2_with fail
  refine (HFEW.out _).mono ?_
  rintro e w_ ⟨rfl, hw_⟩
  rw [hw_]
  clear hw_ w_
  go_wp2_with fail
  refine (enc_any A m c ys _ hC0 (by omega) (by omega) hr0).mono ?_
  rintro e w1 ⟨he1, hb1⟩
  rw [← HS.out] at he1
  subst he1
  go_wp2_with fail
  refine (b64_made s (by omega) ys hx64 _).mono ?_
  rintro e w2 ⟨A2, c2, rfl, hC2, hb2⟩
  replace hb2 := below_step hb1 hb2
  clear hb1 hx64
  go_wp2_with fail
  refine (within_any at_ (s.size : Int) (by omega) _).mono ?_
  rintro e w3 ⟨i, rfl, hi, hb3⟩
  replace hC2 := Kd.C_below hC2 hb3
  replace hb3 := below_step hb2 hb3
  clear hb2
  obtain ⟨X, hX, hXs, hcX⟩ := cut_to_any s i (by omega)
  obtain ⟨Y, hY, hYs, hcY⟩ := cut_from_any s i (by omega)
  have hsum : bytesOf (X ++ (⟨#[32, 10]⟩ : ByteArray) ++ Y) = (enc ys).take i ++ [32, 10] ++ (enc ys).drop i := by
    rw [bytesOf_append, bytesOf_append, hX, hY, HSB.out]
    rfl
  have h64 : b64 (bytesOf (X ++ (⟨#[32, 10]⟩ : ByteArray) ++ Y)) = (ys, true) := by rw [hsum]; exact b64_blanks ys hr0 i
  have H64 := Lib.hid h64
  have hXl : X.size ≤ 3004 := by omega
  have hYl : Y.size ≤ 3004 := by omega
  clear hX hXs hY hYs hsum h64
  have hls : (9223372036854775807 < X.size + 2) = False := eq_false (by omega)
  have hls2 : (9223372036854775807 < X.size + 2 + Y.size) = False := eq_false (by omega)
  go_upto_region 6 with fail
  have hsz64 : (X ++ (⟨#[32, 10]⟩ : ByteArray) ++ Y).size < 100000000 := by
    rw [ByteArray.size_append, ByteArray.size_append, show (⟨#[32, 10]⟩ : ByteArray).size = 2 from rfl]
    omega
  have HSZ := Lib.hid hsz64
  clear hsz64
  go_cut [9, 10] (fun v9 v10 wx => ∃ (A4 : Option Addr) (c4 : Nat), v9 = .slice A4 ys.length c4 ∧ v10 = .bool true ∧ (Kd.int .u8).C wx A4 ys.length ys ∧ (Kd.int .u8).C wx A2 ys.length ys ∧ Below W.heap.size W wx)
  case first =>
    have hch : Below w3.heap.size w3 w3.drew := (Below.refl _ _).drew
    go_region_with (go_at_call 11; refine (b64_made _ HSZ.out ys H64.out _).mono ?_; rintro e w4 ⟨A4, c4, rfl, hC4, hb4⟩; replace hch := hch.trans (hb4.mono hch.size); clear hb4)
    all_goals
      go_wp2_with fail
      go_meet
      case rel =>
        have hb4 := below_step hb3 hch
        have hC2' := Kd.C_below hC2 hch
        exact ⟨A4, c4, rfl, rfl, by first | exact hC4 | exact Kd.C_below hC4 (Below.refl _ _).drew, by first | exact hC2' | exact Kd.C_below hC2' (Below.refl _ _).drew, by first | exact hb4 | exact hb4.drew⟩
  case rest =>
    obtain ⟨A4, c4, rfl, rfl, hC4, hC2', hbc⟩ := hcut
    clear hcX hcY hls hls2 HSZ H64 hXl hYl hC2 hb3 hi
    have hcv0 := HCV.out wc hbc
    have hcv2 : (convert 22 9 (.slice A2 ys.length c2)).run Try.prog wc = .ok (.string b) wc := by rw [HB.out]; exact Kd.C_string Try.underlying22 Try.underlying5 Try.underlying9 hC2'
    have hcv4 : (convert 22 9 (.slice A4 ys.length c4)).run Try.prog wc = .ok (.string b) wc := by rw [HB.out]; exact Kd.C_string Try.underlying22 Try.underlying5 Try.underlying9 hC4
    have h4 : (s.size : Int) % 4 = 0 := by omega
    go_wp2_with fail
    have hCc := Kd.C_below hC0 hbc
    clear hcv2 hcv4 hcv0 h4 hC4 hC2'
    go_loop [11] (fun v => ∃ k : Nat, k ≤ m ∧ v = .int .i64 k ∧ ∀ x ∈ ys.take k, x ≠ 37) (fun v => m - (intOf v).toNat)
    case atStart => exact ⟨0, Nat.zero_le _, rfl, by simp⟩
    case round =>
      obtain ⟨k, hk, rfl, h37⟩ := hrel
      by_cases hkm : k < m
      · obtain ⟨ad, hB, hcell⟩ := (Kd.reads_of_C (d := (0 : Int)) (h1 := fun _ => rfl) hCc).2.2 (by omega)
        subst hB
        have hck := hcell k hkm
        have hin : k < ys.length := by rw [HLN.out]; exact hkm
        have hgk : ys.getD k 0 = ys[k] := by rw [List.getD_eq_getElem?_getD, List.getElem?_eq_getElem hin]; rfl
        have htk : ys.take (k + 1) = ys.take k ++ [ys[k]] := List.take_succ_eq_append_getElem hin
        rw [hgk] at hck
        generalize ys[k] = x at *
        have HTK := Lib.hid htk
        have H37 := Lib.hid h37
        clear hgk htk h37 hcell
        by_cases hx : x = 37
        · subst hx
          go_wp2_with fail
          refine (known_any _).mono ?_
          rintro e w5 ⟨rfl, hb5⟩
          replace hb5 := below_step hbc hb5
          go_wp2_with fail
          go_ret
          exact ⟨rfl, hb5⟩
        · have hx1 : (x == 37) = false := by simpa using hx
          have HX := Lib.hid hx
          clear hx
          go_wp2_with fail
          go_round
          case rel => exact ⟨k + 1, by omega, by go_num, fun y hy => by
            rw [HTK.out, List.mem_append, List.mem_singleton] at hy
            rcases hy with hy | rfl
            · exact H37.out y hy
            · exact HX.out⟩
          case measure => simp [intOf]; omega
      · have hkm' : k = m := by omega
        subst hkm'
        rw [← HLN.out, List.take_length] at h37
        have H37 := Lib.hid h37
        clear h37
        go_wp2_with fail
        go_loopw [12] (fun v wx => ∃ q : Nat, 1 ≤ q ∧ q ≤ 7 ∧ v = .int .i64 q ∧ Below W.heap.size W wx) (fun v _ => 8 - (intOf v).toNat)
        case atStart => exact ⟨1, by omega, by omega, rfl, hbc⟩
        case round =>
          obtain ⟨q, hq1, hq7, rfl, hbx⟩ := hrel
          by_cases hq : q ≤ 6
          · obtain ⟨P, hP⟩ : ∃ P, P = strOfNums (pctL q (bytesOf b)) := ⟨_, rfl⟩
            have hbs : b.size ≤ 1500 := by rw [← bytesOf_length, HBB.out]; exact hlen
            have hPs : P.size ≤ 4500 := by
              rw [hP, strOfNums_size]
              have := pctL_len q (bytesOf b)
              rw [bytesOf_length] at this
              omega
            have hpct : ∀ w, Calls Try.prog 9 #[.string b, .int .i64 q] w fun e w' => e = .returned (.string P) ∧ Below w.heap.size w w' := fun w => by
              rw [hP]
              exact pct_any b q (by omega) w
            have hunp : ∀ w, Calls Try.prog 17 #[.string P] w fun e w' => e = .returned (.string b) ∧ Below w.heap.size w w' := fun w => by
              have h := unp_any P (by omega) w
              rw [hP, pct_bytes, HBB.out, unp_pct q ys hr0 H37.out, ← HB.out, ← HBB.out, ← hP] at h
              exact h
            have HP := Lib.hid hpct
            have HU := Lib.hid hunp
            clear hP hpct hunp
            go_wp2_with fail
            have hch := hbx.drew
            have hcv := HCV.out _ hch
            go_region_with (first
              | (go_at_call 9; refine (HP.out _).mono ?_; rintro e w6 ⟨rfl, hb6⟩; replace hch := below_step hch hb6; clear hb6; have hcv6 := HCV.out _ hch)
              | (go_at_call 17; refine (HU.out _).mono ?_; rintro e w7 ⟨rfl, hb7⟩; replace hch := below_step hch hb7; clear hb7; have hcv7 := HCV.out _ hch))
            all_goals
              go_wp2_with fail
              exact ⟨⟨q + 1, by omega, by omega, by go_num, hch⟩, by simp [intOf]; omega⟩
          · go_wp2_with fail
            refine (known_any _).mono ?_
            rintro e w8 ⟨rfl, hb8⟩
            replace hb8 := below_step hbx hb8
            go_wp2_with fail
            go_ret
            exact ⟨rfl, hb8⟩

theorem back_walk (W : World) (a : Option Addr) (len cap : Nat) (z : List Int) (n : Int) (h : IsRow .u8 W a len cap z) :
    Calls Try.prog 5 #[.slice a len cap, .int .i64 n] W fun e w' => e = .returned (.bool true) ∧ Below W.heap.size W w' := by
  obtain ⟨hC, hl, hr⟩ := isRow_bytes h
  exact back_any a len cap _ n W hC hl hr

end Go.Proofs.Ytcnjbbgecopjmaa.Own
