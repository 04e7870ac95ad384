/- InfraKept: the walk. -/
import Derived.Test.YtcnjbbgecopjmaaBookK
import Derived.Test.YtcnjbbgecopjmaaBookA
import Derived.Test.YtcnjbbgecopjmaaBack
namespace Go.Proofs.Ytcnjbbgecopjmaa.Own
open Go.RowKit Go.Proofs.YtcnjbbgecopjmaaW.PrintWords Go.Proofs.Ytcnjbbgecopjmaa.Pl Go.Proofs.Ytcnjbbgecopjmaa.PX Go.Proofs.YtcnjbbgecopjmaaW.PrintLast Go.Proofs.YtcnjbbgecopjmaaW.PrintMore

theorem b64_own (s : ByteArray) (hs : s.size < 100000000) (xs : List Int) (he : b64 (bytesOf s) = (xs, true)) (w : World) : Calls Try.prog 11 #[.string s] w fun e w' =>
    ∃ A c, e = .returned (.tuple #[.slice A xs.length c, .bool true]) ∧ w'.ownsRow w.heap.size 5 1 (.slice A xs.length c) xs.length (xs.map (Value.int .u8)) ∧ Below w.heap.size w w' := by
  have h := b64_any s hs w
  rw [he] at h
  exact h.mono fun e w' ⟨A, c, he, hc, hR, hC, hb⟩ => ⟨A, c, he, Kd.own_of_R hR, hb⟩

/-- A book of the call's own, with room for more. -/
def Booked (base g : Nat) (W wr : World) : Prop :=
  ∃ L M held rows copies, ByteBook wr base g L M held rows copies ∧ rows.length ≤ 4000 ∧ Below base W wr

set_option maxHeartbeats 4000000 in
set_option maxRecDepth 100000 in
theorem kept_any (A : Option Addr) (n c : Nat) (xs : List Int) (W : World) (hC : (Kd.int .u8).C W A n xs) (hnc : n ≤ c) (hr : ∀ x ∈ xs, 0 ≤ x ∧ x < 256) :
    Calls Try.prog 6 #[.slice A n c] W fun e w' => e = .returned (.bool true) ∧ Below W.heap.size W w' := by
  have hC0 := few_C (m := 300) hC
  have hr0 : ∀ x ∈ xs.take 300, 0 ≤ x ∧ x < 256 := fun x hx => hr x (List.mem_of_mem_take hx)
  have hlen : (xs.take 300).length ≤ 300 := by rw [List.length_take]; omega
  have hln : (xs.take 300).length = min n 300 := hC0.1
  generalize xs.take 300 = ys at *
  have hfew := few_300 A n c hnc
  have hm15 : min n 300 ≤ 300 := Nat.min_le_right _ _
  have hmc : min n 300 ≤ c := by omega
  generalize min n 300 = m at *
  obtain ⟨s, hs⟩ : ∃ s, s = strOfNums (enc ys) := ⟨_, rfl⟩
  have hsb : bytesOf s = enc ys := by rw [hs, bytesOf_strOfNums _ (enc_range ys)]
  have hss : s.size ≤ 3004 := by rw [← bytesOf_length, hsb]; have := enc_size ys; omega
  have hx64 : b64 (bytesOf s) = (ys, true) := by rw [hsb]; exact b64_enc ys hr0
  have h64 := fun w => b64_own s (by omega) ys hx64 w
  have HS := Lib.hid hs
  clear hC hr hs hsb hln hx64
  have HFEW := Lib.hid hfew
  have H64 := Lib.hid h64
  clear hfew h64
  go_enter Try.func6, Try.ntmps6
  go_wp2_with fail
  refine (HFEW.out _).mono ?_
  rintro e w_ ⟨rfl, hw_⟩
  rw [hw_]
  clear hw_ w_
  go_wp2_with fail
  refine (enc_any A m c ys _ hC0 (by omega) (by omega) hr0).mono ?_
  rintro e w1 ⟨he1, hb1⟩
  rw [← HS.out] at he1
  subst he1
  go_wp2_with fail
  have hst : Booked W.heap.size w1.heap.size W (w1.alloc (.cells #[.slice none 0 0, .slice none 0 0, .int .i64 0, .bool false] 37)) :=
    ⟨_, _, _, _, _, BookAt.start w1 W.heap.size hb1.size, Nat.zero_le _, hb1.alloc hb1.size _⟩
  have g1 := hb1.size
  clear hb1 HFEW HS hC0
  generalize hg : w1.heap.size = g at *
  generalize hw2 : w1.alloc (.cells #[.slice none 0 0, .slice none 0 0, .int .i64 0, .bool false] 37) = w2 at *
  clear hw2 hg
  go_loopw [5] (fun v wr => ∃ i : Nat, i ≤ 2 ∧ v = .int .i64 i ∧ Booked W.heap.size g W wr) (fun v _ => 2 - (intOf v).toNat)
  case atStart => exact ⟨0, by omega, rfl, hst⟩
  case round =>
    clear hst
    obtain ⟨i, hi, rfl, hbk⟩ := hrel
    by_cases hlt : i < 2
    · go_wp2_with fail
      refine (H64.out _).mono ?_
      rintro e w3 ⟨B, cb, rfl, hown, hb3⟩
      obtain ⟨L, M, held, rows, copies, hB, hl, hW⟩ := hbk
      have hB3 := hB.move hb3
      have hfar : ∀ r ∈ rows, Far r (.slice B ys.length cb, ys) := fun r hr k hk e => by
        obtain ⟨_, q, _⟩ := own_typed' (hB.made r hr) k hk
        obtain ⟨q2, _, _⟩ := own_typed' hown k e
        omega
      have hk := keep_any hB3 hl hW.size hown hfar (by omega)
      have hW3 := below_step hW hb3
      clear hB hB3 hl hW hown hfar hb3
      go_wp2_with fail
      refine hk.mono ?_
      rintro e w4 ⟨rfl, ⟨L', M', held', m', copies', hB', hl'⟩, hmv⟩
      have hb' : Hid (Booked W.heap.size g W w4) := ⟨L', M', held', _, copies', hB', hl', hmv.below hW3 hW3.size⟩
      clear hB' hl' hmv hW3 hk
      go_wp2
      refine ⟨⟨i + 1, by omega, by go_num, hb'.out⟩, by simp [intOf]; omega⟩
    · obtain ⟨L, M, held, rows, copies, hB, hl, hW⟩ := hbk
      have ha := apart_any hB hl
      have hbs := hW.size
      clear hB hl
      go_wp2_with fail
      refine ha.mono ?_
      rintro e w4 ⟨rfl, hmv⟩
      have hW4 := hmv.below hW hbs
      clear ha hmv hW
      go_wp2_with fail
      refine (known_any _).mono ?_
      rintro e w5 ⟨rfl, hb5⟩
      have hW5 := below_step hW4 hb5
      clear hb5 hW4
      go_wp2
      go_ret
      exact ⟨rfl, hW5⟩

theorem kept_walk (W : World) (a : Option Addr) (len cap : Nat) (z : List Int) (h : IsRow .u8 W a len cap z) :
    Calls Try.prog 6 #[.slice a len cap] W fun e w' => e = .returned (.bool true) ∧ Below W.heap.size W w' := by
  obtain ⟨hC, hl, hr⟩ := isRow_bytes h
  exact kept_any a len cap _ W hC hl hr

end Go.Proofs.Ytcnjbbgecopjmaa.Own
