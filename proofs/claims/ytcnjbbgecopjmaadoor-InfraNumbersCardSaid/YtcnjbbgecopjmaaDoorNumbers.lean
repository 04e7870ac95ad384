/- Walk of InfraNumbers: it answers true. -/
import Derived.Test.YtcnjbbgecopjmaaDoorDecoded
import Derived.Test.YtcnjbbgecopjmaaDoorPXx3
import Derived.Test.YtcnjbbgecopjmaaDoorPXx4
namespace Go.Proofs.YtcnjbbgecopjmaaDoor.Own
open Go.RowKit Go.Proofs.YtcnjbbgecopjmaaDoor.PX Go.Proofs.YtcnjbbgecopjmaaDoor.Pl Go.Proofs.YtcnjbbgecopjmaaDoorW.PrintWords Go.Proofs.YtcnjbbgecopjmaaDoorW.PrintLast Go.Proofs.YtcnjbbgecopjmaaDoorW.PrintMore

theorem b64_lit (s : ByteArray) (l : List Int) (b : Bool) (h : infra_Base64.f 40 s = some (l, b)) (w : World) : Calls Tryd.prog 14 #[.string s] w fun e w' =>
    ∃ A c, e = .returned (.tuple #[.slice A l.length c, .bool b]) ∧ (Kd.int .u8).C w' A l.length l ∧ Below w.heap.size w w' := by
  refine (infra_Base64.calls 40 s _ _ w h).mono fun e w' ⟨v, he, hR, hb⟩ => ?_
  obtain ⟨A, c, rfl, hc, hC⟩ := Kd.R_reads hR
  exact ⟨A, c, he, hC, hb⟩

theorem int_lit (s : ByteArray) (n : Int) (b : Bool) (hs : s.size < 100) (h : intAns (bytesOf s) = (n, b)) (w : World) : Calls Tryd.prog 15 #[.string s] w fun e w' => e = .returned (.tuple #[.int .i64 n, .bool b]) ∧ Below w.heap.size w w' := by
  have := int_any s (by omega) w
  rw [h] at this
  exact this

theorem pct_lit (w : World) : Calls Tryd.prog 16 #[.string ⟨#[97, 32, 98]⟩, .int .i64 9] w fun e w' => e = .returned (.string ⟨#[97, 32, 98]⟩) ∧ Below w.heap.size w w' :=
  infra_Percent.calls 20 ⟨#[97, 32, 98]⟩ 9 ⟨#[97, 32, 98]⟩ w (by kernel_rfl)

theorem lit_front (w : World) (xs : List Int) (hb : xs.length ≤ 9223372036854775807) : (Kd.int .u8).C (w.alloc (.cells (xs.map (Value.int .u8)).toArray 5)) (some ⟨w.heap.size, 0, none⟩) xs.length xs :=
  C_front (heap_alloc_new w _) (fun j hj => by
    rw [List.getElem?_toArray, List.getElem?_map, List.getElem?_eq_getElem hj, List.getD_eq_getElem?_getD, List.getElem?_eq_getElem hj]
    rfl) hb

set_option maxHeartbeats 4000000 in
set_option maxRecDepth 100000 in
theorem numbers_any (W : World) (hT : Tabs W) : Calls Tryd.prog 5 #[] W fun e w' => e = .returned (.bool true) ∧ Below W.heap.size W w' := by
  go_enter Tryd.func5, Tryd.ntmps5
  go_wp2_with fail
  refine (b64_lit ⟨#[89, 81]⟩ [97] true (by kernel_rfl) _).mono ?_
  rintro e w1 ⟨A1, c1, rfl, hC1, hb1⟩
  go_wp2_with fail
  refine (b64_lit ⟨#[89]⟩ [] false (by kernel_rfl) _).mono ?_
  rintro e w2 ⟨A2, c2, rfl, -, hb2⟩
  replace hC1 := Kd.C_below hC1 hb2
  replace hb2 := below_step hb1 hb2
  go_wp2_with fail
  refine (b64_lit ⟨#[89, 81, 61]⟩ [] false (by kernel_rfl) _).mono ?_
  rintro e w3 ⟨A3, c3, rfl, -, hb3⟩
  replace hC1 := Kd.C_below hC1 hb3
  replace hb3 := below_step hb2 hb3
  go_wp2_with fail
  refine (b64_lit ⟨#[]⟩ [] true (by kernel_rfl) _).mono ?_
  rintro e w4 ⟨A4, c4, rfl, -, hb4⟩
  replace hC1 := Kd.C_below hC1 hb4
  replace hb4 := below_step hb3 hb4
  go_wp2_with fail
  refine (int_lit ⟨#[48, 48, 55]⟩ 7 true (by decide) (by decide +kernel) _).mono ?_
  rintro e w5 ⟨rfl, hb5⟩
  replace hC1 := Kd.C_below hC1 hb5
  replace hb5 := below_step hb4 hb5
  go_wp2_with fail
  refine (int_lit ⟨#[45, 49]⟩ 0 false (by decide) (by decide +kernel) _).mono ?_
  rintro e w6 ⟨rfl, hb6⟩
  replace hC1 := Kd.C_below hC1 hb6
  replace hb6 := below_step hb5 hb6
  go_wp2_with fail
  refine (int_lit ⟨#[57, 57, 57, 57, 57, 57, 57, 57, 57, 57, 57, 57, 57, 57, 57, 57, 57, 57, 57, 57]⟩ 9223372036854775807 true (by decide) (by decide +kernel) _).mono ?_
  rintro e w7 ⟨rfl, hb7⟩
  replace hC1 := Kd.C_below hC1 hb7
  replace hb7 := below_step hb6 hb7
  go_wp2_with fail
  refine (int_lit ⟨#[]⟩ 0 false (by decide) (by decide +kernel) _).mono ?_
  rintro e w8 ⟨rfl, hb8⟩
  replace hC1 := Kd.C_below hC1 hb8
  replace hb8 := below_step hb7 hb8
  have hcs : (convert 22 9 (.slice A1 1 c1)).run Tryd.prog w8 = .ok (.string ⟨#[97]⟩) w8 := Kd.C_string (P := Tryd.prog) (c := c1) Tryd.underlying22 Tryd.underlying5 Tryd.underlying9 hC1
  clear hb1 hb2 hb3 hb4 hb5 hb6 hb7 hC1
  go_wp2_with fail
  have hst := strip_any ⟨#[32, 9, 10, 32]⟩ (by decide) w8
  rw [show strOfNums (strip (bytesOf ⟨#[32, 9, 10, 32]⟩)) = (⟨#[]⟩ : ByteArray) by rfl] at hst
  refine hst.mono ?_
  rintro e w9 ⟨rfl, hb9⟩
  replace hb9 := below_step hb8 hb9
  clear hcs hst hb8
  have hT9 := hT.below hb9 hT.two
  have hb9' : Below W.heap.size W (w9.alloc (.cells #[Value.int IntKind.u8 255] 5)) := hb9.alloc hb9.size _
  have hC9 := lit_front w9 [255] (by decide)
  have hd9 := decode_any _ 1 1 [255] _ (hT.below hb9' hT.two) hC9 (by decide) (by intro x hx; simp at hx; omega)
  rw [show strOfNums (decT (bom [255])) = (⟨#[239, 191, 189]⟩ : ByteArray) by rfl] at hd9
  have HD9 := Lib.hid hd9
  clear hd9 hC9
  go_wp2_with fail
  refine HD9.out.mono ?_
  rintro e w10 ⟨rfl, hb10⟩
  replace hb10 := below_step hb9' hb10
  clear hb9 hb9' hT9
  obtain ⟨v5, w11, hmk, rfl, hg11, hb11⟩ := mark_any w10 #[.int .u8 239, .int .u8 187, .int .u8 191, .int .u8 97] 4 4
  replace hb11 := below_step hb10 hb11
  have hC11 := C_front (xs := [239, 187, 191, 97]) hg11 (by intro j hj; rcases j with _ | _ | _ | _ | j <;> first | rfl | (simp at hj; omega)) (by decide)
  have hd11 := decode_any _ 4 4 [239, 187, 191, 97] _ (hT.below hb11 hT.two) hC11 (by decide) (by intro x hx; simp at hx; omega)
  rw [show strOfNums (decT (bom [239, 187, 191, 97])) = (⟨#[97]⟩ : ByteArray) by rfl] at hd11
  have HD11 := Lib.hid hd11
  clear hd11 hC11 hg11
  go_wp2_with fail
  refine HD11.out.mono ?_
  rintro e w12 ⟨rfl, hb12⟩
  replace hb12 := below_step hb11 hb12
  clear hmk hb10 hb11
  have hlo := lower_any ⟨#[65, 122, 195, 137]⟩ (by decide) w12
  rw [show strOfNums (low (bytesOf ⟨#[65, 122, 195, 137]⟩)) = (⟨#[97, 122, 195, 137]⟩ : ByteArray) by rfl] at hlo
  have HLO := Lib.hid hlo
  clear hlo
  go_wp2_with fail
  refine HLO.out.mono ?_
  rintro e w13 ⟨rfl, hb13⟩
  replace hb13 := below_step hb12 hb13
  go_wp2_with fail
  refine (pct_lit _).mono ?_
  rintro e w14 ⟨rfl, hb14⟩
  replace hb14 := below_step hb13 hb14
  go_wp2_with fail
  refine (known_any _).mono ?_
  rintro e w15 ⟨rfl, hb15⟩
  replace hb15 := below_step hb14 hb15
  go_wp2_with fail
  go_ret
  exact ⟨rfl, hb15⟩

end Go.Proofs.YtcnjbbgecopjmaaDoor.Own
