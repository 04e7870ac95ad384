/- Walk: the reference's Encode64 by its contract: it answers the same as infra.Encode64. -/
import Derived.Test.YtcnjbbgecopjmaaEnc
namespace Go.Proofs.Ytcnjbbgecopjmaa.Own
open Go.RowKit Go.Proofs.Ytcnjbbgecopjmaa.PX Go.Proofs.Ytcnjbbgecopjmaa.Pl Go.Proofs.YtcnjbbgecopjmaaW.PrintWords Go.Proofs.YtcnjbbgecopjmaaW.PrintLast Go.Proofs.YtcnjbbgecopjmaaW.PrintMore

theorem cut1 (d : Int) (h0 : 0 ≤ d) (h1 : d < 64) : bytesOf ((⟨#[65, 66, 67, 68, 69, 70, 71, 72, 73, 74, 75, 76, 77, 78, 79, 80, 81, 82, 83, 84, 85, 86, 87, 88, 89, 90, 97, 98, 99, 100, 101, 102, 103, 104, 105, 106, 107, 108, 109, 110, 111, 112, 113, 114, 115, 116, 117, 118, 119, 120, 121, 122, 48, 49, 50, 51, 52, 53, 54, 55, 56, 57, 43, 47]⟩ : ByteArray).extract d.toNat (d + 1).toNat) = [bt (⟨#[65, 66, 67, 68, 69, 70, 71, 72, 73, 74, 75, 76, 77, 78, 79, 80, 81, 82, 83, 84, 85, 86, 87, 88, 89, 90, 97, 98, 99, 100, 101, 102, 103, 104, 105, 106, 107, 108, 109, 110, 111, 112, 113, 114, 115, 116, 117, 118, 119, 120, 121, 122, 48, 49, 50, 51, 52, 53, 54, 55, 56, 57, 43, 47]⟩ : ByteArray) d] := by
  have key : (List.range 64).all (fun n => decide (bytesOf ((⟨#[65, 66, 67, 68, 69, 70, 71, 72, 73, 74, 75, 76, 77, 78, 79, 80, 81, 82, 83, 84, 85, 86, 87, 88, 89, 90, 97, 98, 99, 100, 101, 102, 103, 104, 105, 106, 107, 108, 109, 110, 111, 112, 113, 114, 115, 116, 117, 118, 119, 120, 121, 122, 48, 49, 50, 51, 52, 53, 54, 55, 56, 57, 43, 47]⟩ : ByteArray).extract n (n + 1)) = [bt (⟨#[65, 66, 67, 68, 69, 70, 71, 72, 73, 74, 75, 76, 77, 78, 79, 80, 81, 82, 83, 84, 85, 86, 87, 88, 89, 90, 97, 98, 99, 100, 101, 102, 103, 104, 105, 106, 107, 108, 109, 110, 111, 112, 113, 114, 115, 116, 117, 118, 119, 120, 121, 122, 48, 49, 50, 51, 52, 53, 54, 55, 56, 57, 43, 47]⟩ : ByteArray) (n : Int)])) = true := by decide +kernel
  have := of_decide_eq_true (List.all_eq_true.mp key d.toNat (List.mem_range.mpr (by omega)))
  rw [Int.toNat_of_nonneg h0] at this
  rw [show (d + 1).toNat = d.toNat + 1 by omega]
  exact this

theorem piece (d : Int) (h0 : 0 ≤ d) (h1 : d < 64) : ∃ X : ByteArray, bytesOf X = [bt (⟨#[65, 66, 67, 68, 69, 70, 71, 72, 73, 74, 75, 76, 77, 78, 79, 80, 81, 82, 83, 84, 85, 86, 87, 88, 89, 90, 97, 98, 99, 100, 101, 102, 103, 104, 105, 106, 107, 108, 109, 110, 111, 112, 113, 114, 115, 116, 117, 118, 119, 120, 121, 122, 48, 49, 50, 51, 52, 53, 54, 55, 56, 57, 43, 47]⟩ : ByteArray) d] ∧ X.size = 1 ∧
    ∀ W : World, (Instr.slice 9 (.string (⟨#[65, 66, 67, 68, 69, 70, 71, 72, 73, 74, 75, 76, 77, 78, 79, 80, 81, 82, 83, 84, 85, 86, 87, 88, 89, 90, 97, 98, 99, 100, 101, 102, 103, 104, 105, 106, 107, 108, 109, 110, 111, 112, 113, 114, 115, 116, 117, 118, 119, 120, 121, 122, 48, 49, 50, 51, 52, 53, 54, 55, 56, 57, 43, 47]⟩ : ByteArray)) (some (.int .i64 d)) (some (.int .i64 (d + 1))) none).run Try.prog W = .ok (.string X) W := by
  refine ⟨_, cut1 d h0 h1, ?_, fun W => run_slice_string W 9 _ .i64 .i64 d (d + 1) Try.underlying9 h0 (by omega) (by have : (⟨#[65, 66, 67, 68, 69, 70, 71, 72, 73, 74, 75, 76, 77, 78, 79, 80, 81, 82, 83, 84, 85, 86, 87, 88, 89, 90, 97, 98, 99, 100, 101, 102, 103, 104, 105, 106, 107, 108, 109, 110, 111, 112, 113, 114, 115, 116, 117, 118, 119, 120, 121, 122, 48, 49, 50, 51, 52, 53, 54, 55, 56, 57, 43, 47]⟩ : ByteArray).size = 64 := rfl; omega)⟩
  rw [← bytesOf_length, cut1 d h0 h1]
  rfl

set_option maxHeartbeats 4000000 in
set_option maxRecDepth 100000 in
theorem refenc_any (A : Option Addr) (n c : Nat) (xs : List Int) (w : World) (hC : (Kd.int .u8).C w A n xs) (hnc : n ≤ c) (hn : n ≤ 1000000) (hr : ∀ x ∈ xs, 0 ≤ x ∧ x < 256) :
    Calls Try.prog 15 #[.slice A n c] w fun e w' => e = .returned (.string (strOfNums (enc xs))) ∧ Below w.heap.size w w' := by
  have hxn : xs.length = n := hC.1
  go_enter Try.func15, Try.ntmps15
  go_wp2
  go_loopw [3, 4] (fun v3 v4 wr => ∃ (i : Nat) (S : ByteArray), v4 = .int .i64 i ∧ v3 = .string S ∧ i ≤ n + 2 ∧ S.size ≤ 4 * i ∧ bytesOf S ++ enc (xs.drop i) = enc xs ∧ Below w.heap.size w wr) (fun _ v4 _ => n + 3 - (intOf v4).toNat)
  case atStart => exact ⟨0, ⟨#[]⟩, rfl, rfl, by omega, by simp [ByteArray.size], rfl, Below.refl _ _⟩
  case round =>
    obtain ⟨i, S, rfl, rfl, hi, hS, he, hb⟩ := hrel
    by_cases him : n ≤ i
    · have t0 : decide ((i : Int) < (n : Int)) = false := decide_eq_false (by omega)
      have t1 : decide (i < n) = false := decide_eq_false (by omega)
      rw [List.drop_of_length_le (by omega), show enc [] = [] from rfl, List.append_nil] at he
      have hSS : S = strOfNums (enc xs) := by rw [← he, strOfNums_bytesOf]
      subst hSS
      clear he
      go_wp2
      go_ret
      exact ⟨rfl, hb⟩
    · have t0 : decide ((i : Int) < (n : Int)) = true := decide_eq_true (by omega)
      have t1 : decide (i < n) = true := decide_eq_true (by omega)
      obtain ⟨q, x, y, z, hq, hxyz, henc⟩ := split3 (xs.drop i) (by rw [List.length_drop]; omega)
      rw [List.length_drop, hxn] at hq
      obtain ⟨ad, hB, hcell⟩ := (Kd.reads_of_C (d := (0 : Int)) (h1 := fun _ => rfl) hC).2.2 (by omega)
      subst hB
      go_upto_region 6 with fail
      have zb := hb.size
      generalize hw2 : wr.alloc (Obj.cells #[Value.int IntKind.u8 0, Value.int IntKind.u8 0, Value.int IntKind.u8 0] 50) = w2
      have hg : w2.heap[wr.heap.size]? = some (.cells #[.int .u8 0, .int .u8 0, .int .u8 0] 50 (0, 0)) := by rw [← hw2]; exact heap_alloc_new _ _
      have hb2 : Below w.heap.size w w2 := by rw [← hw2]; exact hb.alloc zb _
      obtain ⟨cs, hcs⟩ : ∃ cs : List Value, cs = ((xs.drop i).take 3).map (Value.int .u8) := ⟨_, rfl⟩
      have hcl : cs.length = q := by rw [hcs, List.length_map, List.length_take, List.length_drop, hxn]; omega
      have hsrc : ∀ j v, cs[j]? = some v → w2.cell? ((ad.add i).add j) = some v := by
        intro j v hj
        have hj' := (List.getElem?_eq_some_iff.mp hj).1
        rw [hcs, List.getElem?_map, List.getElem?_take_of_lt (by omega), List.getElem?_drop, List.getElem?_eq_getElem (by omega)] at hj
        have := hcell (i + j) (by omega)
        rw [List.getD_eq_getElem?_getD, List.getElem?_eq_getElem (by omega)] at this
        simp only [Option.map_some, Option.some.injEq] at hj
        rw [← hj, add_add]
        exact pw_cell_below hb2 this
      have hrow : ((#[Value.int IntKind.u8 0, Value.int IntKind.u8 0, Value.int IntKind.u8 0] : Array Value).toList.take 0 ++ (cs ++ (#[Value.int IntKind.u8 0, Value.int IntKind.u8 0, Value.int IntKind.u8 0] : Array Value).toList.drop (0 + cs.length))).toArray = #[.int .u8 x, .int .u8 y, .int .u8 z] := by
        have h3 := congrArg (List.map (Value.int .u8)) hxyz
        rw [List.map_append, ← hcs, List.map_drop] at h3
        rw [hcl]
        simpa using h3
      have hone : ∀ v ∈ cs, v.oneCell' = true := by
        intro v hv
        rw [hcs, List.mem_map] at hv
        obtain ⟨u, _, rfl⟩ := hv
        rfl
      have hq3 : q ≤ 3 ∧ 1 ≤ q ∧ q ≤ n - i := by omega
      have hmin : cs.length = Nat.min (n - i) 3 := by rw [hcl, hq]; exact Nat.min_comm _ _
      obtain ⟨i0, hi0, _, hsz, _⟩ := info_parts info5
      have hcut := cut_from (P := Try.prog) 22 5 .i64 Try.underlying22 hi0 1 hsz (some ad) n c (i : Int) (by omega) (by omega)
      rw [Int.toNat_natCast, if_neg (by omega), Nat.mul_one, Option.map_some] at hcut
      have HQ := Lib.hid hq
      have HXYZ := Lib.hid hxyz
      clear hcs hq hxyz hi0 hsz
      have hfit : 0 + cs.length ≤ (#[Value.int IntKind.u8 0, Value.int IntKind.u8 0, Value.int IntKind.u8 0] : Array Value).size := by rw [hcl]; simp; omega
      have hcp := run_copy_row (P := Try.prog) w2.drew 22 22 3 5 wr.heap.size 0 3 3 (ad.add i) (n - i) (c - i) _ 50 cs Try.underlying22 (by kernel_rfl) hg hmin hsrc hfit hone
      rw [List.append_assoc, hrow, hcl] at hcp
      have HG := Lib.hid hg
      have hb3 : Below w.heap.size w (w2.drew.setRow wr.heap.size #[.int .u8 x, .int .u8 y, .int .u8 z]) := below_setRow hb2.drew zb _
      clear hrow hmin hfit hone hsrc hcl hg
      go_region
      have hg3 := setRow_heap w2.drew wr.heap.size _ #[.int .u8 x, .int .u8 y, .int .u8 z] 50 (0, 0) HG.out
      generalize w2.drew.setRow wr.heap.size #[.int .u8 x, .int .u8 y, .int .u8 z] = w3 at *
      clear hw2 hb2 hcp hcut HG hcell
      have c0 := Joins.cell_of_block hg3 0
      have c1 := Joins.cell_of_block hg3 1
      have c2 := Joins.cell_of_block hg3 2
      have hb3' : (0 ≤ x ∧ x < 256) ∧ (0 ≤ y ∧ y < 256) ∧ (0 ≤ z ∧ z < 256) := by
        have hall : ∀ v ∈ (xs.drop i).take 3 ++ ([0, 0, 0] : List Int).drop q, 0 ≤ v ∧ v < 256 := by
          intro v hv
          rw [List.mem_append] at hv
          rcases hv with hv | hv
          · exact hr v (List.mem_of_mem_drop (List.mem_of_mem_take hv))
          · have := List.mem_of_mem_drop hv
            simp at this
            omega
        rw [HXYZ.out] at hall
        exact ⟨hall x (by simp), hall y (by simp), hall z (by simp)⟩
      obtain ⟨⟨bx0, bx1⟩, ⟨by0, by1⟩, ⟨bz0, bz1⟩⟩ := hb3'
      go_upto_region 8 with fail
      clear c0 c1 c2
      have hwin := word3_in ⟨bx0, bx1⟩ ⟨by0, by1⟩ ⟨bz0, bz1⟩
      obtain ⟨wd, hwd⟩ : ∃ wd, wd = word3 x y z := ⟨_, rfl⟩
      rw [show Go.bits .or .i64 (Go.bits .or .i64 (x * 65536) (y * 256)) z = wd from hwd.symm]
      rw [← hwd] at hwin
      have HWD := Lib.hid hwd
      clear hwd
      have hdl : (digs q x y z).length = 4 := rfl
      have htl : ∀ k, ((digs q x y z).take k).length ≤ 4 := fun k => by rw [List.length_take]; omega
      go_wp2_with fail
      go_loopw [3, 8] (fun v3 v8 wx => ∃ (k : Nat) (T : ByteArray), k ≤ 4 ∧ v8 = .int .i64 k ∧ v3 = .string T ∧ bytesOf T = bytesOf S ++ (digs q x y z).take k ∧ Below w.heap.size w wx) (fun _ v8 _ => 4 - (intOf v8).toNat)
      case atStart => exact ⟨0, S, by omega, rfl, rfl, by simp, hb3⟩
      case round =>
        obtain ⟨k, T, hk4, rfl, rfl, hT, hbk⟩ := hrel
        have hTs : T.size ≤ S.size + 4 := by
          have h1 := bytesOf_length T
          have h2 := htl k
          rw [hT, List.length_append, bytesOf_length] at h1
          omega
        rcases (by omega : k = 4 ∨ k = 0 ∨ k = 1 ∨ k = 2 ∨ k = 3) with rfl | rfl | rfl | rfl | rfl
        · go_wp2_with fail
          rw [show (digs q x y z).take 4 = digs q x y z from rfl] at hT
          refine ⟨⟨i + 3, T, by go_num, rfl, by omega, by omega, ?_, hbk⟩, by simp [intOf]; omega⟩
          rw [hT, List.append_assoc]
          rw [henc] at he
          by_cases hq3' : q = 3
          · rw [hq3', List.drop_drop] at he
            rw [hq3']
            exact he
          · have hq4 := HQ.out
            rw [List.drop_of_length_le (by omega)]
            rw [List.drop_of_length_le (by rw [List.length_drop]; omega)] at he
            exact he
        · have hd_ : (digs q x y z).take 1 = (digs q x y z).take 0 ++ [bt (⟨#[65, 66, 67, 68, 69, 70, 71, 72, 73, 74, 75, 76, 77, 78, 79, 80, 81, 82, 83, 84, 85, 86, 87, 88, 89, 90, 97, 98, 99, 100, 101, 102, 103, 104, 105, 106, 107, 108, 109, 110, 111, 112, 113, 114, 115, 116, 117, 118, 119, 120, 121, 122, 48, 49, 50, 51, 52, 53, 54, 55, 56, 57, 43, 47]⟩ : ByteArray) (Go.bits .and .i64 (wd / 262144) 63)] := by rw [← dig_lit0 wd, HWD.out]; rfl
          have e_ := and63 (wd / 262144) (by omega) (by omega)
          have b_ : 0 ≤ (Go.bits .and .i64 (wd / 262144) 63) ∧ (Go.bits .and .i64 (wd / 262144) 63) < 64 := by rw [e_]; omega
          have hc_ := cut1 (Go.bits .and .i64 (wd / 262144) 63) b_.1 b_.2
          obtain ⟨D, hD⟩ : ∃ D, D = (Go.bits .and .i64 (wd / 262144) 63) := ⟨_, rfl⟩
          rw [← hD] at hd_ hc_ b_
          have HD := Lib.hid hD
          have p_ : (0 ≤ D) = True := eq_true b_.1
          clear e_
          have T_ : decide ((0 : Int) ≤ (q : Int)) = true := decide_eq_true (by omega)
          have T2_ : decide (0 ≤ q) = true := decide_eq_true (by omega)
          go_upto_region 13 with fail
          rw [← hD]
          clear hD
          obtain ⟨d0_, d1_⟩ := b_
          obtain ⟨X, hX, hXs, hsl⟩ := piece D d0_ d1_
          have hls : (9223372036854775807 < T.size + X.size) = False := eq_false (by omega)
          have HX := Lib.hid hX
          clear hX hXs hc_
          go_wp2_with fail
          go_roundw
          case rel => exact ⟨1, _, by omega, rfl, rfl, by rw [bytesOf_append, hT, HX.out, List.append_assoc, ← hd_], hbk⟩
          case measure => decide
        · have hd_ : (digs q x y z).take 2 = (digs q x y z).take 1 ++ [bt (⟨#[65, 66, 67, 68, 69, 70, 71, 72, 73, 74, 75, 76, 77, 78, 79, 80, 81, 82, 83, 84, 85, 86, 87, 88, 89, 90, 97, 98, 99, 100, 101, 102, 103, 104, 105, 106, 107, 108, 109, 110, 111, 112, 113, 114, 115, 116, 117, 118, 119, 120, 121, 122, 48, 49, 50, 51, 52, 53, 54, 55, 56, 57, 43, 47]⟩ : ByteArray) (Go.bits .and .i64 (wd / 4096) 63)] := by rw [← dig_lit1 wd, HWD.out]; rfl
          have e_ := and63 (wd / 4096) (by omega) (by omega)
          have b_ : 0 ≤ (Go.bits .and .i64 (wd / 4096) 63) ∧ (Go.bits .and .i64 (wd / 4096) 63) < 64 := by rw [e_]; omega
          have hc_ := cut1 (Go.bits .and .i64 (wd / 4096) 63) b_.1 b_.2
          obtain ⟨D, hD⟩ : ∃ D, D = (Go.bits .and .i64 (wd / 4096) 63) := ⟨_, rfl⟩
          rw [← hD] at hd_ hc_ b_
          have HD := Lib.hid hD
          have p_ : (0 ≤ D) = True := eq_true b_.1
          clear e_
          have T_ : decide ((1 : Int) ≤ (q : Int)) = true := decide_eq_true (by omega)
          have T2_ : decide (1 ≤ q) = true := decide_eq_true (by omega)
          go_upto_region 13 with fail
          rw [← hD]
          clear hD
          obtain ⟨d0_, d1_⟩ := b_
          obtain ⟨X, hX, hXs, hsl⟩ := piece D d0_ d1_
          have hls : (9223372036854775807 < T.size + X.size) = False := eq_false (by omega)
          have HX := Lib.hid hX
          clear hX hXs hc_
          go_wp2_with fail
          go_roundw
          case rel => exact ⟨2, _, by omega, rfl, rfl, by rw [bytesOf_append, hT, HX.out, List.append_assoc, ← hd_], hbk⟩
          case measure => decide
        · by_cases hqk : 2 ≤ q
          · have hd_ : (digs q x y z).take 3 = (digs q x y z).take 2 ++ [bt (⟨#[65, 66, 67, 68, 69, 70, 71, 72, 73, 74, 75, 76, 77, 78, 79, 80, 81, 82, 83, 84, 85, 86, 87, 88, 89, 90, 97, 98, 99, 100, 101, 102, 103, 104, 105, 106, 107, 108, 109, 110, 111, 112, 113, 114, 115, 116, 117, 118, 119, 120, 121, 122, 48, 49, 50, 51, 52, 53, 54, 55, 56, 57, 43, 47]⟩ : ByteArray) (Go.bits .and .i64 (wd / 64) 63)] := by rw [← dig_lit2 wd, HWD.out]; unfold digs; simp only [if_pos (show 1 < q by omega)]; rfl
            have e_ := and63 (wd / 64) (by omega) (by omega)
            have b_ : 0 ≤ (Go.bits .and .i64 (wd / 64) 63) ∧ (Go.bits .and .i64 (wd / 64) 63) < 64 := by rw [e_]; omega
            have hc_ := cut1 (Go.bits .and .i64 (wd / 64) 63) b_.1 b_.2
            obtain ⟨D, hD⟩ : ∃ D, D = (Go.bits .and .i64 (wd / 64) 63) := ⟨_, rfl⟩
            rw [← hD] at hd_ hc_ b_
            have HD := Lib.hid hD
            have p_ : (0 ≤ D) = True := eq_true b_.1
            clear e_
            have T_ : decide ((2 : Int) ≤ (q : Int)) = true := decide_eq_true (by omega)
            have T2_ : decide (2 ≤ q) = true := decide_eq_true (by omega)
            go_upto_region 13 with fail
            rw [← hD]
            clear hD
            obtain ⟨d0_, d1_⟩ := b_
            obtain ⟨X, hX, hXs, hsl⟩ := piece D d0_ d1_
            have hls : (9223372036854775807 < T.size + X.size) = False := eq_false (by omega)
            have HX := Lib.hid hX
            clear hX hXs hc_
            go_wp2_with fail
            go_roundw
            case rel => exact ⟨3, _, by omega, rfl, rfl, by rw [bytesOf_append, hT, HX.out, List.append_assoc, ← hd_], hbk⟩
            case measure => decide
          · have hd_ : (digs q x y z).take 3 = (digs q x y z).take 2 ++ [61] := by unfold digs; simp only [if_neg (show ¬ 1 < q by omega)]; rfl
            have T_ : decide ((2 : Int) ≤ (q : Int)) = false := decide_eq_false (by omega)
            have T2_ : decide (2 ≤ q) = false := decide_eq_false (by omega)
            go_wp2_with fail
            go_roundw
            case rel => exact ⟨3, _, by omega, rfl, rfl, by rw [bytesOf_append, hT, List.append_assoc, hd_]; rfl, hbk⟩
            case measure => decide
        · by_cases hqk : 3 ≤ q
          · have hd_ : (digs q x y z).take 4 = (digs q x y z).take 3 ++ [bt (⟨#[65, 66, 67, 68, 69, 70, 71, 72, 73, 74, 75, 76, 77, 78, 79, 80, 81, 82, 83, 84, 85, 86, 87, 88, 89, 90, 97, 98, 99, 100, 101, 102, 103, 104, 105, 106, 107, 108, 109, 110, 111, 112, 113, 114, 115, 116, 117, 118, 119, 120, 121, 122, 48, 49, 50, 51, 52, 53, 54, 55, 56, 57, 43, 47]⟩ : ByteArray) (Go.bits .and .i64 wd 63)] := by rw [← dig_lit3 wd, HWD.out]; unfold digs; simp only [if_pos (show 1 < q by omega), if_pos (show 2 < q by omega)]; rfl
            have e_ := and63 (wd) (by omega) (by omega)
            have b_ : 0 ≤ (Go.bits .and .i64 wd 63) ∧ (Go.bits .and .i64 wd 63) < 64 := by rw [e_]; omega
            have hc_ := cut1 (Go.bits .and .i64 wd 63) b_.1 b_.2
            obtain ⟨D, hD⟩ : ∃ D, D = (Go.bits .and .i64 wd 63) := ⟨_, rfl⟩
            rw [← hD] at hd_ hc_ b_
            have HD := Lib.hid hD
            have p_ : (0 ≤ D) = True := eq_true b_.1
            clear e_
            have T_ : decide ((3 : Int) ≤ (q : Int)) = true := decide_eq_true (by omega)
            have T2_ : decide (3 ≤ q) = true := decide_eq_true (by omega)
            go_upto_region 13 with fail
            rw [← hD]
            clear hD
            obtain ⟨d0_, d1_⟩ := b_
            obtain ⟨X, hX, hXs, hsl⟩ := piece D d0_ d1_
            have hls : (9223372036854775807 < T.size + X.size) = False := eq_false (by omega)
            have HX := Lib.hid hX
            clear hX hXs hc_
            go_wp2_with fail
            go_roundw
            case rel => exact ⟨4, _, by omega, rfl, rfl, by rw [bytesOf_append, hT, HX.out, List.append_assoc, ← hd_], hbk⟩
            case measure => decide
          · have hd_ : (digs q x y z).take 4 = (digs q x y z).take 3 ++ [61] := by unfold digs; simp only [if_neg (show ¬ 2 < q by omega)]; rfl
            have T_ : decide ((3 : Int) ≤ (q : Int)) = false := decide_eq_false (by omega)
            have T2_ : decide (3 ≤ q) = false := decide_eq_false (by omega)
            go_wp2_with fail
            go_roundw
            case rel => exact ⟨4, _, by omega, rfl, rfl, by rw [bytesOf_append, hT, List.append_assoc, hd_]; rfl, hbk⟩
            case measure => decide

end Go.Proofs.Ytcnjbbgecopjmaa.Own
