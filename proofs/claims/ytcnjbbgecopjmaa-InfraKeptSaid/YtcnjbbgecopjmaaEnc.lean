/- Walk: infra.Encode64 by its contract. -/
import Derived.Test.YtcnjbbgecopjmaaFew
import Derived.Laws.CopyOwn
import Derived.Handy
import Derived.Lib.SmallJoins
import Derived.Lib.Hide
import Derived.Laws.Tables
import Derived.Laws.BitsLemmas
namespace Go.Proofs.Ytcnjbbgecopjmaa.Own
open Go.RowKit Go.Proofs.Ytcnjbbgecopjmaa.PX Go.Proofs.YtcnjbbgecopjmaaW.PrintWords Go.Proofs.YtcnjbbgecopjmaaW.PrintLast Go.Proofs.YtcnjbbgecopjmaaW.PrintMore

attribute [local go_sem] max2_int min2_int max_two min_two

def sixty : ByteArray := ⟨#[65, 66, 67, 68, 69, 70, 71, 72, 73, 74, 75, 76, 77, 78, 79, 80, 81, 82, 83, 84, 85, 86, 87, 88, 89, 90, 97, 98, 99, 100, 101, 102, 103, 104, 105, 106, 107, 108, 109, 110, 111, 112, 113, 114, 115, 116, 117, 118, 119, 120, 121, 122, 48, 49, 50, 51, 52, 53, 54, 55, 56, 57, 43, 47]⟩

/-- Three bytes as one number. -/
def word3 (a b c : Int) : Int := Go.bits .or .i64 (Go.bits .or .i64 (a * 65536) (b * 256)) c

/-- The k-th digit of a number of three bytes. -/
def dig64 (x : Int) (k : Nat) : Int := bt sixty (Go.bits .and .i64 (x / 2 ^ (18 - 6 * k)) 63)

theorem or_nat64 (a b : Nat) (ha : a < 16777216) (hb : b < 16777216) : Go.bits .or .i64 (a : Int) (b : Int) = ((a ||| b : Nat) : Int) ∧ a ||| b < 16777216 := by
  have h := Nat.or_lt_two_pow (n := 24) (x := a) (y := b) (by simpa using ha) (by simpa using hb)
  exact ⟨(bits_nat .i64 24 (by decide) (fun n h0 h1 => by rw [IntKind.wrap_i64]; omega) a b (by simpa using ha) (by simpa using hb)).2, by simpa using h⟩

theorem word3_in {a b c : Int} (ha : 0 ≤ a ∧ a < 256) (hb : 0 ≤ b ∧ b < 256) (hc : 0 ≤ c ∧ c < 256) : 0 ≤ word3 a b c ∧ word3 a b c < 16777216 := by
  obtain ⟨a, rfl⟩ := Int.eq_ofNat_of_zero_le ha.1
  obtain ⟨b, rfl⟩ := Int.eq_ofNat_of_zero_le hb.1
  obtain ⟨c, rfl⟩ := Int.eq_ofNat_of_zero_le hc.1
  unfold word3
  rw [show (a : Int) * 65536 = ((a * 65536 : Nat) : Int) by omega, show (b : Int) * 256 = ((b * 256 : Nat) : Int) by omega]
  have h1 := or_nat64 (a * 65536) (b * 256) (by omega) (by omega)
  rw [h1.1]
  have h2 := or_nat64 (a * 65536 ||| b * 256) c h1.2 (by omega)
  rw [h2.1]
  omega

theorem and63 (x : Int) (h0 : 0 ≤ x) (h1 : x < 16777216) : Go.bits .and .i64 x 63 = x % 64 :=
  bits_mask .i64 24 (by decide) (fun n h0 h1 => by rw [IntKind.wrap_i64]; omega) 6 (by decide) x h0 h1

/-- Bytes as digits. -/
def enc : List Int → List Int
  | [] => []
  | [a] => [dig64 (word3 a 0 0) 0, dig64 (word3 a 0 0) 1, 61, 61]
  | [a, b] => [dig64 (word3 a b 0) 0, dig64 (word3 a b 0) 1, dig64 (word3 a b 0) 2, 61]
  | a :: b :: c :: l => dig64 (word3 a b c) 0 :: dig64 (word3 a b c) 1 :: dig64 (word3 a b c) 2 :: dig64 (word3 a b c) 3 :: enc l

def digs (q : Nat) (x y z : Int) : List Int :=
  [dig64 (word3 x y z) 0, dig64 (word3 x y z) 1, if 1 < q then dig64 (word3 x y z) 2 else 61, if 2 < q then dig64 (word3 x y z) 3 else 61]

theorem split3 (ys : List Int) (h : 0 < ys.length) : ∃ (q : Nat) (x y z : Int), q = min 3 ys.length ∧ ys.take 3 ++ ([0, 0, 0] : List Int).drop q = [x, y, z] ∧ enc ys = digs q x y z ++ enc (ys.drop q) := by
  rcases ys with _ | ⟨a, _ | ⟨b, _ | ⟨c, l⟩⟩⟩
  · simp at h
  · exact ⟨1, a, 0, 0, rfl, rfl, rfl⟩
  · exact ⟨2, a, b, 0, rfl, rfl, rfl⟩
  · exact ⟨3, a, b, c, by simp, by simp, by simp [digs, enc]⟩

theorem dig_lit0 (w : Int) : dig64 w 0 = bt (⟨#[65, 66, 67, 68, 69, 70, 71, 72, 73, 74, 75, 76, 77, 78, 79, 80, 81, 82, 83, 84, 85, 86, 87, 88, 89, 90, 97, 98, 99, 100, 101, 102, 103, 104, 105, 106, 107, 108, 109, 110, 111, 112, 113, 114, 115, 116, 117, 118, 119, 120, 121, 122, 48, 49, 50, 51, 52, 53, 54, 55, 56, 57, 43, 47]⟩ : ByteArray) (Go.bits .and .i64 (w / 262144) 63) := rfl
theorem dig_lit1 (w : Int) : dig64 w 1 = bt (⟨#[65, 66, 67, 68, 69, 70, 71, 72, 73, 74, 75, 76, 77, 78, 79, 80, 81, 82, 83, 84, 85, 86, 87, 88, 89, 90, 97, 98, 99, 100, 101, 102, 103, 104, 105, 106, 107, 108, 109, 110, 111, 112, 113, 114, 115, 116, 117, 118, 119, 120, 121, 122, 48, 49, 50, 51, 52, 53, 54, 55, 56, 57, 43, 47]⟩ : ByteArray) (Go.bits .and .i64 (w / 4096) 63) := rfl
theorem dig_lit2 (w : Int) : dig64 w 2 = bt (⟨#[65, 66, 67, 68, 69, 70, 71, 72, 73, 74, 75, 76, 77, 78, 79, 80, 81, 82, 83, 84, 85, 86, 87, 88, 89, 90, 97, 98, 99, 100, 101, 102, 103, 104, 105, 106, 107, 108, 109, 110, 111, 112, 113, 114, 115, 116, 117, 118, 119, 120, 121, 122, 48, 49, 50, 51, 52, 53, 54, 55, 56, 57, 43, 47]⟩ : ByteArray) (Go.bits .and .i64 (w / 64) 63) := rfl
theorem dig_lit3 (w : Int) : dig64 w 3 = bt (⟨#[65, 66, 67, 68, 69, 70, 71, 72, 73, 74, 75, 76, 77, 78, 79, 80, 81, 82, 83, 84, 85, 86, 87, 88, 89, 90, 97, 98, 99, 100, 101, 102, 103, 104, 105, 106, 107, 108, 109, 110, 111, 112, 113, 114, 115, 116, 117, 118, 119, 120, 121, 122, 48, 49, 50, 51, 52, 53, 54, 55, 56, 57, 43, 47]⟩ : ByteArray) (Go.bits .and .i64 w 63) := by
  unfold dig64
  rw [show (2 : Int) ^ (18 - 6 * 3) = 1 from rfl, Int.ediv_one]
  rfl

def slLen : Value → Nat
  | .slice _ n _ => n
  | _ => 0

set_option maxHeartbeats 4000000 in
set_option maxRecDepth 100000 in
theorem enc_any (A : Option Addr) (n c : Nat) (xs : List Int) (w : World) (hC : (Kd.int .u8).C w A n xs) (hnc : n ≤ c) (hn : n ≤ 1000000) (hr : ∀ x ∈ xs, 0 ≤ x ∧ x < 256) :
    Calls Try.prog 14 #[.slice A n c] w fun e w' => e = .returned (.string (strOfNums (enc xs))) ∧ Below w.heap.size w w' := by
  go_enter Try.func14, Try.ntmps14
  go_wp2
  go_loopw [0, 3] (fun v0 v3 wr => ∃ (B : Option Addr) (m cb : Nat) (ys out : List Int), v0 = .slice B m cb ∧ (Kd.int .u8).C w B m ys ∧ m ≤ cb ∧ m ≤ n ∧ (∀ x ∈ ys, 0 ≤ x ∧ x < 256) ∧
      Kd.R (Kd.int .u8) 5 wr w.heap.size (fun _ => True) v3 out ∧ out.length ≤ 4 * (n - m) ∧ out ++ enc ys = enc xs ∧ Below w.heap.size w wr) (fun v0 _ _ => slLen v0)
  case atStart => exact ⟨A, n, c, xs, [], rfl, hC, hnc, Nat.le_refl _, hr, Kd.R_nil _ _ _ _ _, by simp, rfl, Below.refl _ _⟩
  case round =>
    obtain ⟨B, m, cb, ys, out, rfl, hCy, hmc, hmn, hry, hR, hol, he, hb⟩ := hrel
    have hym : ys.length = m := hCy.1
    by_cases hm0 : m = 0
    · subst hm0
      have hy0 : ys = [] := List.length_eq_zero_iff.mp hym
      subst hy0
      have hcv := own_string (P := Try.prog) Try.underlying22 Try.underlying5 Try.underlying9 (Kd.own_of_R hR)
      rw [show enc [] = [] from rfl, List.append_nil] at he
      subst he
      clear hR hCy hym
      go_wp2
      go_ret
      exact ⟨rfl, hb⟩
    · have hpos : decide (0 < (m : Int)) = true := decide_eq_true (by omega)
      have hpos' : decide (0 < m) = true := decide_eq_true (by omega)
      obtain ⟨q, x, y, z, hq, hxyz, henc⟩ := split3 ys (by omega)
      obtain ⟨ad, hB, hcell⟩ := (Kd.reads_of_C (d := (0 : Int)) (h1 := fun _ => rfl) hCy).2.2 (by omega)
      subst hB
      go_upto_region 5 with fail
      have zb := hb.size
      generalize hw2 : wr.alloc (Obj.cells #[Value.int IntKind.u8 0, Value.int IntKind.u8 0, Value.int IntKind.u8 0] 50) = w2
      have hg : w2.heap[wr.heap.size]? = some (.cells #[.int .u8 0, .int .u8 0, .int .u8 0] 50 (0, 0)) := by rw [← hw2]; exact heap_alloc_new _ _
      have hb2 : Below w.heap.size w w2 := by rw [← hw2]; exact hb.alloc zb _
      obtain ⟨cs, hcs⟩ : ∃ cs : List Value, cs = (ys.take 3).map (Value.int .u8) := ⟨_, rfl⟩
      have hcl : cs.length = q := by rw [hcs, List.length_map, List.length_take, hq, hym]
      have hsrc : ∀ j v, cs[j]? = some v → w2.cell? (ad.add j) = some v := by
        intro j v hj
        have hj' := (List.getElem?_eq_some_iff.mp hj).1
        rw [hcs, List.getElem?_map, List.getElem?_take_of_lt (by omega), List.getElem?_eq_getElem (by omega)] at hj
        have := hcell j (by omega)
        rw [List.getD_eq_getElem?_getD, List.getElem?_eq_getElem (by omega)] at this
        simp only [Option.map_some, Option.some.injEq] at hj
        rw [← hj]
        exact pw_cell_below hb2 this
      have hrow : ((#[Value.int IntKind.u8 0, Value.int IntKind.u8 0, Value.int IntKind.u8 0] : Array Value).toList.take 0 ++ (cs ++ (#[Value.int IntKind.u8 0, Value.int IntKind.u8 0, Value.int IntKind.u8 0] : Array Value).toList.drop (0 + cs.length))).toArray = #[.int .u8 x, .int .u8 y, .int .u8 z] := by
        have h3 := congrArg (List.map (Value.int .u8)) hxyz
        rw [List.map_append, ← hcs, List.map_drop] at h3
        rw [hcl]
        simpa using h3
      have hone : ∀ v ∈ cs, v.oneCell' = true := by
        intro v hv
        rw [hcs, List.mem_map] at hv
        obtain ⟨u, _, rfl⟩ := hv
        rfl
      have hq3 : q ≤ 3 ∧ 1 ≤ q ∧ q ≤ m := by omega
      have hmin : cs.length = Nat.min m 3 := by rw [hcl, hq, hym]; exact Nat.min_comm _ _
      have HQ := Lib.hid hq
      have HXYZ := Lib.hid hxyz
      clear hcs hq hxyz
      have hfit : 0 + cs.length ≤ (#[Value.int IntKind.u8 0, Value.int IntKind.u8 0, Value.int IntKind.u8 0] : Array Value).size := by rw [hcl]; simp; omega
      go_upto_region 6 with (refine wpList_copy_own rfl (.tmp 16) (.tmp 17) 22 22 rfl 5 Try.underlying22 (by kernel_rfl) wr.heap.size 0 3 3 ad m cb rfl rfl _ 50 hg cs hmin hsrc hfit hone ?_; rw [hrow, hcl])
      have hg3 := setRow_heap w2 wr.heap.size _ #[.int .u8 x, .int .u8 y, .int .u8 z] 50 (0, 0) hg
      have hb3 : Below w.heap.size w (w2.setRow wr.heap.size #[.int .u8 x, .int .u8 y, .int .u8 z]) := below_setRow hb2 zb _
      have hk3 : Below wr.heap.size wr (w2.setRow wr.heap.size #[.int .u8 x, .int .u8 y, .int .u8 z]) := below_setRow (by rw [← hw2]; exact (Below.refl _ _).alloc (Nat.le_refl _) _) (Nat.le_refl _) _
      generalize w2.setRow wr.heap.size #[.int .u8 x, .int .u8 y, .int .u8 z] = w3 at *
      have hR3 := Kd.R_below hR hk3
      clear hR hk3 hw2 hg hb2 hrow hone hmin hsrc hfit hcl
      have c0 := Joins.cell_of_block hg3 0
      have c1 := Joins.cell_of_block hg3 1
      have c2 := Joins.cell_of_block hg3 2
      have hb3' : (0 ≤ x ∧ x < 256) ∧ (0 ≤ y ∧ y < 256) ∧ (0 ≤ z ∧ z < 256) := by
        have hall : ∀ v ∈ ys.take 3 ++ ([0, 0, 0] : List Int).drop q, 0 ≤ v ∧ v < 256 := by
          intro v hv
          rw [List.mem_append] at hv
          rcases hv with hv | hv
          · exact hry v (List.mem_of_mem_take hv)
          · have := List.mem_of_mem_drop hv
            simp at this
            omega
        rw [HXYZ.out] at hall
        exact ⟨hall x (by simp), hall y (by simp), hall z (by simp)⟩
      obtain ⟨⟨bx0, bx1⟩, ⟨by0, by1⟩, ⟨bz0, bz1⟩⟩ := hb3'
      go_upto_region 7 with fail
      clear c0 c1 c2
      have hwin := word3_in ⟨bx0, bx1⟩ ⟨by0, by1⟩ ⟨bz0, bz1⟩
      obtain ⟨wd, hwd⟩ : ∃ wd, wd = word3 x y z := ⟨_, rfl⟩
      rw [show Go.bits .or .i64 (Go.bits .or .i64 (x * 65536) (y * 256)) z = wd from hwd.symm]
      rw [← hwd] at hwin
      have HWD := Lib.hid hwd
      clear hwd
      go_wp2_with fail
      go_loopw [3, 32] (fun v3 v32 wx => ∃ k : Nat, k ≤ 4 ∧ v32 = .int .i64 k ∧ Kd.R (Kd.int .u8) 5 wx w.heap.size (fun _ => True) v3 (out ++ (digs q x y z).take k) ∧ Below w.heap.size w wx) (fun _ v32 _ => 4 - (intOf v32).toNat)
      case atStart => exact ⟨0, by omega, rfl, by simpa using hR3, hb3⟩
      case round =>
        obtain ⟨k, hk4, rfl, hRk, hbk⟩ := hrel
        have hdl : (digs q x y z).length = 4 := rfl
        have htl : ∀ k, ((digs q x y z).take k).length ≤ 4 := fun k => by rw [List.length_take]; omega
        rcases (by omega : k = 4 ∨ k = 0 ∨ k = 1 ∨ k = 2 ∨ k = 3) with rfl | rfl | rfl | rfl | rfl
        · obtain ⟨i0, hi0, _, hsz, _⟩ := info_parts info5
          have hcut := cut_from (P := Try.prog) 22 5 .i64 Try.underlying22 hi0 1 hsz (some ad) m cb (q : Int) (by omega) (by omega)
          rw [Int.toNat_natCast] at hcut
          have hmin3 : min (3 : Int) (m : Int) = (q : Int) := by have := HQ.out; omega
          have hdrop := Kd.C_drop (m := q) (c := cb) (by rw [hym]; exact hCy) (by omega) (by omega)
          rw [List.length_drop, hym] at hdrop
          have hq1 : q * (Kd.int .u8).sz = q * 1 := rfl
          rw [hq1] at hdrop
          clear hi0 hsz hq1
          go_wp2_with fail
          have hmq : (if (m : Int) < 3 then (m : Int) else 3).toNat = q := by have := HQ.out; split <;> omega
          rw [hmq]
          rw [Nat.mul_one, Option.map_some] at hdrop
          rw [show (digs q x y z).take 4 = digs q x y z from rfl] at hRk
          refine ⟨⟨_, _, _, ys.drop q, out ++ digs q x y z, rfl, hdrop, by omega, by omega, fun v hv => hry v (List.mem_of_mem_drop hv), hRk, ?_, ?_, hbk⟩, ?_⟩
          · rw [List.length_append, hdl]; omega
          · rw [List.append_assoc, ← henc]; exact he
          · show m - q < m; omega
        · have hd_ : (digs q x y z).take 1 = (digs q x y z).take 0 ++ [bt (⟨#[65, 66, 67, 68, 69, 70, 71, 72, 73, 74, 75, 76, 77, 78, 79, 80, 81, 82, 83, 84, 85, 86, 87, 88, 89, 90, 97, 98, 99, 100, 101, 102, 103, 104, 105, 106, 107, 108, 109, 110, 111, 112, 113, 114, 115, 116, 117, 118, 119, 120, 121, 122, 48, 49, 50, 51, 52, 53, 54, 55, 56, 57, 43, 47]⟩ : ByteArray) (Go.bits .and .i64 (wd / 262144) 63)] := by rw [← dig_lit0 wd, HWD.out]; rfl
          have e_ := and63 (wd / 262144) (by omega) (by omega)
          have p_ : (0 ≤ (Go.bits .and .i64 (wd / 262144) 63)) = True := eq_true (by rw [e_]; omega)
          have q_ : ((Go.bits .and .i64 (wd / 262144) 63) < 64) = True := eq_true (by rw [e_]; omega)
          have hx_ := bt_at (⟨#[65, 66, 67, 68, 69, 70, 71, 72, 73, 74, 75, 76, 77, 78, 79, 80, 81, 82, 83, 84, 85, 86, 87, 88, 89, 90, 97, 98, 99, 100, 101, 102, 103, 104, 105, 106, 107, 108, 109, 110, 111, 112, 113, 114, 115, 116, 117, 118, 119, 120, 121, 122, 48, 49, 50, 51, 52, 53, 54, 55, 56, 57, 43, 47]⟩ : ByteArray) (Go.bits .and .i64 (wd / 262144) 63)
          clear e_
          have T_ : decide ((0 : Int) > (q : Int)) = false := decide_eq_false (by omega)
          have T2_ : decide ((q : Int) < 0) = false := decide_eq_false (by omega)
          go_wp2_with (first | (at_builtin; refine Kd.R_append (Kd.int .u8) (w0 := w) w.heap.size rfl (.tmp 41) (.tmp 49) 22 5 (.int .u8 0) 1 rfl Try.underlying22 info5 rfl (by decide) (by omega) _ (out ++ (digs q x y z).take 0) (bt (⟨#[65, 66, 67, 68, 69, 70, 71, 72, 73, 74, 75, 76, 77, 78, 79, 80, 81, 82, 83, 84, 85, 86, 87, 88, 89, 90, 97, 98, 99, 100, 101, 102, 103, 104, 105, 106, 107, 108, 109, 110, 111, 112, 113, 114, 115, 116, 117, 118, 119, 120, 121, 122, 48, 49, 50, 51, 52, 53, 54, 55, 56, 57, 43, 47]⟩ : ByteArray) (Go.bits .and .i64 (wd / 262144) 63)) [.int .u8 (bt (⟨#[65, 66, 67, 68, 69, 70, 71, 72, 73, 74, 75, 76, 77, 78, 79, 80, 81, 82, 83, 84, 85, 86, 87, 88, 89, 90, 97, 98, 99, 100, 101, 102, 103, 104, 105, 106, 107, 108, 109, 110, 111, 112, 113, 114, 115, 116, 117, 118, 119, 120, 121, 122, 48, 49, 50, 51, 52, 53, 54, 55, 56, 57, 43, 47]⟩ : ByteArray) (Go.bits .and .i64 (wd / 262144) 63))] (fun _ => True) (fun _ => False) rfl rfl ?aP (fun _ hk => hk.elim) (fun _ _ => trivial) hRk hbk hbk.size (by simp; omega) ?_; (case aP => exact rfl); intro v1 w1 ho hb1 hg1 hat1))
          go_roundw
          case rel => exact ⟨1, by omega, rfl, by
            rw [List.append_assoc, ← hd_] at ho
            exact ho, hb1⟩
          case measure => decide
        · have hd_ : (digs q x y z).take 2 = (digs q x y z).take 1 ++ [bt (⟨#[65, 66, 67, 68, 69, 70, 71, 72, 73, 74, 75, 76, 77, 78, 79, 80, 81, 82, 83, 84, 85, 86, 87, 88, 89, 90, 97, 98, 99, 100, 101, 102, 103, 104, 105, 106, 107, 108, 109, 110, 111, 112, 113, 114, 115, 116, 117, 118, 119, 120, 121, 122, 48, 49, 50, 51, 52, 53, 54, 55, 56, 57, 43, 47]⟩ : ByteArray) (Go.bits .and .i64 (wd / 4096) 63)] := by rw [← dig_lit1 wd, HWD.out]; rfl
          have e_ := and63 (wd / 4096) (by omega) (by omega)
          have p_ : (0 ≤ (Go.bits .and .i64 (wd / 4096) 63)) = True := eq_true (by rw [e_]; omega)
          have q_ : ((Go.bits .and .i64 (wd / 4096) 63) < 64) = True := eq_true (by rw [e_]; omega)
          have hx_ := bt_at (⟨#[65, 66, 67, 68, 69, 70, 71, 72, 73, 74, 75, 76, 77, 78, 79, 80, 81, 82, 83, 84, 85, 86, 87, 88, 89, 90, 97, 98, 99, 100, 101, 102, 103, 104, 105, 106, 107, 108, 109, 110, 111, 112, 113, 114, 115, 116, 117, 118, 119, 120, 121, 122, 48, 49, 50, 51, 52, 53, 54, 55, 56, 57, 43, 47]⟩ : ByteArray) (Go.bits .and .i64 (wd / 4096) 63)
          clear e_
          have T_ : decide ((1 : Int) > (q : Int)) = false := decide_eq_false (by omega)
          have T2_ : decide ((q : Int) < 1) = false := decide_eq_false (by omega)
          go_wp2_with (first | (at_builtin; refine Kd.R_append (Kd.int .u8) (w0 := w) w.heap.size rfl (.tmp 41) (.tmp 49) 22 5 (.int .u8 0) 1 rfl Try.underlying22 info5 rfl (by decide) (by omega) _ (out ++ (digs q x y z).take 1) (bt (⟨#[65, 66, 67, 68, 69, 70, 71, 72, 73, 74, 75, 76, 77, 78, 79, 80, 81, 82, 83, 84, 85, 86, 87, 88, 89, 90, 97, 98, 99, 100, 101, 102, 103, 104, 105, 106, 107, 108, 109, 110, 111, 112, 113, 114, 115, 116, 117, 118, 119, 120, 121, 122, 48, 49, 50, 51, 52, 53, 54, 55, 56, 57, 43, 47]⟩ : ByteArray) (Go.bits .and .i64 (wd / 4096) 63)) [.int .u8 (bt (⟨#[65, 66, 67, 68, 69, 70, 71, 72, 73, 74, 75, 76, 77, 78, 79, 80, 81, 82, 83, 84, 85, 86, 87, 88, 89, 90, 97, 98, 99, 100, 101, 102, 103, 104, 105, 106, 107, 108, 109, 110, 111, 112, 113, 114, 115, 116, 117, 118, 119, 120, 121, 122, 48, 49, 50, 51, 52, 53, 54, 55, 56, 57, 43, 47]⟩ : ByteArray) (Go.bits .and .i64 (wd / 4096) 63))] (fun _ => True) (fun _ => False) rfl rfl ?aP (fun _ hk => hk.elim) (fun _ _ => trivial) hRk hbk hbk.size (by simp; omega) ?_; (case aP => exact rfl); intro v1 w1 ho hb1 hg1 hat1))
          go_roundw
          case rel => exact ⟨2, by omega, rfl, by
            rw [List.append_assoc, ← hd_] at ho
            exact ho, hb1⟩
          case measure => decide
        · by_cases hqk : 2 < q + 1
          · have hd_ : (digs q x y z).take 3 = (digs q x y z).take 2 ++ [bt (⟨#[65, 66, 67, 68, 69, 70, 71, 72, 73, 74, 75, 76, 77, 78, 79, 80, 81, 82, 83, 84, 85, 86, 87, 88, 89, 90, 97, 98, 99, 100, 101, 102, 103, 104, 105, 106, 107, 108, 109, 110, 111, 112, 113, 114, 115, 116, 117, 118, 119, 120, 121, 122, 48, 49, 50, 51, 52, 53, 54, 55, 56, 57, 43, 47]⟩ : ByteArray) (Go.bits .and .i64 (wd / 64) 63)] := by rw [← dig_lit2 wd, HWD.out]; unfold digs; simp only [if_pos (show 1 < q by omega)]; rfl
            have e_ := and63 (wd / 64) (by omega) (by omega)
            have p_ : (0 ≤ (Go.bits .and .i64 (wd / 64) 63)) = True := eq_true (by rw [e_]; omega)
            have q_ : ((Go.bits .and .i64 (wd / 64) 63) < 64) = True := eq_true (by rw [e_]; omega)
            have hx_ := bt_at (⟨#[65, 66, 67, 68, 69, 70, 71, 72, 73, 74, 75, 76, 77, 78, 79, 80, 81, 82, 83, 84, 85, 86, 87, 88, 89, 90, 97, 98, 99, 100, 101, 102, 103, 104, 105, 106, 107, 108, 109, 110, 111, 112, 113, 114, 115, 116, 117, 118, 119, 120, 121, 122, 48, 49, 50, 51, 52, 53, 54, 55, 56, 57, 43, 47]⟩ : ByteArray) (Go.bits .and .i64 (wd / 64) 63)
            clear e_
            have T_ : decide ((2 : Int) > (q : Int)) = false := decide_eq_false (by omega)
            have T2_ : decide ((q : Int) < 2) = false := decide_eq_false (by omega)
            go_wp2_with (first | (at_builtin; refine Kd.R_append (Kd.int .u8) (w0 := w) w.heap.size rfl (.tmp 41) (.tmp 49) 22 5 (.int .u8 0) 1 rfl Try.underlying22 info5 rfl (by decide) (by omega) _ (out ++ (digs q x y z).take 2) (bt (⟨#[65, 66, 67, 68, 69, 70, 71, 72, 73, 74, 75, 76, 77, 78, 79, 80, 81, 82, 83, 84, 85, 86, 87, 88, 89, 90, 97, 98, 99, 100, 101, 102, 103, 104, 105, 106, 107, 108, 109, 110, 111, 112, 113, 114, 115, 116, 117, 118, 119, 120, 121, 122, 48, 49, 50, 51, 52, 53, 54, 55, 56, 57, 43, 47]⟩ : ByteArray) (Go.bits .and .i64 (wd / 64) 63)) [.int .u8 (bt (⟨#[65, 66, 67, 68, 69, 70, 71, 72, 73, 74, 75, 76, 77, 78, 79, 80, 81, 82, 83, 84, 85, 86, 87, 88, 89, 90, 97, 98, 99, 100, 101, 102, 103, 104, 105, 106, 107, 108, 109, 110, 111, 112, 113, 114, 115, 116, 117, 118, 119, 120, 121, 122, 48, 49, 50, 51, 52, 53, 54, 55, 56, 57, 43, 47]⟩ : ByteArray) (Go.bits .and .i64 (wd / 64) 63))] (fun _ => True) (fun _ => False) rfl rfl ?aP (fun _ hk => hk.elim) (fun _ _ => trivial) hRk hbk hbk.size (by simp; omega) ?_; (case aP => exact rfl); intro v1 w1 ho hb1 hg1 hat1))
            go_roundw
            case rel => exact ⟨3, by omega, rfl, by
              rw [List.append_assoc, ← hd_] at ho
              exact ho, hb1⟩
            case measure => decide
          · have hd_ : (digs q x y z).take 3 = (digs q x y z).take 2 ++ [61] := by unfold digs; simp only [if_neg (show ¬ 1 < q by omega)]; rfl
            have T_ : decide ((2 : Int) > (q : Int)) = true := decide_eq_true (by omega)
            have T2_ : decide ((q : Int) < 2) = true := decide_eq_true (by omega)
            go_wp2_with (first | (at_builtin; refine Kd.R_append (Kd.int .u8) (w0 := w) w.heap.size rfl (.tmp 38) (.tmp 39) 22 5 (.int .u8 0) 1 rfl Try.underlying22 info5 rfl (by decide) (by omega) _ (out ++ (digs q x y z).take 2) 61 [.int .u8 61] (fun _ => True) (fun _ => False) rfl rfl ?aP (fun _ hk => hk.elim) (fun _ _ => trivial) hRk hbk hbk.size (by simp; omega) ?_; (case aP => exact rfl); intro v1 w1 ho hb1 hg1 hat1))
            go_roundw
            case rel => exact ⟨3, by omega, rfl, by
              rw [List.append_assoc, ← hd_] at ho
              exact ho, hb1⟩
            case measure => decide
        · by_cases hqk : 3 < q + 1
          · have hd_ : (digs q x y z).take 4 = (digs q x y z).take 3 ++ [bt (⟨#[65, 66, 67, 68, 69, 70, 71, 72, 73, 74, 75, 76, 77, 78, 79, 80, 81, 82, 83, 84, 85, 86, 87, 88, 89, 90, 97, 98, 99, 100, 101, 102, 103, 104, 105, 106, 107, 108, 109, 110, 111, 112, 113, 114, 115, 116, 117, 118, 119, 120, 121, 122, 48, 49, 50, 51, 52, 53, 54, 55, 56, 57, 43, 47]⟩ : ByteArray) (Go.bits .and .i64 wd 63)] := by rw [← dig_lit3 wd, HWD.out]; unfold digs; simp only [if_pos (show 1 < q by omega), if_pos (show 2 < q by omega)]; rfl
            have e_ := and63 (wd) (by omega) (by omega)
            have p_ : (0 ≤ (Go.bits .and .i64 wd 63)) = True := eq_true (by rw [e_]; omega)
            have q_ : ((Go.bits .and .i64 wd 63) < 64) = True := eq_true (by rw [e_]; omega)
            have hx_ := bt_at (⟨#[65, 66, 67, 68, 69, 70, 71, 72, 73, 74, 75, 76, 77, 78, 79, 80, 81, 82, 83, 84, 85, 86, 87, 88, 89, 90, 97, 98, 99, 100, 101, 102, 103, 104, 105, 106, 107, 108, 109, 110, 111, 112, 113, 114, 115, 116, 117, 118, 119, 120, 121, 122, 48, 49, 50, 51, 52, 53, 54, 55, 56, 57, 43, 47]⟩ : ByteArray) (Go.bits .and .i64 wd 63)
            clear e_
            have T_ : decide ((3 : Int) > (q : Int)) = false := decide_eq_false (by omega)
            have T2_ : decide ((q : Int) < 3) = false := decide_eq_false (by omega)
            go_wp2_with (first | (at_builtin; refine Kd.R_append (Kd.int .u8) (w0 := w) w.heap.size rfl (.tmp 41) (.tmp 49) 22 5 (.int .u8 0) 1 rfl Try.underlying22 info5 rfl (by decide) (by omega) _ (out ++ (digs q x y z).take 3) (bt (⟨#[65, 66, 67, 68, 69, 70, 71, 72, 73, 74, 75, 76, 77, 78, 79, 80, 81, 82, 83, 84, 85, 86, 87, 88, 89, 90, 97, 98, 99, 100, 101, 102, 103, 104, 105, 106, 107, 108, 109, 110, 111, 112, 113, 114, 115, 116, 117, 118, 119, 120, 121, 122, 48, 49, 50, 51, 52, 53, 54, 55, 56, 57, 43, 47]⟩ : ByteArray) (Go.bits .and .i64 wd 63)) [.int .u8 (bt (⟨#[65, 66, 67, 68, 69, 70, 71, 72, 73, 74, 75, 76, 77, 78, 79, 80, 81, 82, 83, 84, 85, 86, 87, 88, 89, 90, 97, 98, 99, 100, 101, 102, 103, 104, 105, 106, 107, 108, 109, 110, 111, 112, 113, 114, 115, 116, 117, 118, 119, 120, 121, 122, 48, 49, 50, 51, 52, 53, 54, 55, 56, 57, 43, 47]⟩ : ByteArray) (Go.bits .and .i64 wd 63))] (fun _ => True) (fun _ => False) rfl rfl ?aP (fun _ hk => hk.elim) (fun _ _ => trivial) hRk hbk hbk.size (by simp; omega) ?_; (case aP => exact rfl); intro v1 w1 ho hb1 hg1 hat1))
            go_roundw
            case rel => exact ⟨4, by omega, rfl, by
              rw [List.append_assoc, ← hd_] at ho
              exact ho, hb1⟩
            case measure => decide
          · have hd_ : (digs q x y z).take 4 = (digs q x y z).take 3 ++ [61] := by unfold digs; simp only [if_neg (show ¬ 2 < q by omega)]; rfl
            have T_ : decide ((3 : Int) > (q : Int)) = true := decide_eq_true (by omega)
            have T2_ : decide ((q : Int) < 3) = true := decide_eq_true (by omega)
            go_wp2_with (first | (at_builtin; refine Kd.R_append (Kd.int .u8) (w0 := w) w.heap.size rfl (.tmp 38) (.tmp 39) 22 5 (.int .u8 0) 1 rfl Try.underlying22 info5 rfl (by decide) (by omega) _ (out ++ (digs q x y z).take 3) 61 [.int .u8 61] (fun _ => True) (fun _ => False) rfl rfl ?aP (fun _ hk => hk.elim) (fun _ _ => trivial) hRk hbk hbk.size (by simp; omega) ?_; (case aP => exact rfl); intro v1 w1 ho hb1 hg1 hat1))
            go_roundw
            case rel => exact ⟨4, by omega, rfl, by
              rw [List.append_assoc, ← hd_] at ho
              exact ho, hb1⟩
            case measure => decide

end Go.Proofs.Ytcnjbbgecopjmaa.Own
