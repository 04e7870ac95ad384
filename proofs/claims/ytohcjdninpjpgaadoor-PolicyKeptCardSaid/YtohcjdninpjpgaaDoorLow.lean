/- Walks: lowered texts; a row of bytes that came of a conversion. -/
import Derived.Test.YtohcjdninpjpgaaDoorBytes
import Derived.Lib.ConvBytes
import Derived.Lib.Hide
namespace Go.Proofs.YtohcjdninpjpgaaDoor.Pl
open Go.RowKit Go.Proofs.YtohcjdninpjpgaaDoorW.PrintWords Go.Proofs.YtohcjdninpjpgaaDoorW.PrintLast Go.Proofs.YtohcjdninpjpgaaDoorW.PrintMore

/-! ### lowered texts -/

def lowB (c : Int) : Int := if 65 ≤ c ∧ c ≤ 90 then c + 32 else c

def low (l : List Int) : List Int := l.map lowB

theorem lowB_range {c : Int} (h : 0 ≤ c ∧ c < 256) : 0 ≤ lowB c ∧ lowB c < 256 := by unfold lowB; split <;> omega

theorem low_range (l : List Int) (h : ∀ x ∈ l, 0 ≤ x ∧ x < 256) : ∀ x ∈ low l, 0 ≤ x ∧ x < 256 := by
  intro x hx
  unfold low at hx
  rw [List.mem_map] at hx
  obtain ⟨y, hy, rfl⟩ := hx
  exact lowB_range (h y hy)

theorem low_low (l : List Int) : low (low l) = low l := by
  unfold low
  rw [List.map_map]
  refine List.map_congr_left fun x _ => ?_
  show lowB (lowB x) = lowB x
  unfold lowB
  by_cases h : 65 ≤ x ∧ x ≤ 90
  · rw [if_pos h, if_neg (by omega)]
  · rw [if_neg h, if_neg h]

theorem low_append (l m : List Int) : low (l ++ m) = low l ++ low m := List.map_append

theorem low_length (l : List Int) : (low l).length = l.length := List.length_map _

end Go.Proofs.YtohcjdninpjpgaaDoor.Pl
namespace Go.Proofs.YtohcjdninpjpgaaDoor.Own
open Go.RowKit Go.Proofs.YtohcjdninpjpgaaDoor.Pl Go.Proofs.YtohcjdninpjpgaaDoorW.PrintWords Go.Proofs.YtohcjdninpjpgaaDoorW.PrintLast Go.Proofs.YtohcjdninpjpgaaDoorW.PrintMore

/-! ### a row of bytes that came of a conversion -/

def Bytesy (w : World) (g n cap : Nat) (xs : List Int) : Prop :=
  ∃ cur : Array Value, w.heap[g]? = some (.cells cur 5 (cap, cap + 1)) ∧ cur.size = cap ∧ n ≤ cap ∧ xs.length = n ∧ cur.toList.take n = xs.map (Value.int .u8)

theorem setCell_block (w : World) (g i : Nat) (cs : Array Value) (t : TypeId) (fr : Nat × Nat) (v : Value) (hg : w.heap[g]? = some (.cells cs t fr)) :
    (w.setCell ⟨g, i, none⟩ v).heap[g]? = some (.cells (cs.setIfInBounds i v) t fr) := by
  simp only [World.setCell]
  rw [Array.getElem?_modify]
  simp [hg]

theorem Bytesy.read {w : World} {g n cap : Nat} {xs : List Int} (h : Bytesy w g n cap xs) (i : Nat) (hi : i < n) : w.cell? ⟨g, i, none⟩ = some (.int .u8 (rd xs i)) ∧ w.frozen? ⟨g, i, none⟩ = false := by
  obtain ⟨cur, hg, hs, hn, hl, ht⟩ := h
  constructor
  · simp only [World.cell?, hg]
    have h1 : cur.toList[i]? = some (.int .u8 (rd xs i)) := by
      have h2 : (cur.toList.take n)[i]? = (xs.map (Value.int .u8))[i]? := by rw [ht]
      rw [List.getElem?_take_of_lt hi, List.getElem?_map, List.getElem?_eq_getElem (l := xs) (by omega)] at h2
      rw [h2]
      unfold rd
      rw [Int.toNat_natCast, List.getD_eq_getElem?_getD, List.getElem?_eq_getElem (by omega)]
      rfl
    simpa using h1
  · simp only [World.frozen?, hg]
    simp
    omega

theorem Bytesy.store {w : World} {g n cap : Nat} {xs : List Int} (h : Bytesy w g n cap xs) (i : Nat) (x : Int) : Bytesy (w.setCell ⟨g, i, none⟩ (.int .u8 x)) g n cap (xs.set i x) := by
  obtain ⟨cur, hg, hs, hn, hl, ht⟩ := h
  refine ⟨_, setCell_block w g i cur 5 _ _ hg, by simpa using hs, hn, by simpa using hl, ?_⟩
  rw [Array.toList_setIfInBounds, List.take_set, ht, List.map_set]

theorem Bytesy.C {w : World} {g n cap : Nat} {xs : List Int} (h : Bytesy w g n cap xs) (hb : n ≤ 9223372036854775807) : (Kd.int .u8).C w (some ⟨g, 0, none⟩) n xs := by
  have hl : xs.length = n := h.choose_spec.2.2.2.1
  refine Kd.C_of_reads (d := (0 : Int)) (h1 := fun _ => rfl) ⟨hl, hb, fun _ => ⟨_, rfl, fun j hj => ?_⟩⟩
  have := (h.read j (by omega)).1
  rw [add_plain]
  simpa [rd] using this

theorem Bytesy.made (w : World) (s : ByteArray) : Bytesy (Lib.bytesWorld w 5 s) w.heap.size s.size (grownCap w s.size 0 5) (bytesOf s) := by
  have hg := grownCap_ge w s.size 0 5
  have hsz : (Lib.bytesCells w 5 s).size = grownCap w s.size 0 5 := by
    have : s.data.size = s.size := rfl
    simp only [Lib.bytesCells, Array.size_append, Array.size_map, Array.size_replicate]
    omega
  have hn := Lib.bytesWorld_at_new w 5 s
  rw [hsz] at hn
  refine ⟨_, hn, hsz, hg, bytesOf_length s, ?_⟩
  have e : s.data.toList.length = s.size := by rw [Array.length_toList]; rfl
  unfold Lib.bytesCells bytesOf
  rw [Array.toList_append, Array.toList_map, List.take_append_of_le_length (by rw [List.length_map]; omega), List.take_of_length_le (by rw [List.length_map]; omega), List.map_map]
  rfl

theorem below_bytes {w0 w : World} (h : Below w0.heap.size w0 w) (s : ByteArray) : Below w0.heap.size w0 (Lib.bytesWorld w 5 s) := by
  refine ⟨?_, ?_, ?_, ?_, ?_⟩
  · exact h.os
  · exact h.tape
  · exact h.output
  · rw [Lib.bytesWorld_size]; have := h.size; omega
  · intro k hk
    rw [Lib.bytesWorld_at_old w 5 s k (by have := h.size; omega)]
    exact h.block k hk

/-! ### Lower -/

theorem low1_any (c : Int) (hc : 0 ≤ c ∧ c < 256) (w : World) : Calls Tryd.prog 42 #[.int .u8 c] w fun e w' => e = .returned (.int .u8 (lowB c)) ∧ w' = w := by
  obtain ⟨h0, h1⟩ := hc
  by_cases ha : 65 ≤ c
  · by_cases hz : c ≤ 90
    · have e : lowB c = c + 32 := by unfold lowB; rw [if_pos ⟨ha, hz⟩]
      have E := Lib.hid e
      clear e
      go_enter Tryd.func42, Tryd.ntmps42
      go_wp2
      go_ret
      exact ⟨by rw [E.out]; first | rfl | (congr 2; omega), rfl⟩
    · have e : lowB c = c := by unfold lowB; rw [if_neg (fun h => hz h.2)]
      have E := Lib.hid e
      clear e
      have hz' : decide (c ≤ 90) = false := decide_eq_false hz
      go_enter Tryd.func42, Tryd.ntmps42
      go_wp2
      go_ret
      exact ⟨by rw [E.out]; rfl, rfl⟩
  · have e : lowB c = c := by unfold lowB; rw [if_neg (fun h => ha h.1)]
    have E := Lib.hid e
    clear e
    have ha' : decide (65 ≤ c) = false := decide_eq_false ha
    go_enter Tryd.func42, Tryd.ntmps42
    go_wp2
    go_ret
    exact ⟨by rw [E.out]; rfl, rfl⟩

theorem low_step (l : List Int) (i : Nat) (h : i < l.length) : (low (l.take i) ++ l.drop i).set i (lowB (rd l i)) = low (l.take (i + 1)) ++ l.drop (i + 1) := by
  have hl : (low (l.take i)).length = i := by rw [low_length, List.length_take]; omega
  have hr : rd l (i : Int) = l[i] := by
    unfold rd
    rw [Int.toNat_natCast, List.getD_eq_getElem?_getD, List.getElem?_eq_getElem h]
    rfl
  have hd : l.drop i = l[i] :: l.drop (i + 1) := (List.getElem_cons_drop h).symm
  rw [List.set_append_right _ _ (by omega), hl, Nat.sub_self, hd, List.set_cons_zero, hr, List.take_succ_eq_append_getElem h, low_append]
  simp [low]

theorem low_at (l : List Int) (i : Nat) (h : i < l.length) : rd (low (l.take i) ++ l.drop i) (i : Int) = rd l (i : Int) := by
  have hl : (low (l.take i)).length = i := by rw [low_length, List.length_take]; omega
  unfold rd
  rw [Int.toNat_natCast, List.getD_eq_getElem?_getD, List.getD_eq_getElem?_getD, List.getElem?_append_right (by omega), hl, Nat.sub_self, List.getElem?_drop, Nat.add_zero]

set_option maxHeartbeats 1000000 in
theorem mapped_any (s : ByteArray) (hs : s.size < 100000000) (w : World) : Calls Tryd.prog 41 #[.string s, .func (.func 42) #[] #[]] w fun e w' => e = .returned (.string (strOfNums (low (bytesOf s)))) ∧ Below w.heap.size w w' := by
  have hcv := Lib.run_convert_string_bytes (P := Tryd.prog) w 9 73 5 s Tryd.underlying9 Tryd.underlying73 Tryd.underlying5
  have hB := Bytesy.made w s
  have hb := below_bytes (Below.refl w.heap.size w) s
  have hlen := bytesOf_length s
  generalize grownCap w s.size 0 5 = cap at *
  generalize Lib.bytesWorld w 5 s = w1 at *
  have HL := Lib.hid hlen
  clear hlen
  go_enter Tryd.func41, Tryd.ntmps41
  go_wp2_with fail
  clear hcv
  go_loopw [6, 7, 12] (fun _ _ v wx => ∃ i : Nat, i ≤ s.size ∧ v = .int .i64 i ∧ Bytesy wx w.heap.size s.size cap (low ((bytesOf s).take i) ++ (bytesOf s).drop i) ∧ Below w.heap.size w wx) (fun _ _ v _ => s.size - (intOf v).toNat)
  case atStart => exact ⟨0, Nat.zero_le _, rfl, by simpa [low] using hB, hb⟩
  case round =>
    obtain ⟨i, hi, rfl, hBx, hbx⟩ := hrel
    by_cases hlt : i < s.size
    · obtain ⟨hc, hf⟩ := hBx.read i hlt
      rw [low_at _ i (by rw [HL.out]; exact hlt)] at hc
      have hr := bt_r s i
      rw [← rd_bytesOf] at hr
      generalize hx : rd (bytesOf s) (i : Int) = x at *
      have HX := Lib.hid hx
      have hst := hBx.store i (lowB x)
      rw [← hx, low_step _ i (by rw [HL.out]; exact hlt), hx] at hst
      have hbs : Below w.heap.size w (wr.setCell ⟨w.heap.size, i, none⟩ (.int .u8 (lowB x))) := hbx.setCell (Nat.le_refl _) _
      clear hx hBx
      go_wp2_with fail
      refine (low1_any x hr _).mono ?_
      rintro e w_ ⟨rfl, hw_⟩
      rw [hw_]
      clear hw_ w_
      go_wp2_with fail
      go_roundw
      case rel => exact ⟨i + 1, by omega, by go_num, hst, hbs⟩
      case measure => simp [intOf]; omega
    · obtain rfl : i = s.size := by omega
      rw [List.take_of_length_le (by rw [HL.out]; exact Nat.le_refl _), List.drop_of_length_le (by rw [HL.out]; exact Nat.le_refl _), List.append_nil] at hBx
      have hcs := Kd.C_string (P := Tryd.prog) (c := cap) Tryd.underlying73 Tryd.underlying5 Tryd.underlying9 (hBx.C (by omega))
      clear hBx
      go_wp2_with fail
      go_ret
      exact ⟨rfl, hbx⟩

theorem lower_any (s : ByteArray) (hs : s.size < 100000000) (w : World) : Calls Tryd.prog 29 #[.string s] w fun e w' => e = .returned (.string (strOfNums (low (bytesOf s)))) ∧ Below w.heap.size w w' := by
  go_enter Tryd.func29, Tryd.ntmps29
  go_wp2_with fail
  refine (mapped_any s hs _).mono ?_
  rintro e w1 ⟨rfl, hb⟩
  go_wp2_with fail
  go_ret
  exact ⟨rfl, hb⟩

set_option maxHeartbeats 1000000 in
theorem rlower_any (s : ByteArray) (hs : s.size < 100000000) (w : World) : Calls Tryd.prog 38 #[.string s] w fun e w' => e = .returned (.string (strOfNums (low (bytesOf s)))) ∧ Below w.heap.size w w' := by
  have hcv := Lib.run_convert_string_bytes (P := Tryd.prog) w 9 73 5 s Tryd.underlying9 Tryd.underlying73 Tryd.underlying5
  have hB := Bytesy.made w s
  have hb := below_bytes (Below.refl w.heap.size w) s
  have hlen := bytesOf_length s
  generalize grownCap w s.size 0 5 = cap at *
  generalize Lib.bytesWorld w 5 s = w1 at *
  have HL := Lib.hid hlen
  clear hlen
  go_enter Tryd.func38, Tryd.ntmps38
  go_wp2_with fail
  clear hcv
  go_loopw [4] (fun v wx => ∃ i : Nat, i ≤ s.size ∧ v = .int .i64 i ∧ Bytesy wx w.heap.size s.size cap (low ((bytesOf s).take i) ++ (bytesOf s).drop i) ∧ Below w.heap.size w wx) (fun v _ => s.size - (intOf v).toNat)
  case atStart => exact ⟨0, Nat.zero_le _, rfl, by simpa [low] using hB, hb⟩
  case round =>
    obtain ⟨i, hi, rfl, hBx, hbx⟩ := hrel
    by_cases hlt : i < s.size
    · obtain ⟨hc, hf⟩ := hBx.read i hlt
      rw [low_at _ i (by rw [HL.out]; exact hlt)] at hc
      have hr := bt_r s i
      rw [← rd_bytesOf] at hr
      generalize hx : rd (bytesOf s) (i : Int) = x at *
      obtain ⟨x0, x1⟩ := hr
      have hst := hBx.store i (lowB x)
      rw [← hx, low_step _ i (by rw [HL.out]; exact hlt), hx] at hst
      have hbs : Below w.heap.size w (wr.setCell ⟨w.heap.size, i, none⟩ (.int .u8 (lowB x))) := hbx.setCell (Nat.le_refl _) _
      have HST := Lib.hid hst
      have HBS := Lib.hid hbs
      have HBX := Lib.hid hBx
      have HX := Lib.hid hx
      clear hx hBx hst hbs
      by_cases ha : 65 ≤ x
      · by_cases hz : x ≤ 90
        · have e : x + 32 = lowB x := by unfold lowB; rw [if_pos ⟨ha, hz⟩]
          have E := Lib.hid e
          clear e
          go_wp2_with fail
          go_roundw
          case rel => exact ⟨i + 1, by omega, by go_num, by rw [E.out]; exact HST.out, by rw [E.out]; exact HBS.out⟩
          case measure => simp [intOf]; omega
        · have e : lowB x = x := by unfold lowB; rw [if_neg (fun h => hz h.2)]
          have hl2 : low ((bytesOf s).take (i + 1)) ++ (bytesOf s).drop (i + 1) = low ((bytesOf s).take i) ++ (bytesOf s).drop i := by
            rw [← low_step _ i (by rw [HL.out]; exact hlt), HX.out, e]
            apply List.ext_getElem?
            intro j
            rw [List.getElem?_set]
            split
            · rename_i hj
              subst hj
              have h2 := low_at (bytesOf s) i (by rw [HL.out]; exact hlt)
              have hll : i < (low ((bytesOf s).take i) ++ (bytesOf s).drop i).length := by
                rw [List.length_append, low_length, List.length_take, List.length_drop, HL.out]; omega
              unfold rd at h2
              rw [Int.toNat_natCast, List.getD_eq_getElem?_getD, List.getD_eq_getElem?_getD, List.getElem?_eq_getElem hll] at h2
              rw [if_pos hll, List.getElem?_eq_getElem hll]
              have h3 := HX.out
              unfold rd at h3
              rw [Int.toNat_natCast, List.getD_eq_getElem?_getD] at h3
              rw [h3] at h2
              simpa using h2.symm
            · rfl
          have HL2 := Lib.hid hl2
          have hz' : decide (x ≤ 90) = false := decide_eq_false hz
          clear e hl2
          go_wp2_with fail
          go_roundw
          case rel => exact ⟨i + 1, by omega, by go_num, by rw [HL2.out]; exact HBX.out, hbx⟩
          case measure => simp [intOf]; omega
      · have e : lowB x = x := by unfold lowB; rw [if_neg (fun h => ha h.1)]
        have hl2 : low ((bytesOf s).take (i + 1)) ++ (bytesOf s).drop (i + 1) = low ((bytesOf s).take i) ++ (bytesOf s).drop i := by
          rw [← low_step _ i (by rw [HL.out]; exact hlt), HX.out, e]
          apply List.ext_getElem?
          intro j
          rw [List.getElem?_set]
          split
          · rename_i hj
            subst hj
            have h2 := low_at (bytesOf s) i (by rw [HL.out]; exact hlt)
            have hll : i < (low ((bytesOf s).take i) ++ (bytesOf s).drop i).length := by
              rw [List.length_append, low_length, List.length_take, List.length_drop, HL.out]; omega
            unfold rd at h2
            rw [Int.toNat_natCast, List.getD_eq_getElem?_getD, List.getD_eq_getElem?_getD, List.getElem?_eq_getElem hll] at h2
            rw [if_pos hll, List.getElem?_eq_getElem hll]
            have h3 := HX.out
            unfold rd at h3
            rw [Int.toNat_natCast, List.getD_eq_getElem?_getD] at h3
            rw [h3] at h2
            simpa using h2.symm
          · rfl
        have HL2 := Lib.hid hl2
        have ha' : decide (65 ≤ x) = false := decide_eq_false ha
        clear e hl2
        go_wp2_with fail
        go_roundw
        case rel => exact ⟨i + 1, by omega, by go_num, by rw [HL2.out]; exact HBX.out, hbx⟩
        case measure => simp [intOf]; omega
    · obtain rfl : i = s.size := by omega
      rw [List.take_of_length_le (by rw [HL.out]; exact Nat.le_refl _), List.drop_of_length_le (by rw [HL.out]; exact Nat.le_refl _), List.append_nil] at hBx
      have hcs := Kd.C_string (P := Tryd.prog) (c := cap) Tryd.underlying73 Tryd.underlying5 Tryd.underlying9 (hBx.C (by omega))
      clear hBx
      go_wp2_with fail
      go_ret
      exact ⟨rfl, hbx⟩

end Go.Proofs.YtohcjdninpjpgaaDoor.Own
