/- Walks: Roomy and Intact of bytes: what is handed in stays, and so does the room behind it. -/
import Derived.Test.YtcnjbbgecopjmaaDoorLow
import Derived.Test.YtcnjbbgecopjmaaDoorFew
import Derived.Test.YtcnjbbgecopjmaaDoorOpen
import Derived.Laws.CopyOwn
import Derived.Lib.SmallJoins
namespace Go.Proofs.YtcnjbbgecopjmaaDoor.Own
open Go.RowKit Go.Proofs.YtcnjbbgecopjmaaDoor.PX Go.Proofs.YtcnjbbgecopjmaaDoor.Pl Go.Proofs.YtcnjbbgecopjmaaDoorW.PrintWords Go.Proofs.YtcnjbbgecopjmaaDoorW.PrintLast Go.Proofs.YtcnjbbgecopjmaaDoorW.PrintMore

/-- A list with its room, j places of it marked. -/
def roomL (xs : List Int) (j : Nat) : List Int := xs ++ (List.replicate j 165 ++ List.replicate (80 - j) 0)

theorem roomL_length (xs : List Int) (j : Nat) (hj : j ≤ 80) : (roomL xs j).length = xs.length + 80 := by
  unfold roomL
  simp
  omega

theorem roomL_set (xs : List Int) (j : Nat) (hj : j < 80) : (roomL xs j).set (xs.length + j) 165 = roomL xs (j + 1) := by
  unfold roomL
  rw [List.set_append_right _ _ (by omega), show xs.length + j - xs.length = j by omega, List.set_append_right _ _ (by simp), List.length_replicate, Nat.sub_self]
  congr 1
  obtain ⟨k, hk⟩ : ∃ k, 80 - j = k + 1 := ⟨80 - j - 1, by omega⟩
  rw [hk, show 80 - (j + 1) = k by omega, List.replicate_succ, List.set_cons_zero, List.replicate_succ', List.append_assoc]
  rfl

theorem roomL_rd (xs : List Int) (i : Nat) (h0 : xs.length ≤ i) (h1 : i < xs.length + 80) : rd (roomL xs 80) (i : Int) = 165 := by
  unfold rd roomL
  rw [Int.toNat_natCast, List.getD_eq_getElem?_getD, List.getElem?_append_right h0, List.getElem?_append_left (by simp; omega), List.getElem?_replicate, if_pos (by omega)]
  rfl

theorem same_refl (l : List Int) (hl : l.length < 100000000) : Ev (fun k => ostiarybook_Same_byte.f k l l) true := by
  have key : ∀ d (i : Nat), l.length - i = d → i ≤ l.length → Ev (fun k => ostiarybook_Same_byte.l0 k l l (i : Int)) true := by
    intro d
    induction d with
    | zero =>
      intro i hd hi
      refine Ev.step (f := fun _ => some true) (fun k => ?_) (Ev.now _)
      simp only [ostiarybook_Same_byte.l0]
      rw [if_neg (by omega)]
    | succ d ih =>
      intro i hd hi
      have hw : wrap64 ((i : Int) + 1) = ((i + 1 : Nat) : Int) := by rw [wrap_in (by omega)]; rfl
      refine Ev.step (fun k => ?_) (ih (i + 1) (by omega) (by omega))
      simp only [ostiarybook_Same_byte.l0]
      rw [if_pos (by omega), if_pos (by omega), if_pos (by omega), if_pos trivial, hw]
  have e : ∀ k, ostiarybook_Same_byte.f k l l = ostiarybook_Same_byte.l0 k l l ((0 : Nat) : Int) := fun k => by
    unfold ostiarybook_Same_byte.f
    rw [if_pos rfl]
    rfl
  simp only [e]
  exact key l.length 0 (by omega) (by omega)

set_option maxHeartbeats 4000000 in
set_option maxRecDepth 100000 in
theorem roomy_any (A : Option Addr) (n c : Nat) (xs : List Int) (w : World) (hC : (Kd.int .u8).C w A n xs) (hn : n ≤ 1000000) :
    Calls Tryd.prog 17 #[.slice A n c, .int .u8 165] w fun e w' => ∃ g, e = .returned (.slice (some ⟨g, 0, none⟩) (n + 80) (n + 80)) ∧
      w'.ownsRow w.heap.size 5 1 (.slice (some ⟨g, 0, none⟩) (n + 80) (n + 80)) (n + 80) (nums .u8 (roomL xs 80)) ∧ Below w.heap.size w w' := by
  have hl : xs.length = n := hC.1
  have hmk : ∀ W : World, (Instr.makeSlice 22 (.int .i64 ((n : Int) + 80)) (.int .i64 ((n : Int) + 80))).run Tryd.prog W = .ok (.slice (some ⟨W.heap.size, 0, none⟩) (n + 80) (n + 80)) (W.alloc (.cells (madeCells #[.int .u8 0] (n + 80)) 5)) := by
    intro W
    obtain ⟨info, hi, hz, hs, hb⟩ : ∃ i, Tryd.prog.info? 5 = some i ∧ i.zero = some (.int .u8 0) ∧ i.size = 1 ∧ i.bytes = 1 := ⟨_, rfl, by kernel_rfl, by kernel_rfl, by kernel_rfl⟩
    have := run_make (P := Tryd.prog) W 22 5 info (.int .u8 0) Tryd.underlying22 hi hz .i64 .i64 ((n : Int) + 80) ((n : Int) + 80) (by omega) (by omega) (by rw [hb]; omega) (by omega)
    rw [hs, Nat.mul_one, show ((n : Int) + 80).toNat = n + 80 by omega] at this
    exact this
  have hw80 : IntKind.i64.wrap ((n : Int) + 80) = (n : Int) + 80 := by rw [IntKind.wrap_i64]; omega
  go_enter Tryd.func17, Tryd.ntmps17
  go_upto_region 2 with fail
  clear hmk hw80
  generalize hw2 : w.alloc (Obj.cells (madeCells #[Value.int IntKind.u8 0] (n + 80)) 5) = w2
  have hmadeR := own_made' w w.heap.size 5 .u8 (n + 80) (Nat.le_refl _) (by omega)
  rw [List.length_replicate] at hmadeR
  have hb2 : Below w.heap.size w w2 := by rw [← hw2]; exact (Below.refl _ _).alloc (Nat.le_refl _) _
  rw [hw2] at hmadeR
  have hg : w2.heap[w.heap.size]? = some (.cells (madeCells #[Value.int IntKind.u8 0] (n + 80)) 5 (0, 0)) := by rw [← hw2]; exact heap_alloc_new _ _
  have hmsz : (madeCells #[Value.int IntKind.u8 0] (n + 80)).size = n + 80 := by rw [size_madeCells]
  have hmls : (madeCells #[Value.int IntKind.u8 0] (n + 80)).toList = List.replicate (n + 80) (Value.int .u8 0) := by
    apply List.ext_getElem
    · simp [madeCells]
    · intro i h1 h2
      simp [madeCells, Nat.mod_one]
  clear hw2
  go_cut [] (fun wx => wx.ownsRow w.heap.size 5 1 (.slice (some ⟨w.heap.size, 0, none⟩) (n + 80) (n + 80)) (n + 80) (nums .u8 (roomL xs 0)) ∧ Below w.heap.size w wx)
  case first =>
    by_cases hn0 : n = 0
    · subst hn0
      have hx0 : xs = [] := List.length_eq_zero_iff.mp hl
      subst hx0
      have hcp := run_copy_none (P := Tryd.prog) w2 22 22 3 5 (some ⟨w.heap.size, 0, none⟩) A (0 + 80) (0 + 80) 0 c Tryd.underlying22 (by kernel_rfl) (by rfl)
      have HM := Lib.hid hmadeR
      clear hg hmsz hmls hl hmadeR
      go_wp2_with fail
      go_meet
      case rel => exact ⟨HM.out, hb2⟩
    · obtain ⟨_, _, hrd⟩ := Kd.reads_of_C (d := (0 : Int)) (h1 := fun _ => rfl) (Kd.C_below hC hb2)
      obtain ⟨ad, rfl, hcell⟩ := hrd (by omega)
      obtain ⟨cs, hcs⟩ : ∃ cs : List Value, cs = xs.map (Value.int .u8) := ⟨_, rfl⟩
      have hcl : cs.length = n := by rw [hcs, List.length_map, hl]
      have hsrc : ∀ j v, cs[j]? = some v → w2.cell? (ad.add j) = some v := by
        intro j v hj
        have hj' := (List.getElem?_eq_some_iff.mp hj).1
        rw [hcs, List.getElem?_map, List.getElem?_eq_getElem (by omega)] at hj
        have := hcell j (by omega)
        rw [List.getD_eq_getElem?_getD, List.getElem?_eq_getElem (by omega)] at this
        simp only [Option.map_some, Option.some.injEq] at hj
        rw [← hj]
        exact this
      have hone : ∀ v ∈ cs, v.oneCell' = true := by
        intro v hv
        rw [hcs, List.mem_map] at hv
        obtain ⟨u, _, rfl⟩ := hv
        rfl
      have hfit : 0 + cs.length ≤ (madeCells #[Value.int IntKind.u8 0] (n + 80)).size := by rw [hmsz, hcl]; omega
      have hmin : cs.length = Nat.min n (n + 80) := by rw [hcl]; exact (Nat.min_eq_left (by omega)).symm
      have hrow : ((madeCells #[Value.int IntKind.u8 0] (n + 80)).toList.take 0 ++ (cs ++ (madeCells #[Value.int IntKind.u8 0] (n + 80)).toList.drop (0 + cs.length))).toArray = (nums .u8 (roomL xs 0)).toArray := by
        rw [hmls, List.take_zero, List.nil_append, Nat.zero_add, hcl, hcs, List.drop_replicate, show n + 80 - n = 80 by omega]
        congr 1
        unfold roomL nums
        simp
      clear hcell hrd hmadeR
      go_wp2_with (with_reducible refine wpList_copy_own rfl (.tmp 11) (.tmp 12) 22 22 rfl 5 Tryd.underlying22 (by kernel_rfl) w.heap.size 0 (n + 80) (n + 80) ad n c rfl rfl _ 5 hg cs hmin hsrc hfit hone ?_; rw [hrow])
      go_meet
      case rel =>
        refine ⟨⟨by simp [nums, roomL_length _ _ (Nat.zero_le 80)]; omega, .inr ⟨w.heap.size, n + 80, _, rfl, Nat.le_refl _, setRow_heap w2 w.heap.size _ (nums .u8 (roomL xs 0)).toArray 5 (0, 0) hg, Nat.le_refl _, by unfold maxLen; omega, ?_, ?_⟩⟩, below_setRow hb2 (Nat.le_refl _) _⟩
        · simp [nums, roomL_length _ _ (Nat.zero_le 80)]; omega
        · rw [List.take_of_length_le]
          simp [nums, roomL_length _ _ (Nat.zero_le 80)]; omega
  case rest =>
    obtain ⟨hown, hbc⟩ := hcut
    clear hg hmadeR hmsz hmls hb2
    have HL := Lib.hid hl
    clear hl hC
    go_wp2_with fail
    go_loopw [6] (fun v wr => ∃ j : Nat, j ≤ 80 ∧ v = .int .i64 ((n + j : Nat) : Int) ∧ wr.ownsRow w.heap.size 5 1 (.slice (some ⟨w.heap.size, 0, none⟩) (n + 80) (n + 80)) (n + 80) (nums .u8 (roomL xs j)) ∧ Below w.heap.size w wr) (fun v _ => n + 81 - (intOf v).toNat)
    case atStart => exact ⟨0, Nat.zero_le _, by go_num, hown, hbc⟩
    case round =>
      obtain ⟨j, hj, rfl, hownr, hbr⟩ := hrel
      by_cases hlt : j < 80
      · obtain ⟨hcell, hfz⟩ := own_at hownr ((n + j : Nat) : Int) (by omega) (by omega)
        have hst := (own_store hownr ((n + j : Nat) : Int) 165).1
        rw [Int.toNat_natCast] at hcell hfz hst
        rw [show n + j = xs.length + j by rw [HL.out], roomL_set xs j hlt, HL.out] at hst
        have hbs : Below w.heap.size w (wr.setCell ⟨w.heap.size, n + j, none⟩ (.int .u8 165)) := hbr.setCell (Nat.le_refl _) _
        have HST := Lib.hid hst
        have ht1 : decide (((n + j : Nat) : Int) < (n : Int) + 80) = true := decide_eq_true (by omega)
        have ht2 : decide (n + j < n + 80) = true := decide_eq_true (by omega)
        clear hst hownr
        go_wp2_with fail
        go_roundw
        case rel => exact ⟨j + 1, by omega, by go_num, HST.out, hbs⟩
        case measure => simp [intOf]; omega
      · obtain rfl : j = 80 := by omega
        have ht1 : decide (((n + 80 : Nat) : Int) < (n : Int) + 80) = false := decide_eq_false (by omega)
        have ht2 : decide (n + 80 < n + 80) = false := decide_eq_false (by omega)
        go_wp2_with fail
        go_ret
        exact ⟨_, rfl, hownr, hbr⟩

set_option maxHeartbeats 4000000 in
set_option maxRecDepth 100000 in
theorem intact_any (A : Option Addr) (g n c : Nat) (xs : List Int) (w : World) (hC : (Kd.int .u8).C w A n xs) (hnc : n ≤ c) (hn : n ≤ 1000000) (hF : (Kd.int .u8).C w (some ⟨g, 0, none⟩) (n + 80) (roomL xs 80)) :
    Calls Tryd.prog 23 #[.slice (some ⟨g, 0, none⟩) (n + 80) (n + 80), .slice A n c, .int .u8 165] w fun e w' => e = .returned (.bool true) ∧ Below w.heap.size w w' := by
  have hl : xs.length = n := hC.1
  obtain ⟨i0, hi0, _, hsz, _⟩ := info_parts info5
  have hcut := fun W => cut_to (P := Tryd.prog) 22 5 .i64 Tryd.underlying22 hi0 (some ⟨g, 0, none⟩) (n + 80) (n + 80) (n : Int) (by omega) (by omega) (Nat.le_refl _) W
  have hFt := Kd.C_take (m := n) (by rw [roomL_length xs 80 (Nat.le_refl _), hl]; exact hF) (by rw [roomL_length xs 80 (Nat.le_refl _)]; omega)
  have htk : (roomL xs 80).take n = xs := by
    unfold roomL
    rw [← hl, List.take_left]
  rw [htk, hl] at hFt
  rw [Int.toNat_natCast] at hcut
  obtain ⟨k, hk⟩ := Ev.rounds (same_refl xs (by omega))
  have hsame := fun w' (hb : Below w.heap.size w w') => ostiarybook_Same_byte.calls k (some ⟨g, 0, none⟩) (n + 80) xs A c xs true w' (by rw [hl]; exact Kd.C_below hFt hb) (by omega) (by rw [hl]; exact Kd.C_below hC hb) (by omega) hk
  rw [hl] at hsame
  have HS := Lib.hid hsame
  have HL := Lib.hid hl
  have ht1 : ((n : Int) + 80 != (n : Int) + 80) = false := by simp
  clear hsame hi0 hsz hFt htk hk hl
  go_enter Tryd.func23, Tryd.ntmps23
  go_wp2_with fail
  refine (HS.out _ (Below.refl _ _)).mono ?_
  rintro e w1 ⟨rfl, hd⟩
  have hb1 := hd.below
  have hF1 := Kd.C_below hF hb1
  obtain ⟨_, _, hrd⟩ := Kd.reads_of_C (d := (0 : Int)) (h1 := fun _ => rfl) hF1
  obtain ⟨ad, had, hcell⟩ := hrd (by omega)
  obtain rfl := Option.some.inj had
  clear hcut hd hF hC hF1 hrd had
  have HC := Lib.hid hcell
  clear hcell
  go_wp2_with fail
  go_loopw [7] (fun v wr => ∃ j : Nat, j ≤ 80 ∧ v = .int .i64 ((n + j : Nat) : Int) ∧ wr = w1) (fun v _ => n + 81 - (intOf v).toNat)
  case atStart => exact ⟨0, Nat.zero_le _, by go_num, rfl⟩
  case round =>
    obtain ⟨j, hj, rfl, rfl⟩ := hrel
    by_cases hlt : j < 80
    · have hc0 := HC.out (n + j) (by omega)
      rw [add_plain] at hc0
      have hrd := roomL_rd xs (n + j) (by rw [HL.out]; omega) (by rw [HL.out]; omega)
      unfold rd at hrd
      rw [Int.toNat_natCast] at hrd
      rw [hrd] at hc0
      have ht1 : decide (((n + j : Nat) : Int) < (n : Int) + 80) = true := decide_eq_true (by omega)
      have ht2 : decide (n + j < n + 80) = true := decide_eq_true (by omega)
      clear hrd
      go_wp2_with fail
      go_roundw
      case rel => exact ⟨j + 1, by omega, by go_num, trivial⟩
      case measure => simp [intOf]; omega
    · obtain rfl : j = 80 := by omega
      have ht1 : decide (((n + 80 : Nat) : Int) < (n : Int) + 80) = false := decide_eq_false (by omega)
      have ht2 : decide (n + 80 < n + 80) = false := decide_eq_false (by omega)
      go_wp2_with fail
      go_ret
      exact ⟨rfl, hb1⟩

end Go.Proofs.YtcnjbbgecopjmaaDoor.Own
