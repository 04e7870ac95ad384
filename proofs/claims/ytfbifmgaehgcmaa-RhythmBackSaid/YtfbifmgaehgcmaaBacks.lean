/- RhythmBack: the walk. -/
import Derived.Test.YtfbifmgaehgcmaaPair
import Derived.Test.YtfbifmgaehgcmaaBack
import Derived.Test.YtfbifmgaehgcmaaTurn
import Derived.Deep.RegionWith
import Derived.Deep.DeepCutAuto
import Derived.Deep.CutBlock
namespace Go.Proofs.Ytfbifmgaehgcmaa
open Go.RowKit Fl

theorem tmod40 (z : Int) : -1099511627775 ≤ z.tmod 1099511627776 ∧ z.tmod 1099511627776 ≤ 1099511627775 := by
  have h2 := Int.tmod_lt_of_pos z (show (0:Int) < 1099511627776 by decide)
  have h3 := Int.lt_tmod_of_pos z (show (0:Int) < 1099511627776 by decide)
  omega

theorem q4_in (n0 n1 n2 n3 B : Int) (h0 : -B ≤ n0 ∧ n0 ≤ B) (h1 : -B ≤ n1 ∧ n1 ≤ B) (h2 : -B ≤ n2 ∧ n2 ≤ B) (h3 : -B ≤ n3 ∧ n3 ≤ B) (hB : B ≤ 17592186044416) :
    ∀ j, -17592186044416 ≤ q4 n0 n1 n2 n3 j ∧ q4 n0 n1 n2 n3 j ≤ 17592186044416 := by
  intro j; unfold q4; split
  · omega
  · split
    · omega
    · split <;> omega

/-- Back of a spectrum is the numbers. -/
theorem back_spec (n0 n1 n2 n3 : Int) (j : Nat) (hj : j < 4) : bsum (fun k => psum (q4 n0 n1 n2 n3) k 4) j 4 = (4 * q4 n0 n1 n2 n3 j, 0) := by
  rcases (by omega : j = 0 ∨ j = 1 ∨ j = 2 ∨ j = 3) with rfl | rfl | rfl | rfl
  all_goals
    simp [bsum, psum, turnI, q4]
    try omega

theorem good_spec (n0 n1 n2 n3 : Int) (j : Nat) (hj : j < 4) : Good (fun k => psum (q4 n0 n1 n2 n3) k 4) j := by
  unfold Good
  rw [back_spec n0 n1 n2 n3 j hj]
  exact ⟨rfl, by simp only; omega⟩

theorem backIs_spec (n0 n1 n2 n3 : Int) {e : Ending} (h : BackIs (fun k => psum (q4 n0 n1 n2 n3) k 4) e) : e = .returned (.tuple #[.agg #[.int .i64 n0, .int .i64 n1, .int .i64 n2, .int .i64 n3], .bool true]) := by
  rcases h with ⟨_, cs, he, hc⟩ | ⟨⟨j, hj, hb⟩, _⟩
  · have hf := hc.form
    rw [he, hf, back_spec _ _ _ _ 0 (by omega), back_spec _ _ _ _ 1 (by omega), back_spec _ _ _ _ 2 (by omega), back_spec _ _ _ _ 3 (by omega)]
    have t : ∀ x : Int, (4 * x).tdiv 4 = x := fun x => Int.mul_tdiv_cancel_left x (by decide)
    rw [t, t, t, t]
    rfl
  · exact absurd (good_spec n0 n1 n2 n3 j hj) hb

theorem psum_zero (n0 n1 n2 n3 : Int) : psum (q4 n0 n1 n2 n3) 0 4 = (n0 + n1 + n2 + n3, 0) := by
  simp [psum, turnI, q4]

theorem psum_three (n0 n1 n2 n3 : Int) : psum (q4 n0 n1 n2 n3) 1 4 = ((psum (q4 n0 n1 n2 n3) 3 4).1, -(psum (q4 n0 n1 n2 n3) 3 4).2) := by
  simp [psum, turnI, q4]
  try omega

theorem neq_false {a b : Nat} {x : Int} (ha : Rep 0 a x) (hb : Rep 0 b x) : (FloatKind.f64.format.order a b != some Ordering.eq) = false := by
  rw [bne, rep_eq ha hb]; simp

set_option maxRecDepth 100000 in
set_option maxHeartbeats 4000000 in
theorem backs_any (m0 m1 m2 m3 : Int) (a : Option Addr) (la ca : Nat) (zs : List Int) (by' : Int) (w : World) (ha : SliceI w a la ca zs) (_hca : ca ≤ 9223372036854775807) :
    Calls Try.prog 5 #[.agg #[.int .i64 m0, .int .i64 m1, .int .i64 m2, .int .i64 m3], .slice a la ca, .int .i64 by'] w fun e w' => e = .returned (.bool true) ∧ Below w.heap.size w w' := by
  have b0 := tmod40 m0
  have b1 := tmod40 m1
  have b2 := tmod40 m2
  have b3 := tmod40 m3
  have hmo := fun w => mosts_any m0 m1 m2 m3 w
  generalize m0.tmod 1099511627776 = n0 at *
  generalize m1.tmod 1099511627776 = n1 at *
  generalize m2.tmod 1099511627776 = n2 at *
  generalize m3.tmod 1099511627776 = n3 at *
  have hq := q4_in n0 n1 n2 n3 1099511627775 b0 b1 b2 b3 (by omega)
  go_enter Try.func5, Try.ntmps5
  go_wp2_with fail
  refine (hmo _).mono ?_
  rintro e w1 ⟨rfl, hb1⟩
  have g0 := (hb1.block w.heap.size (by simp)).trans (heap_alloc_new _ _)
  have z1 := hb1.size
  rw [World.size_alloc] at z1
  have hW1 : Below w.heap.size w w1 := ((Below.refl _ _).alloc (Nat.le_refl _) _).trans (hb1.mono (by simp))
  obtain ⟨⟨l0, l1, l2, l3⟩, f0, f1, f2, f3⟩ := cells4_of g0
  have s1 : w.heap.size < w1.heap.size := by omega
  clear hb1
  go_wp2_with fail
  generalize hw2 : (((w1.setCell ⟨w.heap.size, 0, none⟩ (.int .i64 n0)).setCell ⟨w.heap.size, 1, none⟩ (.int .i64 n1)).setCell ⟨w.heap.size, 2, none⟩ (.int .i64 n2)).setCell ⟨w.heap.size, 3, none⟩ (.int .i64 n3) = w2
  have gl : w2.heap[w.heap.size]? = some (.cells #[.int .i64 n0, .int .i64 n1, .int .i64 n2, .int .i64 n3] 22 (0, 0)) := by
    rw [← hw2]; exact Joins.block_setCell (Joins.block_setCell (Joins.block_setCell (Joins.block_setCell g0 _) _) _) _
  have hW2 : Below w.heap.size w w2 := by rw [← hw2]; exact (((hW1.setCell (by simp) _).setCell (by simp) _).setCell (by simp) _).setCell (by simp) _
  have z2 : w.heap.size + 1 ≤ w2.heap.size := by rw [← hw2]; simpa using z1
  clear hw2 g0 l0 l1 l2 l3 f0 f1 f2 f3 hW1 s1 z1
  refine (spectrum_any n0 n1 n2 n3 _ hq).mono ?_
  rintro e w3 ⟨⟨cx, rfl, hx⟩, hb3⟩
  obtain ⟨x0, y0, x1, y1, x2, y2, x3, y3, rfl, rx0, rx1, rx2, rx3⟩ := hx.form
  have gl3 := (hb3.block w.heap.size (by omega)).trans gl
  have hW3 : Below w.heap.size w w3 := hW2.trans (hb3.mono (by omega))
  have z3 := hb3.size
  clear hb3 hW2 gl
  have hbk := fun w => back_any hx (fun k hk => by
    have := psum_bound _ k 17592186044416 hq (by omega) 4
    omega) w
  go_wp2_with fail
  refine (hbk _).mono ?_
  rintro e w4 ⟨hbe, hb4⟩
  obtain rfl := backIs_spec _ _ _ _ hbe
  have gs := (hb4.block w3.heap.size (by simp)).trans (heap_alloc_new _ _)
  have gl4 := (hb4.block w.heap.size (by simp; omega)).trans ((heap_alloc_old _ _ (by omega)).trans gl3)
  have z4 := hb4.size
  rw [World.size_alloc] at z4
  have hW4 : Below w.heap.size w w4 := (hW3.alloc (by omega) _).trans (hb4.mono (by simp; omega))
  clear hb4 hbk hbe gl3 hW3
  go_upto_region 4 with fail
  generalize hw5 : w4.alloc (.cells #[.int .i64 n0, .int .i64 n1, .int .i64 n2, .int .i64 n3] 22) = w5
  have gm : w5.heap[w4.heap.size]? = some (.cells #[.int .i64 n0, .int .i64 n1, .int .i64 n2, .int .i64 n3] 22 (0, 0)) := by rw [← hw5]; exact heap_alloc_new _ _
  have gs5 := (heap_alloc_old w4 (.cells #[.int .i64 n0, .int .i64 n1, .int .i64 n2, .int .i64 n3] 22) (r := w3.heap.size) (by omega)).trans gs
  have gl5 := (heap_alloc_old w4 (.cells #[.int .i64 n0, .int .i64 n1, .int .i64 n2, .int .i64 n3] 22) (r := w.heap.size) (by omega)).trans gl4
  rw [hw5] at gs5 gl5
  have hW5 : Below w.heap.size w w5 := by rw [← hw5]; exact hW4.alloc (by omega) _
  have z5 : w4.heap.size + 1 ≤ w5.heap.size := by rw [← hw5]; simp
  clear hw5 gs gl4 hW4
  obtain ⟨cm0, cm1, cm2, cm3⟩ := (cells4_of gm).1
  obtain ⟨cs0, cs1, cs2, cs3⟩ := (cells4_of gs5).1
  obtain ⟨cl0, cl1, cl2, cl3⟩ := (cells4_of gl5).1
  have hneq := fun w => run_neq22 (rowI_of n0 n1 n2 n3) (rowI_of n0 n1 n2 n3) w
  rw [alike4_true (fun i _ => rfl)] at hneq
  have rx0' : Rep 0 x0 (n0 + n1 + n2 + n3) ∧ Rep 0 y0 0 := by
    have e := psum_zero n0 n1 n2 n3
    have r0 : Rep 0 x0 (psum (q4 n0 n1 n2 n3) 0 4).1 ∧ Rep 0 y0 (psum (q4 n0 n1 n2 n3) 0 4).2 := rx0
    rw [e] at r0; exact r0
  have hsum := neq_false rx0'.1 (rep_ofInt (n0 + n1 + n2 + n3) (by omega))
  have him := neq_false rx0'.2 rep_zero
  have hcj : ∀ w, (binOp .neq 23 (.complex .f64 x1 y1) (.complex .f64 x3 (Op.negFloat .f64 y3))).run Try.prog w = .ok (.bool false) w := fun w => by
    have r1 : Rep 0 x1 (psum (q4 n0 n1 n2 n3) 1 4).1 ∧ Rep 0 y1 (psum (q4 n0 n1 n2 n3) 1 4).2 := rx1
    rw [psum_three] at r1
    rw [run_neq_complex, rep_eq r1.1 rx3.1, rep_eq r1.2 (rep_neg rx3.2)]
    simp
  have GS := Lib.hid gs5
  have HX := Lib.hid hx
  have HW5 := Lib.hid hW5
  clear rx0 rx1 rx2 rx3 rx0' gm gl5 gs5 hx hW5
  go_upto_if 66 with fail
  clear cm0 cm1 cm2 cm3 cs0 cs1 cs2 cs3 cl0 cl1 cl2 cl3 hsum him hcj hneq
  go_wp2_with fail
  refine (within_any by' _).mono ?_
  rintro e w' ⟨rfl, rfl⟩
  have hm0 : 0 ≤ by' % 51 := by omega
  have hm1 : by' % 51 ≤ 50 := by omega
  generalize by' % 51 = m at *
  have hla := ha.2.1
  have ha5 := ha.below HW5.out
  go_upto_block 0 with fail
  go_cut [10, 11, 12] from 69 (fun v10 v11 _ wx => ∃ l : List Int, l.length ≤ 60 ∧ Pair w5.heap.size l.length l.length l (l.map (· + m)) v11 v10 wx ∧ Below w5.heap.size w5 wx)
  case first =>
    go_wp2_with fail
    go_loopw [10, 11, 12] (fun v10 v11 v12 wr => ∃ i : Nat, i ≤ la ∧ i ≤ 60 ∧ v12 = .int .i64 i ∧ Pair w5.heap.size i i ((zs.take i).map fun z => z.tmod 1099511627776) (((zs.take i).map fun z => z.tmod 1099511627776).map (· + m)) v11 v10 wr ∧ Below w5.heap.size w5 wr) (fun _ _ v12 _ => la - (intOf v12).toNat)
    case atStart => exact ⟨0, by omega, by omega, rfl, ⟨⟨rfl, .inl ⟨rfl, rfl⟩⟩, ⟨rfl, .inl ⟨rfl, rfl⟩⟩, fun g h _ => by cases h⟩, Below.refl _ _⟩
    case round =>
      obtain ⟨i, hi, hi60, rfl, hp, hbel⟩ := hrel
      by_cases hlt : i < la
      · by_cases h60 : i < 60
        · have hz : zs.length = la := ha5.1
          obtain ⟨b0', off0, rfl, hcell⟩ : ∃ b0 off0, a = some ⟨b0, off0, none⟩ ∧ (∀ i, i < la → b0 < w5.heap.size ∧ w5.cell? ⟨b0, off0 + i, none⟩ = some (.int .i64 (zs.getD i 0))) := by
            rcases ha5.2.2 with ⟨_, h, _⟩ | ⟨h, _⟩ | h
            · omega
            · omega
            · exact h
          have hb0 := (hcell i hlt).1
          have hc0 := (hcell i hlt).2
          obtain ⟨z, hzz⟩ : ∃ z, zs.getD i 0 = z := ⟨_, rfl⟩
          have hts := take_snoc' zs i (by omega)
          rw [hzz] at hc0 hts
          have tb := tmod40 z
          have hcw : wr.cell? ⟨b0', off0 + i, none⟩ = some (.int .i64 z) := by rw [hbel.cell (p := ⟨b0', off0 + i, none⟩) hb0]; exact hc0
          have hbw : b0' < wr.heap.size := Nat.lt_of_lt_of_le hb0 hbel.size
          have I0 : (0 : Int) ≤ (i : Int) := by omega
          have I1 : (i : Int) < (la : Int) := by omega
          have I2 : (i : Int) < 60 := by omega
          have HTS := Lib.hid hts
          have hbs := hbel.size
          clear hcell hzz hts hc0
          go_wp2_with (first | (at_builtin; refine append_one rfl (.tmp 79) (.tmp 85) rfl w5.heap.size i i _ _ _ _ rfl (hp.alloc _) wr.heap.size (z.tmod 1099511627776) rfl (by simp) (by omega) (by simp; omega) ?_; intro v' w' hp' hb'; have hcw' : w'.cell? ⟨b0', off0 + i, none⟩ = some (.int .i64 z) := by rw [((hbel.alloc hbs _).trans hb').cell (p := ⟨b0', off0 + i, none⟩) hb0, ← hbel.cell (p := ⟨b0', off0 + i, none⟩) hb0]; exact hcw) | (at_builtin; refine append_one rfl (.tmp 87) (.tmp 95) rfl w5.heap.size i (i + 1) _ _ _ _ rfl (hp'.swap.alloc _) w'.heap.size (z.tmod 1099511627776 + m) rfl (by simp) (by omega) (by have := hb'.size; simp at this ⊢; omega) ?_; intro v'' w'' hp'' hb''))
          go_roundw
          case rel => exact ⟨i + 1, by omega, by omega, by go_num, by
            rw [HTS.out]
            simp only [List.map_append, List.map_cons, List.map_nil]
            exact hp''.swap, (((hbel.alloc hbs _).trans hb').alloc (by have := hb'.size; simp at this; omega) _).trans hb''⟩
          case measure => simp [intOf]; omega
        · have hno : ¬ ((i : Int) < 60) := by omega
          have I1 : (i : Int) < (la : Int) := by omega
          have hlen : ((zs.take i).map fun z => z.tmod 1099511627776).length = i := by simp; rw [ha5.1]; omega
          have HP := Lib.hid hp
          clear hp
          go_wp2
          go_meet
          case rel => exact ⟨_, by rw [hlen]; omega, by rw [hlen]; exact HP.out, hbel⟩
      · have hlen : ((zs.take i).map fun z => z.tmod 1099511627776).length = i := by simp; rw [ha5.1]; omega
        have HP := Lib.hid hp
        clear hp
        go_wp2
        go_meet
        case rel => exact ⟨_, by rw [hlen]; omega, by rw [hlen]; exact HP.out, hbel⟩
  case rest =>
    obtain ⟨l, hl60, hp, hbel⟩ := hcut
    obtain ⟨a11, c11, rfl, hi11⟩ := ints_of_owns hp.1
    obtain ⟨a10, c10, rfl, hi10⟩ := ints_of_owns hp.2.1
    have hW6 : Below w.heap.size w wc := HW5.out.trans (hbel.mono HW5.out.size)
    have gs6 := (hbel.block w3.heap.size (by omega)).trans GS.out
    have zc := hbel.size
    clear hp hbel ha5 ha
    have bc : ∀ r, -17592186044416 ≤ cnt l r ∧ cnt l r ≤ 17592186044416 := fun r => by have := cnt_bd l r; omega
    have bc2 : ∀ r, -17592186044416 ≤ cnt (l.map (· + m)) r ∧ cnt (l.map (· + m)) r ≤ 17592186044416 := fun r => by
      have := cnt_bd (l.map (· + m)) r
      rw [List.length_map] at this
      omega
    have hqA := q4_in _ _ _ _ 17592186044416 (bc 0) (bc 1) (bc 2) (bc 3) (by omega)
    have hqB := q4_in _ _ _ _ 17592186044416 (bc2 0) (bc2 1) (bc2 2) (bc2 3) (by omega)
    clear bc bc2
    go_wp2_with fail
    refine (fold_any a11 _ c11 l _ hi11 (by unfold maxLen; omega)).mono ?_
    rintro e w6 ⟨rfl, hb6⟩
    go_wp2_with fail
    refine (spectrum_any _ _ _ _ _ hqA).mono ?_
    rintro e w7 ⟨⟨cA, rfl, hrA⟩, hb7⟩
    obtain ⟨f0, h0, f1, h1, f2, h2, f3, h3, rfl, -, -, -, -⟩ := hrA.form
    have hb67 : Below wc.heap.size wc w7 := hb6.trans (hb7.mono hb6.size)
    have hi10' := hi10.below hb67
    have gs7 := (hb67.block w3.heap.size (by omega)).trans gs6
    have hW7 := hW6.trans (hb67.mono hW6.size)
    have z7 := hb67.size
    clear hb6 hb7 hb67 hi10 gs6 hi11
    go_upto_region 15 with fail
    generalize hw8 : w7.alloc (.cells #[.complex .f64 f0 h0, .complex .f64 f1 h1, .complex .f64 f2 h2, .complex .f64 f3 h3] 24) = w8
    have gA : w8.heap[w7.heap.size]? = some (.cells #[.complex .f64 f0 h0, .complex .f64 f1 h1, .complex .f64 f2 h2, .complex .f64 f3 h3] 24 (0, 0)) := by rw [← hw8]; exact heap_alloc_new _ _
    have h78 : Below w7.heap.size w7 w8 := by rw [← hw8]; exact (Below.refl _ _).alloc (Nat.le_refl _) _
    have gs8 := (h78.block w3.heap.size (by omega)).trans gs7
    have hi8 := hi10'.below h78
    have hW8 := hW7.trans (h78.mono hW7.size)
    have z8 := h78.size
    have s3 : w3.heap.size < w8.heap.size := by omega
    have s7 : w7.heap.size < w8.heap.size := by rw [← hw8]; simp
    have hch : Below w8.heap.size w8 w8.drew := (Below.refl _ _).drew
    clear hw8 h78 gs7 hi10' hW7 zc z7 hW6
    obtain ⟨⟨ca0, ca1, ca2, ca3⟩, -⟩ := cells4_of gA
    have GS8 := Lib.hid gs8
    have HLE := Lib.hid (later_eq l m)
    have HW8 := Lib.hid hW8
    have HI8 := Lib.hid hi8
    have HRA := Lib.hid hrA
    clear gA gs8 hW8 hi8 hrA hmo hq HW5 GS
    generalize w3.heap.size = g3 at *
    generalize w7.heap.size = g7 at *
    have hrX := HX.out
    have hwm : IntKind.i64.wrap (-m) = -m := IntWalk.i64_in _ (by omega)
    go_region_with (first
      | (go_at_call_of 15 (Value.int .i64 4); refine (turn_any hrX _ _).mono ?_; rintro e w' ⟨⟨ds, rfl, hds2⟩, hb⟩; replace hch := hch.trans (hb.mono hch.size); clear hb; obtain ⟨⟨cs0, cs1, cs2, cs3⟩, -⟩ := cells4_of ((hch.block g3 s3).trans GS8.out); have heq2 := fun w => run_eql24 hds2 hrX w; rw [alike4_true (fun k hk => turn_none _ _ k)] at heq2)
      | (go_at_call_of 15 (Value.agg #[.complex .f64 f0 h0, .complex .f64 f1 h1, .complex .f64 f2 h2, .complex .f64 f3 h3]); refine (turn_any HRA.out _ _).mono ?_; rintro e w' ⟨⟨ds1, rfl, hds1⟩, hb⟩; replace hch := hch.trans (hb.mono hch.size); clear hb)
      | (go_at_call_of 15 (Value.agg #[.complex .f64 x0 y0, .complex .f64 x1 y1, .complex .f64 x2 y2, .complex .f64 x3 y3]); refine (turn_any hrX _ _).mono ?_; rintro e w' ⟨⟨ds3, rfl, hds3⟩, hb⟩; replace hch := hch.trans (hb.mono hch.size); clear hb; obtain ⟨⟨cs0, cs1, cs2, cs3⟩, -⟩ := cells4_of ((hch.block g3 s3).trans GS8.out))
      | (go_at_call_of 15 (Value.int .i64 (-m)); refine (turn_any hds3 _ _).mono ?_; rintro e w' ⟨⟨ds4, rfl, hds4⟩, hb⟩; replace hch := hch.trans (hb.mono hch.size); clear hb; obtain ⟨⟨cs0, cs1, cs2, cs3⟩, -⟩ := cells4_of ((hch.block g3 s3).trans GS8.out); have heq3 := fun w => run_eql24 hds4 hrX w; rw [alike4_true (fun k hk => turn_back _ _ k hk m)] at heq3)
      | (go_at_call 10; refine (fold_any _ _ _ _ _ (HI8.out.below hch) (by unfold maxLen; omega)).mono ?_; rintro e w' ⟨rfl, hb⟩; replace hch := hch.trans (hb.mono hch.size); clear hb)
      | (go_at_call 8; refine (spectrum_any _ _ _ _ _ hqB).mono ?_; rintro e w' ⟨⟨cB, rfl, hrB⟩, hb⟩; replace hch := hch.trans (hb.mono hch.size); clear hb; obtain ⟨⟨cs0, cs1, cs2, cs3⟩, -⟩ := cells4_of ((hch.block g3 s3).trans GS8.out); have heq1 := fun w => run_eql24 hds1 hrB w; rw [alike4_true HLE.out] at heq1)
      | (go_at_call 9; refine (known_any _).mono ?_; rintro e w' ⟨rfl, hb⟩; replace hch := hch.trans (hb.mono hch.size); clear hb))
    all_goals
      go_wp2
      go_ret
      exact ⟨rfl, HW8.out.trans (hch.mono HW8.out.size)⟩

end Go.Proofs.Ytfbifmgaehgcmaa
