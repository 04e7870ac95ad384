/- Walks: Decode of infra and of the reference: both answer the bytes read as UTF-8 and written again. -/
import Derived.Test.YtcnjbbgecopjmaaDoorRune
import Derived.Test.YtcnjbbgecopjmaaDoorLow
import Derived.Shelf.Spec.DecodeRune
import Derived.Shelf.Utf8.AppendRunePlain
import Derived.Lib.LaidU8T
import Derived.PinnedBridge
import Derived.Lib.OthersKept
import Derived.WalkSmall
namespace Go.Proofs.YtcnjbbgecopjmaaDoor.Own
open Go.RowKit Go.Shelf Go.Proofs.YtcnjbbgecopjmaaDoor.PX Go.Proofs.YtcnjbbgecopjmaaDoor.Pl Go.Proofs.YtcnjbbgecopjmaaDoorW.PrintWords Go.Proofs.YtcnjbbgecopjmaaDoorW.PrintLast Go.Proofs.YtcnjbbgecopjmaaDoorW.PrintMore

def ren7 : Go.Shelf.Ren := ⟨fun | 32 => 25 | 49 => 38 | n => n, fun | 25 => 45 | 30 => 22 | 33 => 39 | 66 => 58 | 68 => 60 | 69 => 61 | n => n, fun | 2 => 0 | 3 => 1 | n => n⟩

theorem lays7 : Lays7.n32 Tryd.prog ren7 := {
  mixed := by kernel_rfl
  f32 := Tryd.func25.trans (congrArg some (by kernel_rfl))
  f49 := Tryd.func38.trans (congrArg some (by kernel_rfl))
  t0 := Tryd.underlying0
  a0 := Tryd.isAgg0
  z0 := Tryd.sizeOf0
  v0 := Tryd.zeroValue0
  i0 := by kernel_rfl
  t3 := Tryd.underlying3
  a3 := Tryd.isAgg3
  z3 := Tryd.sizeOf3
  v3 := Tryd.zeroValue3
  i3 := by kernel_rfl
  t4 := Tryd.underlying4
  a4 := Tryd.isAgg4
  z4 := Tryd.sizeOf4
  v4 := Tryd.zeroValue4
  i4 := by kernel_rfl
  t5 := Tryd.underlying5
  a5 := Tryd.isAgg5
  z5 := Tryd.sizeOf5
  v5 := Tryd.zeroValue5
  i5 := by kernel_rfl
  t21 := Tryd.underlying21
  a21 := Tryd.isAgg21
  z21 := Tryd.sizeOf21
  v21 := Tryd.zeroValue21
  i21 := by kernel_rfl
  t25 := Tryd.underlying45
  a25 := Tryd.isAgg45
  z25 := Tryd.sizeOf45
  v25 := Tryd.zeroValue45
  i25 := by kernel_rfl
  t30 := Tryd.underlying22
  a30 := Tryd.isAgg22
  z30 := Tryd.sizeOf22
  v30 := Tryd.zeroValue22
  i30 := by kernel_rfl
  t33 := Tryd.underlying39
  a33 := Tryd.isAgg39
  z33 := Tryd.sizeOf39
  v33 := Tryd.zeroValue39
  i33 := by kernel_rfl
  t66 := Tryd.underlying58
  a66 := Tryd.isAgg58
  z66 := Tryd.sizeOf58
  t68 := Tryd.underlying60
  a68 := Tryd.isAgg60
  z68 := Tryd.sizeOf60
  v68 := Tryd.zeroValue60
  i68 := by kernel_rfl
  t69 := Tryd.underlying61
  a69 := Tryd.isAgg61
  z69 := Tryd.sizeOf61
  v69 := Tryd.zeroValue61
  i69 := by kernel_rfl
  g2 := by kernel_rfl
  g3 := by kernel_rfl }

/-- The two tables of unicode/utf8. -/
def Tabs (w : World) : Prop := Lib.Utf8Tabs 0 1 w

theorem Tabs.below {B : Nat} {w w' : World} (h : Tabs w) (hb : Below B w w') (h0 : 1 < B) : Tabs w' := by
  obtain ⟨h1, h2⟩ := h
  refine ⟨fun c hc => ?_, fun i hi => ⟨?_, ?_⟩⟩
  · rw [hb.cell (by show 0 < B; omega)]; exact h1 c hc
  · rw [hb.cell (by show 1 < B; omega)]; exact (h2 i hi).1
  · rw [hb.cell (by show 1 < B; omega)]; exact (h2 i hi).2

theorem Tabs.two {w : World} (h : Tabs w) : 1 < w.heap.size := by
  have := (h.2 0 (by decide)).1
  rcases Nat.lt_or_ge 1 w.heap.size with hh | hh
  · exact hh
  · simp [World.cell?, Array.getElem?_eq_none hh] at this

def renU : Go.Shelf.Ren := ⟨fun n => n, fun | 119 => 58 | 138 => 60 | 139 => 61 | n => n, fun | 3 => 0 | 4 => 1 | n => n⟩

theorem tabs_of_laid {W : World} {l : List (String × DataW Unit)} (h : laidMet Tryd.prog l W) (h1 : ("unicode/utf8.first", Pinned.utf8First) ∈ l) (h2 : ("unicode/utf8.acceptRanges", Lib.acceptData) ∈ l) : Tabs W := by
  have hf := Lib.laidMet.reads h h1
  have ha := Lib.laidMet.reads h h2
  rw [Pinned.utf8First_eq] at hf
  exact utf8Tabs_of_readsT (P := Tryd.prog) (ρ := renU) { t5 := Tryd.underlying5, t119 := Tryd.underlying58, t138 := Tryd.underlying60, t139 := Tryd.underlying61 }
    { n3 := by kernel_rfl, n4 := by kernel_rfl, y3 := by kernel_rfl, y4 := by kernel_rfl, c5 := by kernel_rfl, c119 := by kernel_rfl, c138 := by kernel_rfl } hf ha

/-! ### a slice of bytes -/

/-- The cells of a slice of bytes, by their places. -/
theorem C_places {w : World} {A : Option Addr} {n : Nat} {xs : List Int} (h : (Kd.int .u8).C w A n xs) (hn : 0 < n) : ∃ b o, A = some ⟨b, o, none⟩ ∧ ∀ j, j < n → w.cell? ⟨b, o + j, none⟩ = some (.int .u8 (xs.getD j 0)) := by
  obtain ⟨hl, _, h2⟩ := Kd.reads_of_C (d := (0 : Int)) (h1 := fun _ => rfl) h
  obtain ⟨⟨b, o, sp⟩, rfl, hc⟩ := h2 hn
  have h0 := hc 0 hn
  have hsp : sp = none := by
    rcases sp with _ | sp
    · rfl
    · simp only [World.cell?, Addr.add, if_true] at h0
      split at h0 <;> simp at h0
  subst hsp
  refine ⟨b, o, rfl, fun j hj => ?_⟩
  have h1 := hc j hj
  by_cases hj0 : j = 0
  · subst hj0
    simpa [Addr.add] using h1
  · simpa [Addr.add, hj0] using h1

theorem decodeGo_dZ (s : ByteArray) (h : 0 < s.size) : Lib.decodeGo s = dZ (bytesOf s) := by
  unfold Lib.decodeGo
  rw [if_neg (by omega), decode_dZ s 0 (by omega), List.drop_zero]

theorem decodeRune_any (A : Option Addr) (n c : Nat) (xs : List Int) (w : World) (hT : Tabs w) (hC : (Kd.int .u8).C w A n xs) (hn : 0 < n) (hr : ∀ x ∈ xs, 0 ≤ x ∧ x < 256) :
    Calls Tryd.prog 25 #[.slice A n c] w fun e w' => e = .returned (.tuple #[.int .i32 (dZ xs).1, .int .i64 (dZ xs).2]) ∧ Below w.heap.size w w' := by
  have hl : xs.length = n := hC.1
  obtain ⟨b, o, rfl, hc⟩ := C_places hC hn
  have hb := bytesOf_strOfNums xs hr
  have hs : (strOfNums xs).size = n := by rw [strOfNums_size, hl]
  have h := Any7.utf8_DecodeRune lays7 (strOfNums xs) b o c w hT (fun j hj => by
    rw [hc j (by omega)]
    have := get_bytes (strOfNums xs) 0 j
    rw [Nat.zero_add, List.drop_zero, hb] at this
    have h2 : 0 ≤ xs.getD j 0 := by
      rw [List.getD_eq_getElem?_getD, List.getElem?_eq_getElem (by omega)]
      exact (hr _ (List.getElem_mem _)).1
    rw [this]
    simp only [Option.some.injEq, Value.int.injEq, true_and]
    omega)
  rw [hs, decodeGo_dZ _ (by omega), hb] at h
  exact h

theorem own_below {w w' : World} {base n : Nat} {e : TypeId} {size : Nat} {v : Value} {xs : List Value} (h : w.ownsRow base e size v n xs) (hb : Below w.heap.size w w') : w'.ownsRow base e size v n xs :=
  own_move h (fun k hk => hb.block k (own_lt h k hk))

theorem cells_nums (r : Int) : Lib.runeCells r = nums .u8 (Lib.encodeRuneZ r) := rfl

theorem appendRune_any (B : Nat) (v : Value) (out : List Int) (r : Int) (hr : vr r) (w : World) (hown : w.ownsRow B 5 1 v out.length (nums .u8 out)) (hlen : out.length + 4 ≤ 140737488355328) (hB : B ≤ w.heap.size) :
    Calls Tryd.prog 26 #[v, .int .i32 r] w fun e w' => ∃ v', e = .returned v' ∧ w'.ownsRow B 5 1 v' (out ++ Lib.encodeRuneZ r).length (nums .u8 (out ++ Lib.encodeRuneZ r)) ∧ Below B w w' := by
  unfold vr at hr
  refine (Tryd.utf8_AppendRune_plain B v out.length _ r (by omega) (by omega) w hown hlen hB).mono fun e w' ⟨v', he, ho, o, hg⟩ => ?_
  refine ⟨v', he, ?_, ?_⟩
  · rw [cells_nums] at ho
    have e1 : out.length + (nums .u8 (Lib.encodeRuneZ r)).length = (out ++ Lib.encodeRuneZ r).length := by simp [nums]
    have e2 : nums .u8 out ++ nums .u8 (Lib.encodeRuneZ r) = nums .u8 (out ++ Lib.encodeRuneZ r) := by simp [nums]
    rw [e1, e2] at ho
    exact ho
  · have h1 : Below B w (w.alloc o) := (Below.refl _ _).alloc hB _
    exact Below.grown h1 hg (by simp; omega) (fun j hj => by
      rcases hown.2 with ⟨rfl, _⟩ | ⟨g, cap, cur, rfl, hgb, _⟩
      · simp [Value.ownBlock] at hj
      · simp [Value.ownBlock] at hj
        omega)

def slN : Value → Nat
  | .slice _ n _ => n
  | _ => 0

set_option maxHeartbeats 4000000 in
set_option maxRecDepth 100000 in
theorem decode_any (A : Option Addr) (n c : Nat) (xs : List Int) (w : World) (hT : Tabs w) (hC : (Kd.int .u8).C w A n xs) (hn : n ≤ 1000000) (hr : ∀ x ∈ xs, 0 ≤ x ∧ x < 256) :
    Calls Tryd.prog 8 #[.slice A n c] w fun e w' => e = .returned (.string (strOfNums (decT (bom xs)))) ∧ Below w.heap.size w w' := by
  have hl : xs.length = n := hC.1
  have hcv0 := Kd.C_string (P := Tryd.prog) (c := c) Tryd.underlying22 Tryd.underlying5 Tryd.underlying9 hC
  obtain ⟨s, hs⟩ : ∃ s, s = strOfNums xs := ⟨_, rfl⟩
  have hsb : bytesOf s = xs := by rw [hs, bytesOf_strOfNums _ hr]
  have hss : s.size ≤ 1000000 := by rw [← bytesOf_length, hsb]; omega
  rw [← hs] at hcv0
  have htr := trim_some s (by omega)
  rw [hsb] at htr
  have hbr := bom_range xs hr
  have hbl := bom_len xs
  obtain ⟨t, ht⟩ : ∃ t, t = strOfNums (bom xs) := ⟨_, rfl⟩
  have htb : bytesOf t = bom xs := by rw [ht, bytesOf_strOfNums _ hbr]
  have hts : t.size ≤ 1000000 := by rw [← bytesOf_length, htb]; omega
  rw [← ht] at htr
  generalize bom xs = ys at *
  have hys : ys.length = t.size := by rw [← htb, bytesOf_length]
  have HTR := Lib.hid htr
  have HTB := Lib.hid htb
  have HYS := Lib.hid hys
  have HL := Lib.hid hl
  clear htr htb ht hys hs hsb hC hr hl
  go_enter Tryd.func8, Tryd.ntmps8
  go_wp2_with fail
  refine (strings_TrimPrefix.calls s _ t _ HTR.out).mono ?_
  rintro e w1 ⟨rfl, hd1⟩
  have hb1 := hd1.below
  have hT1 := hT.below hb1 hT.two
  clear hd1 hcv0
  have hcv := Lib.run_convert_string_bytes (P := Tryd.prog) w1 9 22 5 t Tryd.underlying9 Tryd.underlying22 Tryd.underlying5
  have hB := Bytesy.made w1 t
  have hb2 := below_bytes (Below.refl w1.heap.size w1) t
  rw [HTB.out] at hB
  generalize grownCap w1 t.size 0 5 = cap at *
  generalize Lib.bytesWorld w1 5 t = w2 at *
  have hT2 := hT1.below hb2 hT1.two
  have hbb := below_step hb1 hb2
  have hCb := hB.C (by omega)
  have hcap : t.size ≤ cap := hB.choose_spec.2.2.1
  clear hB
  go_wp2_with fail
  clear hcv
  go_loopw [0, 3, 4, 5] (fun v0 v3 _ _ wr => ∃ (A' : Option Addr) (m c' : Nat) (zs out : List Int), v0 = .slice A' m c' ∧ (Kd.int .u8).C w2 A' m zs ∧ m ≤ c' ∧ m ≤ t.size ∧ (∀ x ∈ zs, 0 ≤ x ∧ x < 256) ∧
      wr.ownsRow w2.heap.size 5 1 v3 out.length (nums .u8 out) ∧ out.length + 4 * m ≤ 4 * t.size ∧ out ++ decT zs = decT ys ∧ Below w2.heap.size w2 wr) (fun v0 _ _ _ _ => slN v0)
  case atStart => exact ⟨_, _, _, ys, [], rfl, hCb, hcap, Nat.le_refl _, hbr, own_nil _ _ _ _, by simp, rfl, Below.refl _ _⟩
  case round =>
    obtain ⟨A', m, c', zs, out, rfl, hCz, hmc, hmt, hrz, hown, hol, he, hbr2⟩ := hrel
    have hzl : zs.length = m := hCz.1
    by_cases hm0 : m = 0
    · subst hm0
      have hz0 : zs = [] := List.length_eq_zero_iff.mp hzl
      subst hz0
      rw [decT_nil, List.append_nil] at he
      subst he
      have hcs := own_string (P := Tryd.prog) Tryd.underlying22 Tryd.underlying5 Tryd.underlying9 hown
      have hbe := below_step hbb hbr2
      clear hown hCz hzl
      go_wp2_with fail
      go_ret
      exact ⟨rfl, hbe⟩
    · have hpos : decide (0 < (m : Int)) = true := decide_eq_true (by omega)
      have hpos' : decide (0 < m) = true := decide_eq_true (by omega)
      have hTr := hT2.below hbr2 hT2.two
      have hne : zs ≠ [] := by intro h; rw [h] at hzl; simp at hzl; omega
      have hst := decT_step zs hne
      have hw1 := dZ_pos zs
      have hw2 := dZ_le zs hne
      have hv := dZ_valid zs hrz
      have hdr := decodeRune_any A' m c' zs wr hTr (Kd.C_below hCz hbr2) (by omega) hrz
      generalize hR : (dZ zs).1 = R at *
      generalize hK : (dZ zs).2 = K at *
      rw [hst] at he
      have HE := Lib.hid he
      have HZL := Lib.hid hzl
      have HDR := Lib.hid hdr
      clear hst hR hK he hdr
      go_wp2_with fail
      refine HDR.out.mono ?_
      rintro e w3 ⟨rfl, hb3⟩
      have hown3 := own_below hown hb3
      have hb23 := below_then hbr2 hbr2.size hb3
      go_wp2_with fail
      refine (appendRune_any w2.heap.size _ out R hv w3 hown3 (by omega) hb23.size).mono ?_
      rintro e w4 ⟨v', rfl, hown4, hb4⟩
      have hb24 : Below w2.heap.size w2 w4 := hb23.trans hb4
      obtain ⟨i0, hi0, _, hsz, _⟩ := info_parts info5
      have hcut := cut_from (P := Tryd.prog) 22 5 .i64 Tryd.underlying22 hi0 1 hsz A' m c' (K : Int) (by omega) (by omega)
      rw [Int.toNat_natCast] at hcut
      have hdrop := Kd.C_drop (m := K) (c := c') (by rw [HZL.out]; exact hCz) (by omega) (by rw [HZL.out]; exact hmc)
      rw [List.length_drop, HZL.out, show K * (Kd.int .u8).sz = K * 1 from rfl] at hdrop
      clear hi0 hsz hown hown3 hCz
      go_wp2_with fail
      have h4 := (Lib.encodeRuneZ_length (R : Int)).2
      have hzm := HZL.out
      rw [Nat.mul_one] at hdrop
      refine ⟨⟨_, _, _, zs.drop K, out ++ Lib.encodeRuneZ R, rfl, hdrop, by omega, by omega, drop_range hrz K, hown4, ?_, ?_, hb24⟩, ?_⟩
      · rw [List.length_append]; omega
      · rw [List.append_assoc]; exact HE.out
      · show m - K < m; omega

set_option maxHeartbeats 4000000 in
set_option maxRecDepth 100000 in
theorem rdecode_any (A : Option Addr) (n c : Nat) (xs : List Int) (w : World) (hC : (Kd.int .u8).C w A n xs) (hn : n ≤ 1000000) (hr : ∀ x ∈ xs, 0 ≤ x ∧ x < 256) :
    Calls Tryd.prog 21 #[.slice A n c] w fun e w' => e = .returned (.string (strOfNums (decT (bom xs)))) ∧ Below w.heap.size w w' := by
  have hl : xs.length = n := hC.1
  have hcv0 := Kd.C_string (P := Tryd.prog) (c := c) Tryd.underlying22 Tryd.underlying5 Tryd.underlying9 hC
  obtain ⟨s, hs⟩ : ∃ s, s = strOfNums xs := ⟨_, rfl⟩
  have hsb : bytesOf s = xs := by rw [hs, bytesOf_strOfNums _ hr]
  have hss : s.size ≤ 1000000 := by rw [← bytesOf_length, hsb]; omega
  rw [← hs] at hcv0
  have hcutb : bytesOf (s.extract 0 3) = xs.take 3 := by rw [bytesOf_extract, List.drop_zero, hsb]
  have hdropb : bytesOf (s.extract 3 s.size) = xs.drop 3 := by rw [bytesOf_extract, List.take_of_length_le (by rw [bytesOf_length]; exact Nat.le_refl _), hsb]
  have htest : ((s.extract 0 3).toList == ([239, 187, 191] : List UInt8)) = decide (xs.take 3 = [239, 187, 191]) := by
    rw [Bool.eq_iff_iff, beq_iff_eq, decide_eq_true_eq, ← hcutb, toList_data]
    constructor
    · intro h
      unfold bytesOf
      rw [h]
      rfl
    · intro h
      have h2 : bytesOf (s.extract 0 3) = bytesOf (⟨#[239, 187, 191]⟩ : ByteArray) := h
      rw [bytesOf_inj h2]
  have hc3 : ∀ W : World, 3 ≤ s.size → (Instr.slice 9 (.string s) none (some (.int .i64 3)) none).run Tryd.prog W = .ok (.string (s.extract 0 3)) W := fun W h => run_slice_string_h W 9 s Tryd.underlying9 .i64 3 (by decide) (by omega)
  have hd3 : ∀ W : World, 3 ≤ s.size → (Instr.slice 9 (.string s) (some (.int .i64 3)) none none).run Tryd.prog W = .ok (.string (s.extract 3 s.size)) W := fun W h => run_slice_string_l W 9 s Tryd.underlying9 .i64 3 (by decide) (by omega)
  have hbom3 : xs.take 3 = [239, 187, 191] → 3 ≤ s.size := fun h => by
    have := congrArg List.length h
    rw [List.length_take] at this
    simp at this
    rw [← bytesOf_length, hsb]
    omega
  have HS := Lib.hid hsb
  have HT := Lib.hid htest
  have HD := Lib.hid hdropb
  have H3 := Lib.hid hc3
  have H3D := Lib.hid hd3
  have HB3 := Lib.hid hbom3
  clear hcutb hdropb htest hsb hs hC hl hc3 hd3 hbom3
  go_enter Tryd.func21, Tryd.ntmps21
  go_upto_region 2 with fail
  go_cut [16] (fun v wx => v = .bool (decide (xs.take 3 = [239, 187, 191])) ∧ wx = w)
  case first =>
    clear hcv0
    by_cases hge : 3 ≤ s.size
    · have hcut := H3.out w hge
      have hge1 : decide (3 ≤ (s.size : Int)) = true := decide_eq_true (by omega)
      have hge2 : decide ((s.size : Int) < 3) = false := decide_eq_false (by omega)
      have hge3 : decide (3 ≤ s.size) = true := decide_eq_true hge
      go_wp2_with fail
      all_goals
        go_meet
        case rel => exact ⟨by rw [← HT.out], rfl⟩
    · have hge1 : decide (3 ≤ (s.size : Int)) = false := decide_eq_false (by omega)
      have hge3 : decide (3 ≤ s.size) = false := decide_eq_false hge
      have hfal : decide (xs.take 3 = [239, 187, 191]) = false := decide_eq_false (fun h => hge (HB3.out h))
      have HF := Lib.hid hfal
      clear hfal
      go_wp2_with fail
      all_goals
        go_meet
        case rel => exact ⟨by rw [HF.out], rfl⟩
  case rest =>
    obtain ⟨rfl, rfl⟩ := hcut
    clear hcv0
    have fin : ∀ t : ByteArray, bytesOf t = bom xs → t.size ≤ 1000000 := fun t h => by
      rw [← bytesOf_length, h]
      have h1 := bom_len xs
      have h2 : xs.length = s.size := by rw [← HS.out, bytesOf_length]
      omega
    have FIN := Lib.hid fin
    clear fin
    by_cases hbm : xs.take 3 = [239, 187, 191]
    all_goals first
      | (have hdec : decide (xs.take 3 = [239, 187, 191]) = true := decide_eq_true hbm
         rw [hdec]
         have hcut := H3D.out wc (HB3.out hbm)
         have ht : bytesOf (s.extract 3 s.size) = bom xs := by unfold bom; rw [if_pos hbm]; exact HD.out
         have HTB := Lib.hid ht
         have HDEC := Lib.hid hdec
         clear ht hdec hbm
         go_upto_region 4 with fail
         clear hcut
         generalize s.extract 3 s.size = t at *)
      | (have hdec : decide (xs.take 3 = [239, 187, 191]) = false := decide_eq_false hbm
         rw [hdec]
         have ht : bytesOf s = bom xs := by unfold bom; rw [if_neg hbm]; exact HS.out
         have HTB := Lib.hid ht
         have HDEC := Lib.hid hdec
         clear ht hdec hbm
         go_upto_region 4 with fail
         obtain ⟨t, hts⟩ : ∃ t, t = s := ⟨s, rfl⟩
         rw [← hts] at HTB
         rw [← hts]
         clear hts)
    all_goals
      have hts := FIN.out t HTB.out
      go_wp2_with fail
      clear HS HT HD H3 H3D HB3 FIN HDEC
      go_loopw [4] (fun v4 wr => ∃ (pos : Nat) (S : ByteArray), v4 = .string S ∧ pos ≤ t.size ∧ S.size ≤ 4 * pos ∧ bytesOf S ++ decT ((bytesOf t).drop pos) = decT (bytesOf t) ∧ wr = wc.iter t pos) (fun _ wr => t.size - wr.iterPos wc.heap.size)
      case atStart => exact ⟨0, ⟨#[]⟩, rfl, Nat.zero_le _, by simp [ByteArray.size], by rw [List.drop_zero]; rfl, rfl⟩
      case round =>
        obtain ⟨pos, S, rfl, hp, hS, he, rfl⟩ := hrel
        by_cases hlt : pos < t.size
        · have hnx := fun ty => run_next_any (P := Tryd.prog) wc t pos ty hlt
          have hne : (bytesOf t).drop pos ≠ [] := by
            intro h
            have h2 := congrArg List.length h
            rw [List.length_drop, bytesOf_length, List.length_nil] at h2
            omega
          have hst := decT_step _ hne
          have hk1 := dZ_pos ((bytesOf t).drop pos)
          have hk2 := dZ_le _ hne
          rw [List.length_drop, bytesOf_length] at hk2
          rw [List.drop_drop] at hst
          rw [decode_dZ t pos hp] at hnx
          generalize hR : (dZ ((bytesOf t).drop pos)).1 = R at *
          generalize hK : (dZ ((bytesOf t).drop pos)).2 = K at *
          rw [hst] at he
          have HE := Lib.hid he
          have h4 := encode_size_le (R : Int)
          have hls : (9223372036854775807 < S.size + (Utf8.encode (R : Int)).size) = False := eq_false (by omega)
          clear hR hK hst he hne
          go_wp2_with fail
          go_roundw
          case rel => exact ⟨pos + K, _, rfl, by omega, by rw [ByteArray.size_append]; omega, by rw [bytesOf_append, encode_bytes, List.append_assoc]; exact HE.out, rfl⟩
          case measure => simp only [World.iterPos_iter]; omega
        · have hpe : pos = t.size := by omega
          have hnx := fun ty => run_next_end (P := Tryd.prog) wc t pos ty hlt
          rw [hpe, List.drop_of_length_le (by rw [bytesOf_length]; exact Nat.le_refl _), decT_nil, List.append_nil, HTB.out] at he
          have hSe : S = strOfNums (decT (bom xs)) := by rw [← he, strOfNums_bytesOf]
          have HSE := Lib.hid hSe
          have hbi : Below wc.heap.size wc (wc.iter t pos) := (Below.refl _ _).alloc (Nat.le_refl _) _
          clear he hSe hpe
          go_wp2_with fail
          go_ret
          exact ⟨by rw [HSE.out]; rfl, hbi⟩

end Go.Proofs.YtcnjbbgecopjmaaDoor.Own
