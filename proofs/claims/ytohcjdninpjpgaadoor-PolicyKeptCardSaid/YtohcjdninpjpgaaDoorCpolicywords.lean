/- A contract: policy.words. -/
import Derived.Test.YtohcjdninpjpgaaDoorStrs
import Derived.Laws.RangeAny
import Derived.WalkMore
import Derived.Laws.RangeString
import Derived.Lib.Hide
namespace Go.Proofs.YtohcjdninpjpgaaDoor.Own
open Go.RowKit Go.Proofs.YtohcjdninpjpgaaDoorW.PrintWords Go.Proofs.YtohcjdninpjpgaaDoorW.PrintLast Go.Proofs.YtohcjdninpjpgaaDoorW.PrintMore

def blanks : ByteArray := ⟨#[9, 10, 12, 13, 32]⟩

theorem blank_small (n : Nat) (h : n < 5) : (blanks[n]'h).toNat < 128 := by
  have : ∀ n : Fin 5, (blanks[n.1]'n.2).toNat < 128 := by decide
  exact this ⟨n, h⟩

theorem indexByte_out (c : UInt8) : ∀ l : List UInt8, (∀ b ∈ l, b ≠ c) → Lib.indexByte l c = -1
  | [], _ => rfl
  | b :: l, h => by
    unfold Lib.indexByte
    rw [if_neg (by have := h b List.mem_cons_self; simpa using this), indexByte_out c l (fun x hx => h x (List.mem_cons_of_mem _ hx))]
    rfl

theorem blank_miss (i : Nat) (c : UInt8) (h : 128 ≤ c.toNat) : Lib.indexByte (blanks.extract i 5).data.toList c = -1 := by
  refine indexByte_out c _ (fun b hb => ?_)
  have h1 : b ∈ blanks.data.toList := by
    have : (blanks.extract i 5).data.toList = List.take (5 - i) (List.drop i blanks.data.toList) := by simp [ByteArray.data_extract]
    rw [this] at hb
    exact List.mem_of_mem_drop (List.mem_of_mem_take hb)
  have h2 : b.toNat < 128 := by
    have : ∀ x ∈ blanks.data.toList, x.toNat < 128 := by decide
    exact this b h1
  rintro rfl
  omega

theorem enc_forms (r : Int) (hv : Utf8.valid r = true) (h : 128 ≤ r) :
    (∃ a b : UInt8, Utf8.encode r = ⟨#[a, b]⟩ ∧ 128 ≤ b.toNat) ∨ (∃ a c b : UInt8, Utf8.encode r = ⟨#[a, c, b]⟩ ∧ 128 ≤ b.toNat) ∨ (∃ a c d b : UInt8, Utf8.encode r = ⟨#[a, c, d, b]⟩ ∧ 128 ≤ b.toNat) := by
  have hc : ¬ r.toNat < 128 := by omega
  unfold Utf8.encode
  simp only [hv, if_true, hc, if_false]
  split
  · exact .inl ⟨_, _, rfl, by simp; omega⟩
  · split
    · exact .inr (.inl ⟨_, _, _, rfl, by simp; omega⟩)
    · exact .inr (.inr ⟨_, _, _, _, rfl, by simp; omega⟩)

set_option maxHeartbeats 4000000 in
set_option maxRecDepth 100000 in
theorem indexRune_any (r : Nat) (h0 : 128 ≤ r) (h1 : r ≤ 1114111) (w : World) : Calls Tryd.prog 57 #[.string blanks, .int .i32 r] w fun e w' => e = .returned (.int .i64 (-1)) ∧ Below w.heap.size w w' := by
  have e1 : decide ((0 : Int) ≤ (r : Int)) = true := decide_eq_true (by omega)
  have e2 : decide ((r : Int) < 128) = false := decide_eq_false (by omega)
  by_cases hE : r = 65533
  · subst hE
    go_enter Tryd.func57, Tryd.ntmps57
    go_wp2
    go_loopw [5, 6] (fun _ _ wr => ∃ pos : Nat, pos ≤ 5 ∧ wr = w.iter blanks pos) (fun _ _ wr => 5 - wr.iterPos w.heap.size)
    case atStart => exact ⟨0, by omega, rfl⟩
    case round =>
      obtain ⟨pos, hp, rfl⟩ := hrel
      rcases (by omega : pos = 0 ∨ pos = 1 ∨ pos = 2 ∨ pos = 3 ∨ pos = 4 ∨ pos = 5) with rfl | rfl | rfl | rfl | rfl | rfl
      · have hnx := fun ty => run_next_ascii (P := Tryd.prog) w blanks 0 ty (by decide) (by decide)
        go_wp2_with fail
        go_roundw
        case rel => exact ⟨1, by omega, rfl⟩
        case measure => simp only [World.iterPos_iter]; omega
      · have hnx := fun ty => run_next_ascii (P := Tryd.prog) w blanks 1 ty (by decide) (by decide)
        go_wp2_with fail
        go_roundw
        case rel => exact ⟨2, by omega, rfl⟩
        case measure => simp only [World.iterPos_iter]; omega
      · have hnx := fun ty => run_next_ascii (P := Tryd.prog) w blanks 2 ty (by decide) (by decide)
        go_wp2_with fail
        go_roundw
        case rel => exact ⟨3, by omega, rfl⟩
        case measure => simp only [World.iterPos_iter]; omega
      · have hnx := fun ty => run_next_ascii (P := Tryd.prog) w blanks 3 ty (by decide) (by decide)
        go_wp2_with fail
        go_roundw
        case rel => exact ⟨4, by omega, rfl⟩
        case measure => simp only [World.iterPos_iter]; omega
      · have hnx := fun ty => run_next_ascii (P := Tryd.prog) w blanks 4 ty (by decide) (by decide)
        go_wp2_with fail
        go_roundw
        case rel => exact ⟨5, by omega, rfl⟩
        case measure => simp only [World.iterPos_iter]; omega
      · have hnx := fun ty => run_next_end (P := Tryd.prog) w blanks 5 ty (by decide)
        go_wp2_with fail
        go_ret
        exact ⟨rfl, below_alloc (Below.refl _ _) _⟩
  · have e3 : ((r : Int) == 65533) = false := beq_eq_false_iff_ne.2 (by omega)
    by_cases hV : Lib.validRune r = true
    · have hu : Utf8.valid (r : Int) = true := by
        unfold Lib.validRune at hV
        unfold Utf8.valid
        simp only [decide_eq_true_eq] at hV
        simp only [Bool.or_eq_true, Bool.and_eq_true, decide_eq_true_eq]
        omega
      have hcv : ∀ w, (convert 21 9 (.int .i32 (r : Int))).run Tryd.prog w = .ok (.string (Utf8.encode (r : Int))) w := fun w =>
        run_convert_int_string (P := Tryd.prog) w 21 9 .i32 r (by rw [Tryd.underlying21]; rfl) Tryd.underlying9
      have hbs : blanks.size = 5 := rfl
      rcases enc_forms (r : Int) hu (by omega) with ⟨a, b, hE2, hb⟩ | ⟨a, c, b, hE2, hb⟩ | ⟨a, c, d, b, hE2, hb⟩
      · rw [hE2] at hcv
        clear hE2
        have hsz : (⟨#[a, b]⟩ : ByteArray).size = 2 := rfl
        have hget : ∀ w k, (Instr.index 9 (.string ⟨#[a, b]⟩) (.int k 1)).run Tryd.prog w = .ok (.int .u8 b.toNat) w := fun w k => by
          rw [run_index_string w 9 _ k _ Tryd.underlying9, dif_pos ⟨by decide, by rw [hsz]; decide⟩]
          rfl
        have hne : ((((blanks[1]'(by decide)).toNat : Int) != (b.toNat : Int))) = true := by
          have := blank_small 1 (by decide)
          rw [bne_iff_ne]
          omega
        have hcall : ∀ W, Calls Tryd.prog 64 #[.string (blanks.extract 2 5), .int .u8 b.toNat] W fun e w' => e = .returned (.int .i64 (-1)) ∧ w' = W := fun W => by
          have h := Tryd.strings_IndexByte (blanks.extract 2 5) b.toNat W
          rw [Int.toNat_natCast, show b.toNat.toUInt8 = b from UInt8.ofNat_toNat, blank_miss 2 b hb] at h
          exact h
        have hwr : IntKind.i64.wrap 2 = 2 := by decide
        have hcut : ∀ w, (Instr.slice 9 (.string blanks) (some (.int .i64 2)) none none).run Tryd.prog w = .ok (.string (blanks.extract 2 5)) w := fun w => by
          rw [run_slice_string_from_if w 9 blanks .i64 _ Tryd.underlying9, if_pos (by decide)]
          rfl
        go_enter Tryd.func57, Tryd.ntmps57
        go_wp2_with (go_at_fn (65 : Nat); refine (Tryd.utf8_ValidRune r _).mono ?_; rintro e w' ⟨rfl, hw⟩; rw [hw, hV])
        refine wp_scope_straight ?_
        go_upto_region 5 with fail
        clear hcv hV hu e3 e1 e2
        go_loopw [9, 10, 11, 12] (fun v9 v10 _ _ wr => v9 = .int .i64 1 ∧ v10 = .int .i64 0 ∧ wr = w) (fun _ _ _ _ _ => 0)
        case atStart => exact ⟨rfl, rfl, rfl⟩
        case round =>
          obtain ⟨rfl, rfl, rfl⟩ := hrel
          go_upto_region 6 with fail
          refine wp_scope_straight ?_
          go_upto_region 6 with fail
          go_quiet (fail)
          go_upto_region 7 with fail
          go_quiet (exact (hcall _).mono (fun _ _ h => ⟨h.1, _, h.2⟩))
          go_wp2_with fail
          change bodyPost Tryd.prog Tryd.f57 (fun e w' => e = Ending.returned (Value.int IntKind.i64 (-1)) ∧ Below wr.heap.size wr w') Exit.ret _ _
          go_ret
          exact ⟨rfl, pw_below_drewN (Below.refl _ _) _⟩
      · rw [hE2] at hcv
        clear hE2
        have hsz : (⟨#[a, c, b]⟩ : ByteArray).size = 3 := rfl
        have hget : ∀ w k, (Instr.index 9 (.string ⟨#[a, c, b]⟩) (.int k 2)).run Tryd.prog w = .ok (.int .u8 b.toNat) w := fun w k => by
          rw [run_index_string w 9 _ k _ Tryd.underlying9, dif_pos ⟨by decide, by rw [hsz]; decide⟩]
          rfl
        have hne : ((((blanks[2]'(by decide)).toNat : Int) != (b.toNat : Int))) = true := by
          have := blank_small 2 (by decide)
          rw [bne_iff_ne]
          omega
        have hcall : ∀ W, Calls Tryd.prog 64 #[.string (blanks.extract 3 5), .int .u8 b.toNat] W fun e w' => e = .returned (.int .i64 (-1)) ∧ w' = W := fun W => by
          have h := Tryd.strings_IndexByte (blanks.extract 3 5) b.toNat W
          rw [Int.toNat_natCast, show b.toNat.toUInt8 = b from UInt8.ofNat_toNat, blank_miss 3 b hb] at h
          exact h
        have hwr : IntKind.i64.wrap 3 = 3 := by decide
        have hcut : ∀ w, (Instr.slice 9 (.string blanks) (some (.int .i64 3)) none none).run Tryd.prog w = .ok (.string (blanks.extract 3 5)) w := fun w => by
          rw [run_slice_string_from_if w 9 blanks .i64 _ Tryd.underlying9, if_pos (by decide)]
          rfl
        go_enter Tryd.func57, Tryd.ntmps57
        go_wp2_with (go_at_fn (65 : Nat); refine (Tryd.utf8_ValidRune r _).mono ?_; rintro e w' ⟨rfl, hw⟩; rw [hw, hV])
        refine wp_scope_straight ?_
        go_upto_region 5 with fail
        clear hcv hV hu e3 e1 e2
        go_loopw [9, 10, 11, 12] (fun v9 v10 _ _ wr => v9 = .int .i64 2 ∧ v10 = .int .i64 0 ∧ wr = w) (fun _ _ _ _ _ => 0)
        case atStart => exact ⟨rfl, rfl, rfl⟩
        case round =>
          obtain ⟨rfl, rfl, rfl⟩ := hrel
          go_upto_region 6 with fail
          refine wp_scope_straight ?_
          go_upto_region 6 with fail
          go_quiet (fail)
          go_upto_region 7 with fail
          go_quiet (exact (hcall _).mono (fun _ _ h => ⟨h.1, _, h.2⟩))
          go_wp2_with fail
          change bodyPost Tryd.prog Tryd.f57 (fun e w' => e = Ending.returned (Value.int IntKind.i64 (-1)) ∧ Below wr.heap.size wr w') Exit.ret _ _
          go_ret
          exact ⟨rfl, pw_below_drewN (Below.refl _ _) _⟩
      · rw [hE2] at hcv
        clear hE2
        have hsz : (⟨#[a, c, d, b]⟩ : ByteArray).size = 4 := rfl
        have hget : ∀ w k, (Instr.index 9 (.string ⟨#[a, c, d, b]⟩) (.int k 3)).run Tryd.prog w = .ok (.int .u8 b.toNat) w := fun w k => by
          rw [run_index_string w 9 _ k _ Tryd.underlying9, dif_pos ⟨by decide, by rw [hsz]; decide⟩]
          rfl
        have hne : ((((blanks[3]'(by decide)).toNat : Int) != (b.toNat : Int))) = true := by
          have := blank_small 3 (by decide)
          rw [bne_iff_ne]
          omega
        have hcall : ∀ W, Calls Tryd.prog 64 #[.string (blanks.extract 4 5), .int .u8 b.toNat] W fun e w' => e = .returned (.int .i64 (-1)) ∧ w' = W := fun W => by
          have h := Tryd.strings_IndexByte (blanks.extract 4 5) b.toNat W
          rw [Int.toNat_natCast, show b.toNat.toUInt8 = b from UInt8.ofNat_toNat, blank_miss 4 b hb] at h
          exact h
        have hwr : IntKind.i64.wrap 4 = 4 := by decide
        have hcut : ∀ w, (Instr.slice 9 (.string blanks) (some (.int .i64 4)) none none).run Tryd.prog w = .ok (.string (blanks.extract 4 5)) w := fun w => by
          rw [run_slice_string_from_if w 9 blanks .i64 _ Tryd.underlying9, if_pos (by decide)]
          rfl
        go_enter Tryd.func57, Tryd.ntmps57
        go_wp2_with (go_at_fn (65 : Nat); refine (Tryd.utf8_ValidRune r _).mono ?_; rintro e w' ⟨rfl, hw⟩; rw [hw, hV])
        refine wp_scope_straight ?_
        go_upto_region 5 with fail
        clear hcv hV hu e3 e1 e2
        go_loopw [9, 10, 11, 12] (fun v9 v10 _ _ wr => v9 = .int .i64 3 ∧ v10 = .int .i64 0 ∧ wr = w) (fun _ _ _ _ _ => 0)
        case atStart => exact ⟨rfl, rfl, rfl⟩
        case round =>
          obtain ⟨rfl, rfl, rfl⟩ := hrel
          go_upto_region 6 with fail
          refine wp_scope_straight ?_
          go_upto_region 6 with fail
          go_quiet (fail)
          go_upto_region 7 with fail
          go_quiet (exact (hcall _).mono (fun _ _ h => ⟨h.1, _, h.2⟩))
          go_wp2_with fail
          change bodyPost Tryd.prog Tryd.f57 (fun e w' => e = Ending.returned (Value.int IntKind.i64 (-1)) ∧ Below wr.heap.size wr w') Exit.ret _ _
          go_ret
          exact ⟨rfl, pw_below_drewN (Below.refl _ _) _⟩
    · have hV' : Lib.validRune r = false := by simpa using hV
      go_enter Tryd.func57, Tryd.ntmps57
      go_wp2_with (go_at_fn (65 : Nat); refine (Tryd.utf8_ValidRune r _).mono ?_; rintro e w' ⟨rfl, hw⟩; rw [hw, hV'])
      go_ret
      exact ⟨rfl, Below.refl _ _⟩

def blankP (r : Nat) : Bool := decide (r = 9 ∨ r = 10 ∨ r = 12 ∨ r = 13 ∨ r = 32)

theorem blank_table : (List.range 128).all (fun r => decide (0 ≤ Lib.indexByte blanks.data.toList ((r : Int)).toNat.toUInt8) == blankP r) = true := by kernel_rfl

set_option maxHeartbeats 1000000 in
theorem containsRune_any (r : Nat) (h1 : r ≤ 1114111) (w : World) : Calls Tryd.prog 47 #[.string blanks, .int .i32 r] w fun e w' => e = .returned (.bool (blankP r)) ∧ Below w.heap.size w w' := by
  by_cases h0 : r < 128
  · refine (Tryd.strings_ContainsRune_ascii blanks r w (by omega) (by omega)).mono ?_
    rintro e w' ⟨rfl, rfl⟩
    refine ⟨?_, Below.refl _ _⟩
    have := List.all_eq_true.1 blank_table r (List.mem_range.2 h0)
    rw [beq_iff_eq] at this
    rw [this]
  · have hI := indexRune_any r (by omega) h1 w
    have hd : blankP r = false := decide_eq_false (by omega)
    rw [hd]
    go_enter Tryd.func47, Tryd.ntmps47
    go_wp2_with (go_at_fn (57 : Nat); refine hI.mono ?_; rintro e w' ⟨rfl, hb⟩)
    go_ret
    exact ⟨rfl, hb⟩

set_option maxHeartbeats 1000000 in
theorem blankFn (r : Nat) (h1 : r ≤ 1114111) (w : World) : Calls Tryd.prog 46 #[.int .i32 r] w fun e w' => e = .returned (.bool (blankP r)) ∧ Below w.heap.size w w' := by
  have hI := containsRune_any r h1 w
  go_enter Tryd.func46, Tryd.ntmps46
  go_wp2_with (go_at_fn (47 : Nat); refine hI.mono ?_; rintro e w' ⟨rfl, hb⟩)
  go_ret
  exact ⟨rfl, hb⟩

def policy_words.f (a0 : ByteArray) : Option (List ByteArray) := if a0.size ≤ 4294967296 then some (Lib.goFieldsP blankP a0) else none

set_option maxHeartbeats 1000000 in
theorem policy_words.calls (a0 : ByteArray) (r : List ByteArray) (w : World) (h : policy_words.f a0 = some r) :
    Calls Tryd.prog 32 #[.string a0] w fun e w' => ∃ v0_, e = .returned (v0_) ∧ Kd.R Kd.string 9 w' w.heap.size (fun _ => True) v0_ r ∧ Below w.heap.size w w' := by
  unfold policy_words.f at h
  split at h
  · rename_i hs
    injection h with h
    subst h
    have hF := Tryd.strings_FieldsFunc_grows 46 #[] (enters_of Tryd.func46 (by kernel_rfl) rfl) blankP a0 w hs (fun W x hx _ => blankFn x hx W)
    go_enter Tryd.func32, Tryd.ntmps32
    go_wp2_with (go_at_fn (45 : Nat); refine hF.mono ?_; rintro e w' ⟨A, rfl, _, ho, hb⟩)
    go_ret
    exact ⟨_, rfl, R_strs ho (fun _ _ => trivial), hb⟩
  · exact nomatch h

end Go.Proofs.YtohcjdninpjpgaaDoor.Own
