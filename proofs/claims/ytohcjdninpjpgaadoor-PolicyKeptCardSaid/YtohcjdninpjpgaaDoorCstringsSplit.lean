/- A contract: strings.Split at a separator of one byte. -/
import Derived.Test.YtohcjdninpjpgaaDoorStrs
namespace Go.Proofs.YtohcjdninpjpgaaDoor.Own
open Go.RowKit Go.Proofs.YtohcjdninpjpgaaDoorW.PrintWords Go.Proofs.YtohcjdninpjpgaaDoorW.PrintLast Go.Proofs.YtohcjdninpjpgaaDoorW.PrintMore

def strings_Split.f (a0 a1 : ByteArray) : Option (List ByteArray) := if a1.size = 1 ∧ a0.size < 4294967281 then some (Lib.splitB a1 0 (Lib.countB a0 a1) a0) else none

theorem splitOne (s : ByteArray) (c : UInt8) (hs : s.size < 4294967281) (w : World) :
    Calls Tryd.prog 43 #[.string s, .string ⟨#[c]⟩, .int .i64 0, .int .i64 (-1)] w fun e w' =>
      e = .returned (.slice (some ⟨w.heap.size, 0, none⟩) (Lib.countB s ⟨#[c]⟩ + 1) (Lib.countB s ⟨#[c]⟩ + 1)) ∧ w' = w.alloc (.cells ((Lib.splitB ⟨#[c]⟩ 0 (Lib.countB s ⟨#[c]⟩) s).map Value.string).toArray 9) := by
  have hle := Lib.countB_le ⟨#[c]⟩ (Nat.le_refl 1) s.size s (Nat.le_refl _)
  have hlen := Lib.splitB_all ⟨#[c]⟩ (Nat.le_refl 1) 0 _ s rfl
  have hI : ∀ (x : ByteArray) (cc : Array Value), x.size ≤ s.size → Calls Tryd.prog 56 #[.string x, .string ⟨#[c]⟩] (w.alloc (.cells cc 9)) fun e w' => e = .returned (.int .i64 (Lib.indexB x ⟨#[c]⟩)) ∧ w' = w.alloc (.cells cc 9) := fun x cc _ => by
    have e : Lib.indexB x ⟨#[c]⟩ = Lib.indexByte x.data.toList c := Lib.index_one _ _
    rw [e]
    exact Tryd.strings_Index_one x c _
  have hC : Calls Tryd.prog 55 #[.string s, .string ⟨#[c]⟩] w fun e w' => e = .returned (.int .i64 (Lib.countB s ⟨#[c]⟩)) ∧ w' = w := by
    have e : Lib.countB s ⟨#[c]⟩ = Lib.countByte s.data.toList c := Lib.count_one _ _
    rw [e]
    exact Tryd.strings_Count_one s c w
  have := Any.strings_genSplit_core Tryd.lays221 (by kernel_rfl) s ⟨#[c]⟩ 0 (-1) (Lib.countB s ⟨#[c]⟩ + 1) w hs (Nat.le_refl 1) (Nat.zero_le _) hI hC (by decide) (by decide) (by rw [if_pos (by decide)]; omega)
  rw [Nat.add_sub_cancel, hlen] at this
  have e2 : Lib.cellsOf (Lib.splitB ⟨#[c]⟩ 0 (Lib.countB s ⟨#[c]⟩) s) (Lib.countB s ⟨#[c]⟩ + 1) = ((Lib.splitB ⟨#[c]⟩ 0 (Lib.countB s ⟨#[c]⟩) s).map Value.string).toArray := by rw [← hlen]; exact Lib.cellsOf_full _
  rw [e2] at this
  exact this

set_option maxHeartbeats 1000000 in
theorem strings_Split.calls (a0 a1 : ByteArray) (r : List ByteArray) (w : World) (h : strings_Split.f a0 a1 = some r) :
    Calls Tryd.prog 30 #[.string a0, .string a1] w fun e w' => ∃ v0_, e = .returned (v0_) ∧ Kd.R Kd.string 9 w' w.heap.size (fun _ => True) v0_ r ∧ Below w.heap.size w w' := by
  unfold strings_Split.f at h
  split at h
  · rename_i hc
    obtain ⟨h1, hs⟩ := hc
    injection h with h
    subst h
    obtain ⟨c, rfl⟩ := Lib.one_byte a1 h1
    have hlen := Lib.splitB_all ⟨#[c]⟩ (Nat.le_refl 1) 0 _ a0 rfl
    have hle := Lib.countB_le ⟨#[c]⟩ (Nat.le_refl 1) a0.size a0 (Nat.le_refl _)
    have hS := splitOne a0 c hs w
    have hsl : (⟨#[c]⟩ : ByteArray).size = 1 := rfl
    go_enter Tryd.func30, Tryd.ntmps30
    go_wp2_with (go_at_fn (43 : Nat); refine hS.mono ?_; rintro e w' ⟨rfl, hw⟩; rw [hw])
    go_ret
    refine ⟨_, rfl, ?_, below_alloc (Below.refl _ _) _⟩
    refine R_strs (base := w.heap.size) ?_ (fun _ _ => trivial)
    refine ⟨by simp, .inr ⟨w.heap.size, Lib.countB a0 ⟨#[c]⟩ + 1, ((Lib.splitB ⟨#[c]⟩ 0 (Lib.countB a0 ⟨#[c]⟩) a0).map Value.string).toArray, ?_, Nat.le_refl _, ?_, ?_, ?_, ?_, ?_⟩⟩
    · rw [hlen]
      rfl
    · exact heap_alloc_new _ _
    · omega
    · unfold maxLen; omega
    · simp [hlen]
    · rw [Nat.mul_one, List.take_of_length_le (by simp)]
  · exact nomatch h

end Go.Proofs.YtohcjdninpjpgaaDoor.Own
