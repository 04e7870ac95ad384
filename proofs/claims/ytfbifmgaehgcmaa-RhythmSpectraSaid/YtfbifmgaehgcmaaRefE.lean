/- Is a spectrum the reference's? -/
import Derived.Test.YtfbifmgaehgcmaaRefB
namespace Go.Proofs.Ytfbifmgaehgcmaa.Own
open Go.RowKit Fl Go.Proofs.Ytfbifmgaehgcmaa.PX Go.Proofs.YtfbifmgaehgcmaaW.PrintWords

/-- The two boxed rows. -/
def HeldE (g : Nat) (A : Array Value) (X : Nat → Int × Int) (w wr : World) : Prop :=
  wr.heap[g]? = some (.cells A 24 (0, 0)) ∧ wr.heap[g + 1]? = some (.cells (cells8 X) 42 (0, 0)) ∧ Below g w wr ∧ g + 1 < wr.heap.size

theorem HeldE.below {g : Nat} {A : Array Value} {X : Nat → Int × Int} {w wr w1 : World} (h : HeldE g A X w wr) (hb : Below wr.heap.size wr w1) : HeldE g A X w w1 := by
  obtain ⟨h1, h2, h4, h5⟩ := h
  have := hb.size
  exact ⟨(hb.block g (by omega)).trans h1, (hb.block (g + 1) (by omega)).trans h2, h4.trans (hb.mono (by omega)), by omega⟩

set_option maxHeartbeats 2000000 in
theorem same_any {X : Nat → Int × Int} {A : Array Value} (hA : Row4 X A) (hX : ∀ k, k < 4 → (X k).1.natAbs < 9007199254740992 ∧ (X k).2.natAbs < 9007199254740992) (w : World) :
    Calls Try.prog 21 #[.agg A, .agg (cells8 X)] w fun e w' => e = .returned (.bool true) ∧ Below w.heap.size w w' := by
  have hu41 := Try.underlying41
  have hu42 := Try.underlying42
  have hcs : ∃ cs, cells8 X = cs := ⟨_, rfl⟩
  obtain ⟨cs, hcs⟩ := hcs
  have h0 : HeldE w.heap.size A X w ((w.alloc (.cells A 24)).alloc (.cells cs 42)) := by
    subst hcs
    refine ⟨?_, ?_, below_alloc (below_alloc (Below.refl _ _) _) _, by simp⟩
    · rw [heap_alloc_old _ _ (by simp)]; exact heap_alloc_new w _
    · have := heap_alloc_new (w.alloc (.cells A 24)) (.cells (cells8 X) 42)
      rwa [World.size_alloc] at this
  rw [hcs]
  have H0 := Lib.hid h0
  have HA := Lib.hid hA
  have HXb := Lib.hid hX
  have hAs : (Try.prog.info? 24).map (·.size) = some A.size := by rw [hA.1]; kernel_rfl
  have hcsz : (Try.prog.info? 42).map (·.size) = some cs.size := by rw [← hcs]; show _ = some 8; kernel_rfl
  clear h0 hA hX hcs
  go_enter Try.func21, Try.ntmps21
  go_wp2
  go_loopw [5] (fun v wr => ∃ k : Nat, k ≤ 4 ∧ v = .int .i64 k ∧ HeldE w.heap.size A X w wr) (fun v _ => 4 - (intOf v).toNat)
  case atStart => exact ⟨0, by omega, rfl, H0.out⟩
  case round =>
    clear H0
    obtain ⟨k, hk, rfl, hh⟩ := hrel
    have HH := Lib.hid (hh.below (Below.refl _ _).drew)
    by_cases hlt : k < 4
    · have K0 : (0 : Int) ≤ (k : Int) := by omega
      have K1 : (k : Int) < 4 := by omega
      obtain ⟨a, b, hab, ra, rb⟩ := HA.out.2 k hlt
      have hc8 := cells8_get X k hlt
      have hbd := HXb.out k hlt
      have c0 : wr.cell? ⟨w.heap.size + 1, k * 2, none⟩ = some (.int .i64 (X k).1) := by rw [Joins.cell_of_block hh.2.1]; exact hc8.1
      have c1 : wr.cell? ⟨w.heap.size + 1, k * 2 + 1, none⟩ = some (.int .i64 (X k).2) := by rw [Joins.cell_of_block hh.2.1]; exact hc8.2
      have c2 : wr.cell? ⟨w.heap.size, k, none⟩ = some (.complex .f64 a b) := by rw [Joins.cell_of_block hh.1]; exact hab
      have hcall := fun w => cpart_any (X k).1 (X k).2 w
      have hne : ∀ w, (binOp .neq 23 (.complex .f64 a b) (.complex .f64 (floatOfInt .f64 (X k).1) (floatOfInt .f64 (X k).2))).run Try.prog w = .ok (.bool false) w := fun w => by
        rw [run_neq_complex, rep_eq ra (rep_ofInt (X k).1 (by omega)), rep_eq rb (rep_ofInt (X k).2 (by omega))]
        simp
      have HB := Lib.hid hab
      clear hbd hh hab ra rb
      go_wp2_with fail
      go_region_with (go_at_call 18; refine (hcall _).mono ?_; rintro e w' ⟨rfl, hb⟩; replace HH := Lib.hid (HH.out.below hb); have d2 : w'.cell? ⟨w.heap.size, k, none⟩ = some (.complex .f64 a b) := (by rw [Joins.cell_of_block HH.out.1]; exact HB.out))
      all_goals
        clear hcall hne hb
        go_wp2
        refine ⟨⟨k + 1, by omega, by go_num, HH.out⟩, by simp [intOf]; omega⟩
    · go_wp2
      go_ret
      exact ⟨rfl, hh.2.2.1⟩

end Go.Proofs.Ytfbifmgaehgcmaa.Own
