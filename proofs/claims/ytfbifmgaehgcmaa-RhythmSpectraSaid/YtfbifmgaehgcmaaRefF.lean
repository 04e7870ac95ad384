/- The reference's Fold. -/
import Derived.Test.YtfbifmgaehgcmaaFold
namespace Go.Proofs.Ytfbifmgaehgcmaa
open Go.RowKit Fl

set_option maxHeartbeats 1000000 in
theorem rfold_any (a : Option Addr) (len cap : Nat) (zs : List Int) (w : World) (hz : IntsAt w a len zs) (hlen : len ≤ maxLen) :
    Calls Try.prog 23 #[.slice a len cap] w
      fun e w' => e = .returned (.agg #[.int .i64 (cnt zs 0), .int .i64 (cnt zs 1), .int .i64 (cnt zs 2), .int .i64 (cnt zs 3)]) ∧ Below w.heap.size w w' := by
  unfold maxLen at hlen
  obtain ⟨hzl, hz⟩ := hz
  go_enter Try.func23, Try.ntmps23
  go_wp2
  go_loopw [4] (fun v wr => ∃ k : Nat, k ≤ len ∧ v = .int .i64 k ∧ HeldI w.heap.size (cnt (zs.take k)) w wr) (fun v _ => len - (intOf v).toNat)
  case atStart => exact ⟨0, by omega, rfl, (HeldI.start w).congr fun i _ => rfl⟩
  case round =>
    obtain ⟨k, hk, rfl, hh⟩ := hrel
    by_cases hlt : k < len
    · obtain ⟨h1, ⟨cs, h3, h4⟩, h5⟩ := hh
      rcases hz with h0 | ⟨b, off, rfl, hbl, hz⟩
      · omega
      have hcz : wr.cell? ⟨b, off + k, none⟩ = some (.int .i64 (zs.getD k 0)) := by rw [h5.cell (p := ⟨b, off + k, none⟩) hbl]; exact hz k hlt
      have hsn := take_snoc' zs k (by omega)
      obtain ⟨z, hzz⟩ : ∃ z, zs.getD k 0 = z := ⟨_, rfl⟩
      rw [hzz] at hcz hsn
      obtain ⟨r, hr⟩ : ∃ r : Nat, z % 4 = (r : Int) := ⟨(z % 4).toNat, by omega⟩
      have hr4 : r < 4 := by omega
      obtain ⟨t, ht⟩ : ∃ t, Int.tmod z 4 = t := ⟨_, rfl⟩
      have ht1 : -4 < t := by rw [← ht]; exact Int.lt_tmod_of_pos z (by decide)
      have ht2 : t < 4 := by rw [← ht]; exact Int.tmod_lt_of_pos z (by decide)
      have hand : (t + 4) % 4 = (r : Int) := by have := Int.tmod_add_mul_tdiv z 4; omega
      have hcell : wr.cell? ⟨w.heap.size + 1, r, none⟩ = some (.int .i64 (cnt (zs.take k) r)) := by rw [Joins.cell_of_block h3]; exact h4.2 r hr4
      have hfz : wr.frozen? ⟨w.heap.size + 1, r, none⟩ = false := Joins.unfrozen_of_block h3 r
      obtain ⟨c, hc⟩ : ∃ c, cnt (zs.take k) r = c := ⟨_, rfl⟩
      have cb := cnt_bd (zs.take k) r
      have tl : (zs.take k).length ≤ k := List.length_take_le _ _
      rw [hc] at hcell cb
      have K0 : (0 : Int) ≤ (r : Int) := by omega
      have K1 : (r : Int) < 4 := by omega
      have HN : Hid (HeldI w.heap.size (cnt (zs.take (k + 1))) w (wr.setCell ⟨w.heap.size + 1, r, none⟩ (.int .i64 (c + 1)))) := by
        refine (HeldI.store ⟨h1, ⟨cs, h3, h4⟩, h5⟩ r hr4 (c + 1)).congr fun i hi4 => ?_
        rw [hsn, cnt_snoc]
        by_cases e1 : i = r
        · subst e1
          rw [if_pos rfl, if_pos hr, hc]
        · rw [if_neg e1, if_neg (by rw [hr]; omega), Int.add_zero]
      clear h1 h3 h4 hsn hzz hc hr hz
      go_wp2
      go_roundw
      case rel => exact ⟨k + 1, by omega, by go_num, HN.out⟩
      case measure => simp [intOf]; omega
    · have e4 : k = len := by omega
      subst e4
      obtain ⟨h1, ⟨cs, h3, h4⟩, h5⟩ := hh
      have hone : cs.all (·.oneCell') = true := h4.oneCell
      have hs4 : (Try.prog.info? 22).map (·.size) = some cs.size := by rw [h4.1]; kernel_rfl
      have hold : (#[Value.int .i64 0, .int .i64 0, .int .i64 0, .int .i64 0] : Array Value).size = cs.size := by rw [h4.1]; rfl
      have hform := h4.form
      rw [List.take_of_length_le (by omega)] at hform
      have HF := Lib.hid hform
      clear hform
      go_wp2_with (first | (refine wpList_load_row rfl 22 _ rfl (w.heap.size + 1) rfl 22 _ (0, 0) _ h3 Try.underlying22 rfl hs4 ?_) | (refine wpList_store_row rfl 22 _ _ rfl (w.heap.size) cs rfl rfl 22 _ h1 hs4 hold hone ?_))
      refine bodyPost_ret (v := .agg cs) ?_ rfl ⟨by rw [HF.out], ?_⟩
      · exact results_cell_row rfl _ _ (w.heap.size) 22 cs (0, 0) _ rfl (setRow_heap wr _ _ _ _ _ h1) Try.underlying22 rfl hs4
      · exact below_setRow h5 (by omega) _

end Go.Proofs.Ytfbifmgaehgcmaa
