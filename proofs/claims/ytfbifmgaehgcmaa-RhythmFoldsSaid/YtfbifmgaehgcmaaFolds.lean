/- RhythmFolds: the walk. -/
import Derived.Test.YtfbifmgaehgcmaaApp
import Derived.Test.YtfbifmgaehgcmaaBeat
import Derived.Deep.DeepCutAuto
namespace Go.Proofs.Ytfbifmgaehgcmaa
open Go.RowKit Fl

/-- A slice that is short. -/
def Short (n : Nat) (w : World) (v : Value) : Prop := ∃ a len cap zs, v = .slice a len cap ∧ len ≤ n ∧ SliceI w a len cap zs

theorem q4_const (i : Nat) (h : i ≤ 40) : ∀ j, -17592186044416 ≤ q4 i i i i j ∧ q4 i i i i j ≤ 17592186044416 := by
  intro j; unfold q4; split
  · omega
  · split
    · omega
    · split <;> omega

theorem psum_const (i : Nat) (k : Nat) (hk : k = 1 ∨ k = 2) : psum (q4 i i i i) k 4 = (0, 0) := by
  rcases hk with rfl | rfl
  · simp [psum, turnI, q4]; omega
  · simp [psum, turnI, q4]; omega

theorem beat_const (i : Nat) {e : Ending} (h : BeatIs (fun k => psum (q4 i i i i) k 4) e) : ∃ p q, e = .returned (.tuple #[.int .i64 1, .complex .f64 p q]) ∧ Rep 0 p 0 ∧ Rep 0 q 0 := by
  have h1 := psum_const i 1 (.inl rfl)
  have h2 := psum_const i 2 (.inr rfl)
  rcases h with ⟨hlt, _⟩ | ⟨_, p, q, he, hp, hq⟩
  · rw [show (fun k => psum (q4 (i : Int) i i i) k 4) 1 = (0, 0) from h1, show (fun k => psum (q4 (i : Int) i i i) k 4) 2 = (0, 0) from h2] at hlt
    omega
  · rw [show (fun k => psum (q4 (i : Int) i i i) k 4) 1 = (0, 0) from h1] at hp hq
    exact ⟨p, q, he, hp, hq⟩

theorem eql_zero' {a b : Nat} (h : Rep 0 a 0 ∧ Rep 0 b 0) (w : World) : (binOp .eql 23 (.complex .f64 a b) (.complex .f64 0 0)).run Try.prog w = .ok (.bool true) w := by
  rw [run_eql_complex, rep_eq h.1 rep_zero, rep_eq h.2 rep_zero]
  rfl

set_option maxRecDepth 100000 in
set_option maxHeartbeats 4000000 in
theorem folds_any (a : Option Addr) (la ca : Nat) (za : List Int) (b : Option Addr) (lb cb : Nat) (zb : List Int) (w : World) (ha : SliceI w a la ca za) (hb : SliceI w b lb cb zb) (hca : ca ≤ 9223372036854775807) (hcb : cb ≤ 9223372036854775807) :
    Calls Try.prog 4 #[.slice a la ca, .slice b lb cb] w fun e w' => e = .returned (.bool true) ∧ Below w.heap.size w w' := by
  have hla := ha.2.1
  have hlb := hb.2.1
  go_enter Try.func4, Try.ntmps4
  go_upto_if 17 with fail
  go_cut [0] from 15 (fun v wx => Short 40 w v ∧ w = wx)
  case first =>
    by_cases h40 : 40 < la
    · go_wp2
      go_meet
      case rel => exact ⟨⟨a, 40, ca, za.take 40, rfl, by omega, ha.take 40 (by omega)⟩, rfl⟩
    · go_wp2
      go_meet
      case rel => exact ⟨⟨a, la, ca, za, rfl, by omega, ha⟩, rfl⟩
  case rest =>
    obtain ⟨⟨a', la', ca', za', rfl, h40a, ha'⟩, rfl⟩ := hcut
    go_upto_if 22 with fail
    go_cut [1] from 15 (fun v wx => Short 40 w v ∧ w = wx)
    case first =>
      by_cases h40 : 40 < lb
      · go_wp2
        go_meet
        case rel => exact ⟨⟨b, 40, cb, zb.take 40, rfl, by omega, hb.take 40 (by omega)⟩, rfl⟩
      · go_wp2
        go_meet
        case rel => exact ⟨⟨b, lb, cb, zb, rfl, by omega, hb⟩, rfl⟩
    case rest =>
      obtain ⟨⟨b', lb', cb', zb', rfl, h40b, hb'⟩, rfl⟩ := hcut
      go_wp2_with fail
      refine (fold_any a' la' ca' za' _ ha'.ints (by unfold maxLen; omega)).mono ?_
      rintro e w1 ⟨rfl, hb1⟩
      have z1 := hb1.size
      have hW1 : Below w.heap.size w (w1.alloc (.cells #[.int .i64 (cnt za' 0), .int .i64 (cnt za' 1), .int .i64 (cnt za' 2), .int .i64 (cnt za' 3)] 22)) := hb1.alloc z1 _
      go_wp2_with fail
      refine (fold_any b' lb' cb' zb' _ (hb'.below hW1).ints (by unfold maxLen; omega)).mono ?_
      rintro e w2 ⟨rfl, hb2⟩
      have gx := (hb2.block w1.heap.size (by simp)).trans (heap_alloc_new _ _)
      have z2 := hb2.size
      rw [World.size_alloc] at z2
      have hW2 : Below w.heap.size w w2 := hW1.trans (hb2.mono (by simp; omega))
      clear hb1 hb2 hW1
      go_upto_region 7 with fail
      generalize hw3 : w2.alloc (.cells #[.int .i64 (cnt zb' 0), .int .i64 (cnt zb' 1), .int .i64 (cnt zb' 2), .int .i64 (cnt zb' 3)] 22) = w3
      have hx3 : w3.heap[w1.heap.size]? = some (.cells #[.int .i64 (cnt za' 0), .int .i64 (cnt za' 1), .int .i64 (cnt za' 2), .int .i64 (cnt za' 3)] 22) := by rw [← hw3]; exact (heap_alloc_old _ _ (by omega)).trans gx
      have hy3 : w3.heap[w2.heap.size]? = some (.cells #[.int .i64 (cnt zb' 0), .int .i64 (cnt zb' 1), .int .i64 (cnt zb' 2), .int .i64 (cnt zb' 3)] 22) := by rw [← hw3]; exact heap_alloc_new _ _
      have hW3 : Below w.heap.size w w3 := by rw [← hw3]; exact hW2.alloc (by omega) _
      have z3 : w2.heap.size + 1 ≤ w3.heap.size := by rw [← hw3]; simp
      have ha3 := ha'.below hW3
      have hb3 := hb'.below hW3
      have hown0 : (w3.alloc (.cells #[] 2)).ownsRow w3.heap.size 2 1 (.slice (some ⟨w3.heap.size, 0, none⟩) 0 0) 0 (([] : List Int).map (Value.int .i64)) :=
        ⟨rfl, .inr ⟨w3.heap.size, 0, #[], rfl, Nat.le_refl _, heap_alloc_new _ _, Nat.le_refl _, by unfold maxLen; omega, rfl, rfl⟩⟩
      have HX := Lib.hid hx3
      have HY := Lib.hid hy3
      clear gx hw3 hx3 hy3 hW2
      have hB0 : Below w3.heap.size w3 (w3.alloc (.cells #[] 2)) := (Below.refl _ _).alloc (Nat.le_refl _) _
      have ha4 := ha3.below hB0
      go_wp2_with (first | (at_builtin; refine append_src rfl (.tmp 29) (.tmp 30) rfl w3.heap.size _ 0 [] rfl hown0 a' la' ca' za' rfl ha4 (by omega) (by simp) ?_; intro v1 w4 hown1 hg1; have hB4 : Below w3.heap.size w3 w4 := hB0.grown hg1 (by simp) (own_ge hown0); have hb5 := hb3.below hB4; clear hg1) | (at_builtin; refine append_src rfl (.tmp 31) (.tmp 32) rfl w3.heap.size v1 (0 + la') ([] ++ za') rfl hown1 b' lb' cb' zb' rfl hb5 (by omega) hB4.size ?_; intro v2 w5 hown2 hg2; have hB5 : Below w3.heap.size w3 w5 := hB4.grown hg2 hB4.size (own_ge hown1); obtain ⟨a2, c2, rfl, hi2⟩ := ints_of_owns hown2; clear hg2 hown2 hown1 hB4 hb5))
      rw [List.nil_append, Nat.zero_add] at hi2
      ((with_reducible refine (fold_any a2 (la' + lb') c2 (za' ++ zb') _ hi2 (by unfold maxLen; omega)).mono ?_))
      rintro e w6 ⟨rfl, hb6⟩
      clear hi2 hown0 ha4 hB0
      have hB6 : Below w3.heap.size w3 w6 := hB5.trans (hb6.mono hB5.size)
      have z6 := hB6.size
      clear hb6 hB5
      go_upto_region 8 with fail
      generalize hw7 : w6.alloc (.cells #[.int .i64 (cnt (za' ++ zb') 0), .int .i64 (cnt (za' ++ zb') 1), .int .i64 (cnt (za' ++ zb') 2), .int .i64 (cnt (za' ++ zb') 3)] 22) = w7
      have hB7 : Below w3.heap.size w3 w7 := by rw [← hw7]; exact hB6.alloc z6 _
      have z7 : w6.heap.size + 1 ≤ w7.heap.size := by rw [← hw7]; simp
      have hz7 : w7.heap[w6.heap.size]? = some (.cells #[.int .i64 (cnt (za' ++ zb') 0), .int .i64 (cnt (za' ++ zb') 1), .int .i64 (cnt (za' ++ zb') 2), .int .i64 (cnt (za' ++ zb') 3)] 22) := by rw [← hw7]; exact heap_alloc_new _ _
      have hx7 := (hB7.block w1.heap.size (by omega)).trans HX.out
      have hy7 := (hB7.block w2.heap.size (by omega)).trans HY.out
      have ha7 := ha3.below hB7
      have hW7 : Below w.heap.size w w7 := hW3.trans (hB7.mono (by omega))
      have s1 : w1.heap.size < w7.heap.size := by omega
      have s2 : w2.heap.size < w7.heap.size := by omega
      have s6 : w6.heap.size < w7.heap.size := by omega
      have HZ := Lib.hid hz7
      have HX7 := Lib.hid hx7
      have HY7 := Lib.hid hy7
      have sw : w.heap.size ≤ w7.heap.size := hW7.size
      have hlzb : zb'.length = lb' := hb3.1
      clear hz7 hx7 hy7 hw7 hB7 hB6 HX HY ha3 hb3 hW3 z1 z2 z3 z6 z7 ha' hb'
      generalize w1.heap.size = g1 at *
      generalize w2.heap.size = g2 at *
      generalize w6.heap.size = g6 at *
      generalize w3.heap.size = g3 at *
      go_wp2
      go_loopw [8, 9] (fun v8 v9 wr => ∃ i : Nat, i ≤ la' ∧ v9 = .int .i64 i ∧ wr.ownsRow w7.heap.size 2 1 v8 (4 * i) ((all4 (za'.take i)).map (Value.int .i64)) ∧ Below w7.heap.size w7 wr) (fun _ v9 _ => la' - (intOf v9).toNat)
      case atStart => exact ⟨0, by omega, rfl, ⟨rfl, .inl ⟨rfl, rfl⟩⟩, Below.refl _ _⟩
      case round =>
        obtain ⟨i, hi, rfl, hown, hbel⟩ := hrel
        by_cases hlt : i < la'
        · have hz : za'.length = la' := ha7.1
          obtain ⟨b0, off0, rfl, hcell⟩ : ∃ b0 off0, a' = some ⟨b0, off0, none⟩ ∧ (∀ i, i < la' → b0 < w7.heap.size ∧ w7.cell? ⟨b0, off0 + i, none⟩ = some (.int .i64 (za'.getD i 0))) := by
            rcases ha7.2.2 with ⟨_, h, _⟩ | ⟨h, _⟩ | h
            · omega
            · omega
            · exact h
          have hb0 := (hcell i hlt).1
          have hc0 := (hcell i hlt).2
          obtain ⟨z, hzz⟩ : ∃ z, za'.getD i 0 = z := ⟨_, rfl⟩
          have hts := take_snoc' za' i (by omega)
          rw [hzz] at hc0 hts
          have HTS := Lib.hid hts
          clear hcell hzz hts
          have tb : -1099511627775 ≤ z.tmod 1099511627776 ∧ z.tmod 1099511627776 ≤ 1099511627775 := by
            have h2 := Int.tmod_lt_of_pos z (show (0:Int) < 1099511627776 by decide)
            have h3 := Int.lt_tmod_of_pos z (show (0:Int) < 1099511627776 by decide)
            omega
          have I0 : (0 : Int) ≤ (i : Int) := by omega
          have I1 : (i : Int) < (la' : Int) := by omega
          go_wp2
          obtain ⟨wo, rfl⟩ : ∃ wo : World, wo = wr := ⟨_, rfl⟩
          go_loopw [8, 10] (fun v8 v10 wr => ∃ k : Nat, k ≤ 4 ∧ v10 = .int .i64 k ∧ wr.ownsRow w7.heap.size 2 1 v8 (4 * i + k) ((all4 (za'.take i) ++ four z k).map (Value.int .i64)) ∧ Below w7.heap.size w7 wr) (fun _ v10 _ => 4 - (intOf v10).toNat)
          case atStart => exact ⟨0, by omega, rfl, by rw [show four z 0 = [] from rfl, List.append_nil]; exact hown, hbel⟩
          case round =>
            clear hown hbel
            obtain ⟨k, hk, rfl, hown, hbel⟩ := hrel
            by_cases hkt : k < 4
            · have hcw : wr.cell? ⟨b0, off0 + i, none⟩ = some (.int .i64 z) := by rw [hbel.cell (p := ⟨b0, off0 + i, none⟩) hb0]; exact hc0
              have hsl : SliceI (wr.alloc (.cells #[.int .i64 (z.tmod 1099511627776 + (k : Int))] 2)) (some ⟨wr.heap.size, 0, none⟩) 1 1 [z.tmod 1099511627776 + (k : Int)] :=
                ⟨rfl, Nat.le_refl _, .inr (.inr ⟨_, 0, rfl, fun j hj => ⟨by simp, by
                  obtain rfl : j = 0 := by omega
                  rw [Nat.zero_add, World.cell?_alloc_new]; rfl⟩⟩)⟩
              go_wp2_with (at_builtin; refine append_src rfl (.tmp 45) (.tmp 53) rfl w7.heap.size _ (4 * i + k) _ rfl (hown.alloc _) (some ⟨wr.heap.size, 0, none⟩) 1 1 _ rfl hsl (by omega) (by simp; exact Nat.le_succ_of_le hbel.size) ?_; intro v' w' hown' hg')
              go_roundw
              case rel => exact ⟨k + 1, by omega, by go_num, by rw [four_succ, ← List.append_assoc]; exact hown', (hbel.alloc hbel.size _).grown hg' (by simp; exact Nat.le_succ_of_le hbel.size) (own_ge hown)⟩
              case measure => simp [intOf]; omega
            · have e4 : k = 4 := by omega
              subst e4
              go_wp2
              go_roundw
              case rel => exact ⟨i + 1, by omega, by go_num, by rw [HTS.out, all4_snoc]; exact hown, hbel⟩
              case measure => simp [intOf]; omega
        · have e4 : i = la' := by omega
          subst e4
          rw [List.take_of_length_le (by rw [ha7.1]; exact Nat.le_refl _)] at hown
          obtain ⟨aa, capa, rfl, hia⟩ := ints_of_owns hown
          go_wp2_with fail
          ((with_reducible refine (fold_any aa (4 * i) capa (all4 za') _ hia (by unfold maxLen; omega)).mono ?_))
          rintro e w8 ⟨rfl, hb8⟩
          rw [cnt_all4 za' 0 (by omega), cnt_all4 za' 1 (by omega), cnt_all4 za' 2 (by omega), cnt_all4 za' 3 (by omega)]
          rw [ha7.1]
          have z8 := hb8.size
          have hB8 : Below w7.heap.size w7 w8 := hbel.trans (hb8.mono hbel.size)
          clear hb8 hbel hia hown
          go_upto_region 17 with fail
          generalize hw9 : w8.alloc (.cells #[.int .i64 (i : Int), .int .i64 (i : Int), .int .i64 (i : Int), .int .i64 (i : Int)] 22) = w9
          have hB9 : Below w7.heap.size w7 w9 := by rw [← hw9]; exact hB8.alloc hB8.size _
          have hw9c : w9.heap[w8.heap.size]? = some (.cells #[.int .i64 (i : Int), .int .i64 (i : Int), .int .i64 (i : Int), .int .i64 (i : Int)] 22) := by rw [← hw9]; exact heap_alloc_new _ _
          have hx9 := (hB9.block g1 s1).trans HX7.out
          have hy9 := (hB9.block g2 s2).trans HY7.out
          have hz9 := (hB9.block g6 s6).trans HZ.out
          have hD : ∀ k, k < 4 → ∃ X Y : Int, (0 ≤ X ∧ X ≤ 40) ∧ (0 ≤ Y ∧ Y ≤ 40) ∧ w9.cell? ⟨g1, k, none⟩ = some (.int .i64 X) ∧ w9.cell? ⟨g2, k, none⟩ = some (.int .i64 Y) ∧ w9.cell? ⟨g6, k, none⟩ = some (.int .i64 (X + Y)) ∧ w9.cell? ⟨w8.heap.size, k, none⟩ = some (.int .i64 (i : Int)) := fun k hk => by
            refine ⟨cnt za' k, cnt zb' k, ?_, ?_, ?_, ?_, ?_, ?_⟩
            · have := cnt_bd za' k; rw [ha7.1] at this; omega
            · have := cnt_bd zb' k; rw [hlzb] at this; omega
            · rw [Joins.cell_of_block hx9]; rcases (by omega : k = 0 ∨ k = 1 ∨ k = 2 ∨ k = 3) with rfl | rfl | rfl | rfl <;> rfl
            · rw [Joins.cell_of_block hy9]; rcases (by omega : k = 0 ∨ k = 1 ∨ k = 2 ∨ k = 3) with rfl | rfl | rfl | rfl <;> rfl
            · rw [Joins.cell_of_block hz9, ← cnt_append]; rcases (by omega : k = 0 ∨ k = 1 ∨ k = 2 ∨ k = 3) with rfl | rfl | rfl | rfl <;> rfl
            · rw [Joins.cell_of_block hw9c]; rcases (by omega : k = 0 ∨ k = 1 ∨ k = 2 ∨ k = 3) with rfl | rfl | rfl | rfl <;> rfl
          have HD := Lib.hid hD
          have HC := Lib.hid hw9c
          have hW9 : Below w.heap.size w w9 := hW7.trans (hB9.mono sw)
          have s9 : w.heap.size ≤ w9.heap.size := hW9.size
          clear hD hw9c hx9 hy9 hz9 hw9 hB9 hB8 z8 HX7 HY7 HZ hW7
          generalize w8.heap.size = g8 at *
          go_wp2
          go_loopw [12] (fun v wr => ∃ k : Nat, k ≤ 4 ∧ v = .int .i64 k ∧ ∃ nq, wr = w9.drewN nq) (fun v _ => 4 - (intOf v).toNat)
          case atStart => exact ⟨0, by omega, rfl, 0, rfl⟩
          case round =>
            obtain ⟨k, hk, rfl, nq, rfl⟩ := hrel
            by_cases hkt : k < 4
            · obtain ⟨X, Y, bX, bY, c1, c2, c3, c4⟩ := HD.out k hkt
              have K0 : (0 : Int) ≤ (k : Int) := by omega
              have K1 : (k : Int) < 4 := by omega
              have hwr : IntKind.i64.wrap (X + Y) = X + Y := IntWalk.i64_in _ (by omega)
              go_wp2
              go_quiet (fail)
              clear hwr
              go_wp2
              go_roundw
              case rel => exact ⟨k + 1, by omega, by go_num, _, rfl⟩
              case measure => simp [intOf]; omega
            · have e4 : k = 4 := by omega
              subst e4
              obtain ⟨m0, m1, m2, m3⟩ := four_cells HC.out
              go_wp2_with fail
              refine (beat_any _ _ _ _ _ (q4_const i (by omega))).mono ?_
              rintro e w10 ⟨hbeat, hb10⟩
              obtain ⟨p, q, rfl, hp, hq⟩ := beat_const i hbeat
              have hW10 : Below w.heap.size w w10 := (hW9.trans (Joins.below_draws _ w9 nq)).trans (hb10.mono s9)
              have z10 := hW10.size
              have heq := fun w => eql_zero' ⟨hp, hq⟩ w
              clear hb10 hW9 m0 m1 m2 m3 hp hq hbeat
              go_wp2_with fail
              refine (known_any _).mono ?_
              rintro e w11 ⟨rfl, hb11⟩
              have hW11 : Below w.heap.size w w11 := hW10.trans (hb11.mono z10)
              clear hb11 hW10
              go_wp2_with fail
              go_ret
              exact ⟨rfl, hW11⟩

end Go.Proofs.Ytfbifmgaehgcmaa
