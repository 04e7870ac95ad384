/- Walks: rhythm.Spectrum by its contract. -/
import Derived.Test.YtfbifmgaehgcmaaTurned
import Derived.StillTailTactics
import Derived.Lib.Hide
import Derived.Lib.SmallJoins
import Derived.Laws.CopyOwn
namespace Go.Proofs.Ytfbifmgaehgcmaa
open Go.RowKit Fl

def turnI (x y : Int) (r : Int) : Int × Int :=
  if r = 1 then (y, -x) else if r = 2 then (-x, -y) else if r = 3 then (-y, x) else (x, y)

theorem turn_rep {a b : Nat} {x y : Int} (ha : Rep 0 a x) (hb : Rep 0 b y) (r : Int) :
    Rep 0 (turnW a b r).1 (turnI x y r).1 ∧ Rep 0 (turnW a b r).2 (turnI x y r).2 := by
  unfold turnW turnI
  by_cases h1 : r = 1
  · simp only [if_pos h1]; exact ⟨hb, rep_neg ha⟩
  · by_cases h2 : r = 2
    · simp only [if_neg h1, if_pos h2]; exact ⟨rep_neg ha, rep_neg hb⟩
    · by_cases h3 : r = 3
      · simp only [if_neg h1, if_neg h2, if_pos h3]; exact ⟨rep_neg hb, ha⟩
      · simp only [if_neg h1, if_neg h2, if_neg h3]; exact ⟨ha, hb⟩

theorem turnI_bound (x y r : Int) (B : Int) (hx : -B ≤ x ∧ x ≤ B) (hy : -B ≤ y ∧ y ≤ B) :
    (-B ≤ (turnI x y r).1 ∧ (turnI x y r).1 ≤ B) ∧ (-B ≤ (turnI x y r).2 ∧ (turnI x y r).2 ≤ B) := by
  unfold turnI
  split
  · exact ⟨by simp only; omega, by simp only; omega⟩
  · split
    · exact ⟨by simp only; omega, by simp only; omega⟩
    · split
      · exact ⟨by simp only; omega, by simp only; omega⟩
      · exact ⟨hx, hy⟩

def q4 (n0 n1 n2 n3 : Int) (j : Nat) : Int := if j = 0 then n0 else if j = 1 then n1 else if j = 2 then n2 else n3

/-- The sum's first j parts. -/
def psum (L : Nat → Int) (k : Nat) : Nat → Int × Int
  | 0 => (0, 0)
  | j + 1 => ((psum L k j).1 + (turnI (L j) 0 (((j * k : Nat) : Int) % 4)).1, (psum L k j).2 + (turnI (L j) 0 (((j * k : Nat) : Int) % 4)).2)

theorem psum_bound (L : Nat → Int) (k : Nat) (B : Int) (hL : ∀ j, -B ≤ L j ∧ L j ≤ B) (h0 : 0 ≤ B) (j : Nat) :
    (-(j * B) ≤ (psum L k j).1 ∧ (psum L k j).1 ≤ j * B) ∧ (-(j * B) ≤ (psum L k j).2 ∧ (psum L k j).2 ≤ j * B) := by
  induction j with
  | zero => simp [psum]
  | succ j ih =>
    have := turnI_bound (L j) 0 (((j * k : Nat) : Int) % 4) B (hL j) (by omega)
    simp only [psum]
    have e : ((j + 1 : Nat) : Int) * B = j * B + B := by push_cast; rw [Int.add_mul, Int.one_mul]
    omega

/-- Four complex cells and the whole numbers that they stand for. -/
def Row4 (X : Nat → Int × Int) (cs : Array Value) : Prop :=
  cs.size = 4 ∧ ∀ i, i < 4 → ∃ a b, cs[i]? = some (.complex .f64 a b) ∧ Rep 0 a (X i).1 ∧ Rep 0 b (X i).2

theorem Row4.congr {X Y : Nat → Int × Int} {cs : Array Value} (h : Row4 X cs) (e : ∀ i, i < 4 → X i = Y i) : Row4 Y cs :=
  ⟨h.1, fun i hi => by rw [← e i hi]; exact h.2 i hi⟩

theorem Row4.set {X : Nat → Int × Int} {cs : Array Value} (h : Row4 X cs) (k : Nat) {a b : Nat} {x y : Int} (ha : Rep 0 a x) (hb : Rep 0 b y) (_hk : k < 4) :
    Row4 (fun i => if i = k then (x, y) else X i) (cs.setIfInBounds k (.complex .f64 a b)) := by
  refine ⟨by rw [Array.size_setIfInBounds]; exact h.1, fun i hi => ?_⟩
  by_cases e : i = k
  · subst e
    refine ⟨a, b, ?_, ?_, ?_⟩
    · rw [Array.getElem?_setIfInBounds_self_of_lt (by rw [h.1]; omega)]
    · simp only [if_true]; exact ha
    · simp only [if_true]; exact hb
  · obtain ⟨a', b', h1, h2, h3⟩ := h.2 i hi
    refine ⟨a', b', ?_, ?_, ?_⟩
    · rw [Array.getElem?_setIfInBounds_ne (fun h => e h.symm)]; exact h1
    · simp only [if_neg e]; exact h2
    · simp only [if_neg e]; exact h3

theorem rep_zero : Rep 0 0 0 := by
  refine ⟨by omega, false, 0, _, read_zero false, Int.le_refl _, by omega, ?_⟩
  rw [signed_eq]; simp

theorem row4_zero : Row4 (fun _ => (0, 0)) #[.complex .f64 0 0, .complex .f64 0 0, .complex .f64 0 0, .complex .f64 0 0] :=
  ⟨rfl, fun i hi => ⟨0, 0, by rcases (by omega : i = 0 ∨ i = 1 ∨ i = 2 ∨ i = 3) with rfl | rfl | rfl | rfl <;> rfl, rep_zero, rep_zero⟩⟩

theorem Row4.oneCell {X : Nat → Int × Int} {cs : Array Value} (h : Row4 X cs) : cs.all (·.oneCell') = true := by
  rw [Array.all_eq_true_iff_forall_mem]
  intro v hv
  obtain ⟨i, hi, rfl⟩ := Array.mem_iff_getElem.1 hv
  obtain ⟨a, b, e, _⟩ := h.2 i (by rw [← h.1]; exact hi)
  rw [Array.getElem?_eq_getElem hi] at e
  rw [Option.some.inj e]
  rfl

/-- Four cells written out. -/
theorem Row4.form {X : Nat → Int × Int} {cs : Array Value} (h : Row4 X cs) : ∃ a0 b0 a1 b1 a2 b2 a3 b3,
    cs = #[.complex .f64 a0 b0, .complex .f64 a1 b1, .complex .f64 a2 b2, .complex .f64 a3 b3] ∧
    (Rep 0 a0 (X 0).1 ∧ Rep 0 b0 (X 0).2) ∧ (Rep 0 a1 (X 1).1 ∧ Rep 0 b1 (X 1).2) ∧ (Rep 0 a2 (X 2).1 ∧ Rep 0 b2 (X 2).2) ∧ (Rep 0 a3 (X 3).1 ∧ Rep 0 b3 (X 3).2) := by
  obtain ⟨hs, h⟩ := h
  obtain ⟨a0, b0, e0, r0⟩ := h 0 (by omega)
  obtain ⟨a1, b1, e1, r1⟩ := h 1 (by omega)
  obtain ⟨a2, b2, e2, r2⟩ := h 2 (by omega)
  obtain ⟨a3, b3, e3, r3⟩ := h 3 (by omega)
  refine ⟨a0, b0, a1, b1, a2, b2, a3, b3, ?_, r0, r1, r2, r3⟩
  refine Array.ext_getElem? fun i => ?_
  by_cases hi : i < 4
  · rcases (by omega : i = 0 ∨ i = 1 ∨ i = 2 ∨ i = 3) with rfl | rfl | rfl | rfl
    · rw [e0]; rfl
    · rw [e1]; rfl
    · rw [e2]; rfl
    · rw [e3]; rfl
  · rw [Array.getElem?_eq_none (by omega), Array.getElem?_eq_none (by simp; omega)]

/-- Behind each round: the boxed argument, the result's cells, and four complex cells. -/
def Held4 (N : Nat) (A : Array Value) (X : Nat → Int × Int) (w wr : World) : Prop :=
  wr.heap[N]? = some (.cells A 22 (0, 0)) ∧ wr.heap[N + 1]? = some (.cells #[.complex .f64 0 0, .complex .f64 0 0, .complex .f64 0 0, .complex .f64 0 0] 24 (0, 0)) ∧
    (∃ cs, wr.heap[N + 1 + 1]? = some (.cells cs 24 (0, 0)) ∧ Row4 X cs) ∧ Below N w wr

theorem Held4.congr {N : Nat} {A : Array Value} {X Y : Nat → Int × Int} {w wr : World} (h : Held4 N A X w wr) (e : ∀ i, i < 4 → X i = Y i) : Held4 N A Y w wr :=
  ⟨h.1, h.2.1, by obtain ⟨cs, h1, h2⟩ := h.2.2.1; exact ⟨cs, h1, h2.congr e⟩, h.2.2.2⟩

theorem Held4.drew {N : Nat} {A : Array Value} {X : Nat → Int × Int} {w wr : World} (h : Held4 N A X w wr) : Held4 N A X w wr.drew :=
  ⟨h.1, h.2.1, h.2.2.1, h.2.2.2.drew⟩

theorem Held4.store {N : Nat} {A : Array Value} {X : Nat → Int × Int} {w wr : World} (h : Held4 N A X w wr) (k : Nat) (hk : k < 4) {a b : Nat} {x y : Int} (ha : Rep 0 a x) (hb : Rep 0 b y) :
    Held4 N A (fun i => if i = k then (x, y) else X i) w (wr.setCell ⟨N + 1 + 1, k, none⟩ (.complex .f64 a b)) := by
  obtain ⟨h1, h2, ⟨cs, h3, h4⟩, h5⟩ := h
  refine ⟨?_, ?_, ⟨_, Joins.block_setCell h3 _, h4.set k ha hb hk⟩, h5.setCell (by simp; omega) _⟩
  · rw [heap_setCell_other _ _ _ _ (by simp; omega)]; exact h1
  · rw [heap_setCell_other _ _ _ _ (by simp)]; exact h2

theorem Held4.start (w : World) (A : Array Value) : Held4 w.heap.size A (fun _ => (0, 0)) w
    (((w.alloc (.cells A 22)).alloc (.cells #[.complex .f64 0 0, .complex .f64 0 0, .complex .f64 0 0, .complex .f64 0 0] 24)).alloc (.cells #[.complex .f64 0 0, .complex .f64 0 0, .complex .f64 0 0, .complex .f64 0 0] 24)) := by
  refine ⟨?_, ?_, ⟨_, ?_, row4_zero⟩, ?_⟩
  · rw [heap_alloc_old _ _ (by simp; omega), heap_alloc_old _ _ (by simp)]; exact heap_alloc_new w _
  · rw [heap_alloc_old _ _ (by simp)]
    have := heap_alloc_new (w.alloc (.cells A 22)) (.cells #[.complex .f64 0 0, .complex .f64 0 0, .complex .f64 0 0, .complex .f64 0 0] 24)
    rwa [World.size_alloc] at this
  · have := heap_alloc_new ((w.alloc (.cells A 22)).alloc (.cells #[.complex .f64 0 0, .complex .f64 0 0, .complex .f64 0 0, .complex .f64 0 0] 24)) (.cells #[.complex .f64 0 0, .complex .f64 0 0, .complex .f64 0 0, .complex .f64 0 0] 24)
    rwa [World.size_alloc, World.size_alloc] at this
  · exact (((Below.refl _ _).alloc (Nat.le_refl _) _).alloc (by simp) _).alloc (by simp; omega) _

/-- How far the sums have come, in round k, j. -/
def sofar (L : Nat → Int) (k j : Nat) (i : Nat) : Int × Int := if i < k then psum L i 4 else if i = k then psum L k j else (0, 0)

theorem sofar_start (L : Nat → Int) (k i : Nat) : sofar L k 0 i = if i < k then psum L i 4 else (0, 0) := by
  unfold sofar
  by_cases h : i < k
  · rw [if_pos h, if_pos h]
  · rw [if_neg h, if_neg h]
    by_cases h2 : i = k
    · rw [if_pos h2]; rfl
    · rw [if_neg h2]

theorem sofar_end (L : Nat → Int) (k i : Nat) : sofar L k 4 i = sofar L (k + 1) 0 i := by
  rw [sofar_start]
  unfold sofar
  by_cases h : i < k
  · rw [if_pos h, if_pos (by omega)]
  · by_cases h2 : i = k
    · subst h2; rw [if_neg h, if_pos rfl, if_pos (by omega)]
    · rw [if_neg h, if_neg h2, if_neg (by omega)]

set_option maxHeartbeats 1000000 in
theorem spectrum_any (n0 n1 n2 n3 : Int) (w : World) (hn : ∀ j, -17592186044416 ≤ q4 n0 n1 n2 n3 j ∧ q4 n0 n1 n2 n3 j ≤ 17592186044416) :
    Calls Try.prog 8 #[.agg #[.int .i64 n0, .int .i64 n1, .int .i64 n2, .int .i64 n3]] w
      fun e w' => (∃ cs, e = .returned (.agg cs) ∧ Row4 (fun k => psum (q4 n0 n1 n2 n3) k 4) cs) ∧ Below w.heap.size w w' := by
  obtain ⟨A, hA⟩ : ∃ A : Array Value, #[Value.int .i64 n0, Value.int .i64 n1, Value.int .i64 n2, Value.int .i64 n3] = A := ⟨_, rfl⟩
  obtain ⟨L, hL⟩ : ∃ L, q4 n0 n1 n2 n3 = L := ⟨_, rfl⟩
  have hidx : ∀ (j : Nat), j < 4 → ∀ w, (Instr.index 22 (.agg A) (.int .i64 (j : Int))).run Try.prog w = .ok (.int .i64 (L j)) w := by
    intro j hj w
    subst hA hL
    rcases (by omega : j = 0 ∨ j = 1 ∨ j = 2 ∨ j = 3) with rfl | rfl | rfl | rfl <;> kernel_rfl
  rw [hL] at hn ⊢
  rw [hA]
  clear hL
  have hAs : A.size = 4 := by subst hA; rfl
  have hsz : (Try.prog.info? 22).map (·.size) = some A.size := by rw [hAs]; kernel_rfl
  clear hA hAs
  go_enter Try.func8, Try.ntmps8
  go_wp2
  go_loopw [7] (fun v wr => ∃ k : Nat, k ≤ 4 ∧ v = .int .i64 k ∧ Held4 w.heap.size A (sofar L k 0) w wr) (fun v _ => 4 - (intOf v).toNat)
  case atStart => exact ⟨0, by omega, rfl, (Held4.start w A).congr fun i _ => by rw [sofar_start, if_neg (by omega)]⟩
  case round =>
    obtain ⟨k, hk, rfl, hh⟩ := hrel
    by_cases hlt : k < 4
    · have h1 := hh.1
      go_wp2_with (refine wpList_load_row rfl 22 _ rfl w.heap.size rfl 22 _ (0, 0) _ h1 Try.underlying22 rfl hsz ?_)
      clear h1
      obtain ⟨wo, rfl⟩ : ∃ wo : World, wo = wr := ⟨_, rfl⟩
      go_loopw [11] (fun v wr => ∃ j : Nat, j ≤ 4 ∧ v = .int .i64 j ∧ Held4 w.heap.size A (sofar L k j) w wr) (fun v _ => 4 - (intOf v).toNat)
      case atStart => exact ⟨0, by omega, rfl, hh⟩
      case round =>
        clear hh
        obtain ⟨j, hj, rfl, hh⟩ := hrel
        by_cases hjt : j < 4
        · obtain ⟨h1, h2, ⟨cs, h3, h4⟩, h5⟩ := hh
          obtain ⟨a, b, hcs, ra, rb⟩ := h4.2 k hlt
          have hi := hidx j hjt
          have hLj := hn j
          have pb := psum_bound L k 17592186044416 hn (by omega) j
          have tb := turnI_bound (L j) 0 (((j * k : Nat) : Int) % 4) 17592186044416 hLj (by omega)
          obtain ⟨rc, rd⟩ := turn_rep (rep_ofInt (L j) (by omega)) rep_zero (((j * k : Nat) : Int) % 4)
          have hX : sofar L k j k = psum L k j := by unfold sofar; rw [if_neg (by omega), if_pos rfl]
          rw [hX] at ra rb
          have hjb : (j : Int) * 17592186044416 ≤ 70368744177664 := by omega
          obtain ⟨re, he1, he2⟩ := rep_add ra rc (by omega)
          obtain ⟨im, hm1, hm2⟩ := rep_add rb rd (by omega)
          have hcall : ∀ w, Calls Try.prog 24 #[.complex .f64 (floatOfInt .f64 (L j)) 0, .int .i64 ((j : Int) * (k : Int))] w fun e w' =>
              e = .returned (.complex .f64 (turnW (floatOfInt .f64 (L j)) 0 (((j * k : Nat) : Int) % 4)).1 (turnW (floatOfInt .f64 (L j)) 0 (((j * k : Nat) : Int) % 4)).2) ∧ w = w' := fun w => by
            rw [Int.natCast_mul]; exact turned_any _ _ _ w
          obtain ⟨c, hc⟩ : ∃ c, (turnW (floatOfInt .f64 (L j)) 0 (((j * k : Nat) : Int) % 4)).1 = c := ⟨_, rfl⟩
          obtain ⟨d, hd⟩ : ∃ d, (turnW (floatOfInt .f64 (L j)) 0 (((j * k : Nat) : Int) % 4)).2 = d := ⟨_, rfl⟩
          rw [hc, hd] at hcall
          rw [hc] at he1 rc
          rw [hd] at hm1 rd
          have hadd : ∀ w, (binOp .add 23 (.complex .f64 a b) (.complex .f64 c d)).run Try.prog w = .ok (.complex .f64 re im) w := fun w =>
            run_complex_sum w .add (.inl rfl) 23 .f64 a b c d re im (by unfold cSumBits floatBits; simp only; rw [show FloatKind.f64.format = Ieee.double from rfl, he1, hm1]; rfl)
          have hw : IntKind.i64.wrap ((j : Int) * (k : Int)) = ((j * k : Nat) : Int) := by
            rw [← Int.natCast_mul]
            have : j * k ≤ 3 * 3 := Nat.mul_le_mul (by omega) (by omega)
            exact IntWalk.i64_in _ (by omega)
          have hcell : wr.cell? ⟨w.heap.size + 1 + 1, k, none⟩ = some (.complex .f64 a b) := by rw [Joins.cell_of_block h3]; exact hcs
          have hfz : wr.frozen? ⟨w.heap.size + 1 + 1, k, none⟩ = false := Joins.unfrozen_of_block h3 k
          have hset := fun v => Joins.block_setCell (i := k) h3 v
          have K0 : (0 : Int) ≤ (k : Int) := by omega
          have K1 : (k : Int) < 4 := by omega
          have HX := Lib.hid hX
          have HC := Lib.hid hc
          have HD := Lib.hid hd
          have E1 := Lib.hid he1
          have M1 := Lib.hid hm1
          have HS := Lib.hid hset
          have H1 := Lib.hid h1
          have H2 := Lib.hid h2
          have H3 := Lib.hid h3
          have HCS := Lib.hid hcs
          have HW := Lib.hid hw
          clear hX hc hd he1 hm1 hset h1 h2 h3 hcs hw
          go_wp2_with fail
          have hw := HW.out
          go_still_tail 12, (by kernel_rfl)
          still_call ((hcall _).mono fun e w' h => ⟨h.1, h.2.symm⟩)
          repeat still_step
          refine wpStill_nil ?_
          change wpList _ _ _ _ _ wr.drew
          go_wp2
          go_roundw
          case rel =>
            have hnew : Held4 w.heap.size A (sofar L k (j + 1)) w (wr.setCell ⟨w.heap.size + 1 + 1, k, none⟩ (.complex .f64 re im)) := by
              refine (Held4.store ⟨H1.out, H2.out, ⟨cs, H3.out, h4⟩, h5⟩ k hlt he2 hm2).congr fun i hi4 => ?_
              unfold sofar
              by_cases e1 : i = k
              · subst e1
                rw [if_pos rfl, if_neg (by omega), if_pos rfl]
                rfl
              · rw [if_neg e1, if_neg e1, if_neg e1]
            exact ⟨j + 1, by omega, by go_num, hnew.drew⟩
          case measure => simp [intOf]; omega
        · have e4 : j = 4 := by omega
          subst e4
          go_wp2
          go_roundw
          case rel => exact ⟨k + 1, by omega, by go_num, hh.congr fun i _ => sofar_end L k i⟩
          case measure => simp [intOf]; omega
    · have e4 : k = 4 := by omega
      subst e4
      obtain ⟨h1, h2, ⟨cs, h3, h4⟩, h5⟩ := hh
      have hone : cs.all (·.oneCell') = true := h4.oneCell
      have hs4 : (Try.prog.info? 24).map (·.size) = some cs.size := by rw [h4.1]; kernel_rfl
      have hold : (#[Value.complex .f64 0 0, .complex .f64 0 0, .complex .f64 0 0, .complex .f64 0 0] : Array Value).size = cs.size := by rw [h4.1]; rfl
      go_wp2_with (first | (refine wpList_load_row rfl 24 _ rfl (w.heap.size + 1 + 1) rfl 24 _ (0, 0) _ h3 Try.underlying24 rfl hs4 ?_) | (refine wpList_store_row rfl 24 _ _ rfl (w.heap.size + 1) cs rfl rfl 24 _ h2 hs4 hold hone ?_))
      refine bodyPost_ret (v := .agg cs) ?_ rfl ⟨⟨cs, rfl, h4.congr fun i hi => by rw [sofar_start, if_pos hi]⟩, ?_⟩
      · exact results_cell_row rfl _ _ (w.heap.size + 1) 24 cs (0, 0) _ rfl (setRow_heap wr _ _ _ _ _ h2) Try.underlying24 rfl hs4
      · exact below_setRow h5 (by omega) _

end Go.Proofs.Ytfbifmgaehgcmaa
