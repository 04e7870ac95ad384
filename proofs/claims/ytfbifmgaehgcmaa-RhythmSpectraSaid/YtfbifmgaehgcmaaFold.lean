/- Walks: rhythm.Fold by its contract. -/
import Derived.Test.YtfbifmgaehgcmaaSpec
namespace Go.Proofs.Ytfbifmgaehgcmaa
open Go.RowKit Fl

/-- A slice's numbers, where they lie. -/
def IntsAt (w : World) (a : Option Addr) (len : Nat) (zs : List Int) : Prop :=
  zs.length = len ∧ (len = 0 ∨ ∃ b off, a = some ⟨b, off, none⟩ ∧ b < w.heap.size ∧ ∀ i, i < len → w.cell? ⟨b, off + i, none⟩ = some (.int .i64 (zs.getD i 0)))

theorem IntsAt.below {w w' : World} {a : Option Addr} {len : Nat} {zs : List Int} (h : IntsAt w a len zs) (hb : Below w.heap.size w w') : IntsAt w' a len zs := by
  refine ⟨h.1, h.2.imp id ?_⟩
  rintro ⟨b, off, e, hlt, hc⟩
  exact ⟨b, off, e, Nat.lt_of_lt_of_le hlt hb.size, fun i hi => by rw [hb.cell (p := ⟨b, off + i, none⟩) hlt]; exact hc i hi⟩

/-- How many leave r over of four. -/
def cnt (l : List Int) (r : Nat) : Int := ((l.filter fun z => decide (z % 4 = (r : Int))).length : Nat)

theorem cnt_bd (l : List Int) (r : Nat) : 0 ≤ cnt l r ∧ cnt l r ≤ l.length := by
  unfold cnt
  have := List.length_filter_le (fun z => decide (z % 4 = (r : Int))) l
  omega

theorem cnt_snoc (l : List Int) (z : Int) (r : Nat) : cnt (l ++ [z]) r = cnt l r + if z % 4 = (r : Int) then 1 else 0 := by
  unfold cnt
  rw [List.filter_append, List.length_append]
  by_cases h : z % 4 = (r : Int)
  · rw [if_pos h, List.filter_cons, decide_eq_true h]; simp
  · rw [if_neg h, List.filter_cons, decide_eq_false h]; simp

theorem take_snoc' (l : List Int) (k : Nat) (h : k < l.length) : l.take (k + 1) = l.take k ++ [l.getD k 0] := by
  rw [List.take_succ_eq_append_getElem h, List.getD_eq_getElem?_getD, List.getElem?_eq_getElem h]; rfl

/-- Four whole numbers in a row. -/
def RowI (C : Nat → Int) (cs : Array Value) : Prop := cs.size = 4 ∧ ∀ i, i < 4 → cs[i]? = some (.int .i64 (C i))

theorem RowI.congr {X Y : Nat → Int} {cs : Array Value} (h : RowI X cs) (e : ∀ i, i < 4 → X i = Y i) : RowI Y cs :=
  ⟨h.1, fun i hi => by rw [← e i hi]; exact h.2 i hi⟩

theorem RowI.set {X : Nat → Int} {cs : Array Value} (h : RowI X cs) (k : Nat) (x : Int) (_hk : k < 4) :
    RowI (fun i => if i = k then x else X i) (cs.setIfInBounds k (.int .i64 x)) := by
  refine ⟨by rw [Array.size_setIfInBounds]; exact h.1, fun i hi => ?_⟩
  by_cases e : i = k
  · subst e
    rw [Array.getElem?_setIfInBounds_self_of_lt (by rw [h.1]; omega)]
    simp only [if_true]
  · rw [Array.getElem?_setIfInBounds_ne (fun h => e h.symm)]
    simp only [if_neg e]; exact h.2 i hi

theorem RowI.oneCell {X : Nat → Int} {cs : Array Value} (h : RowI X cs) : cs.all (·.oneCell') = true := by
  rw [Array.all_eq_true_iff_forall_mem]
  intro v hv
  obtain ⟨i, hi, rfl⟩ := Array.mem_iff_getElem.1 hv
  have e := h.2 i (by rw [← h.1]; exact hi)
  rw [Array.getElem?_eq_getElem hi] at e
  rw [Option.some.inj e]
  rfl

theorem RowI.form {X : Nat → Int} {cs : Array Value} (h : RowI X cs) : cs = #[.int .i64 (X 0), .int .i64 (X 1), .int .i64 (X 2), .int .i64 (X 3)] := by
  obtain ⟨hs, h⟩ := h
  refine Array.ext_getElem? fun i => ?_
  by_cases hi : i < 4
  · rcases (by omega : i = 0 ∨ i = 1 ∨ i = 2 ∨ i = 3) with rfl | rfl | rfl | rfl <;> rw [h _ hi] <;> rfl
  · rw [Array.getElem?_eq_none (by omega), Array.getElem?_eq_none (by simp; omega)]

theorem rowI_of (n0 n1 n2 n3 : Int) : RowI (q4 n0 n1 n2 n3) #[.int .i64 n0, .int .i64 n1, .int .i64 n2, .int .i64 n3] :=
  ⟨rfl, fun i hi => by rcases (by omega : i = 0 ∨ i = 1 ∨ i = 2 ∨ i = 3) with rfl | rfl | rfl | rfl <;> rfl⟩

/-- Behind each round. -/
def HeldI (N : Nat) (C : Nat → Int) (w wr : World) : Prop :=
  wr.heap[N]? = some (.cells #[.int .i64 0, .int .i64 0, .int .i64 0, .int .i64 0] 22 (0, 0)) ∧ (∃ cs, wr.heap[N + 1]? = some (.cells cs 22 (0, 0)) ∧ RowI C cs) ∧ Below N w wr

theorem HeldI.congr {N : Nat} {X Y : Nat → Int} {w wr : World} (h : HeldI N X w wr) (e : ∀ i, i < 4 → X i = Y i) : HeldI N Y w wr :=
  ⟨h.1, by obtain ⟨cs, h1, h2⟩ := h.2.1; exact ⟨cs, h1, h2.congr e⟩, h.2.2⟩

theorem HeldI.store {N : Nat} {C : Nat → Int} {w wr : World} (h : HeldI N C w wr) (k : Nat) (hk : k < 4) (x : Int) :
    HeldI N (fun i => if i = k then x else C i) w (wr.setCell ⟨N + 1, k, none⟩ (.int .i64 x)) := by
  obtain ⟨h1, ⟨cs, h3, h4⟩, h5⟩ := h
  refine ⟨?_, ⟨_, Joins.block_setCell h3 _, h4.set k x hk⟩, h5.setCell (by simp) _⟩
  rw [heap_setCell_other _ _ _ _ (by simp)]; exact h1

theorem HeldI.start (w : World) : HeldI w.heap.size (fun _ => 0) w
    ((w.alloc (.cells #[.int .i64 0, .int .i64 0, .int .i64 0, .int .i64 0] 22)).alloc (.cells #[.int .i64 0, .int .i64 0, .int .i64 0, .int .i64 0] 22)) := by
  refine ⟨?_, ⟨_, ?_, (rowI_of 0 0 0 0).congr fun i hi => by rcases (by omega : i = 0 ∨ i = 1 ∨ i = 2 ∨ i = 3) with rfl | rfl | rfl | rfl <;> rfl⟩, ?_⟩
  · rw [heap_alloc_old _ _ (by simp)]; exact heap_alloc_new w _
  · have := heap_alloc_new (w.alloc (.cells #[.int .i64 0, .int .i64 0, .int .i64 0, .int .i64 0] 22)) (.cells #[.int .i64 0, .int .i64 0, .int .i64 0, .int .i64 0] 22)
    rwa [World.size_alloc] at this
  · exact ((Below.refl _ _).alloc (Nat.le_refl _) _).alloc (by simp) _

set_option maxHeartbeats 1000000 in
theorem fold_any (a : Option Addr) (len cap : Nat) (zs : List Int) (w : World) (hz : IntsAt w a len zs) (hlen : len ≤ maxLen) :
    Calls Try.prog 10 #[.slice a len cap] w
      fun e w' => e = .returned (.agg #[.int .i64 (cnt zs 0), .int .i64 (cnt zs 1), .int .i64 (cnt zs 2), .int .i64 (cnt zs 3)]) ∧ Below w.heap.size w w' := by
  unfold maxLen at hlen
  obtain ⟨hzl, hz⟩ := hz
  go_enter Try.func10, Try.ntmps10
  go_wp2
  go_loopw [8] (fun v wr => ∃ k : Nat, k ≤ len ∧ v = .int .i64 k ∧ HeldI w.heap.size (cnt (zs.take k)) w wr) (fun v _ => len - (intOf v).toNat)
  case atStart => exact ⟨0, by omega, rfl, (HeldI.start w).congr fun i _ => rfl⟩
  case round =>
    obtain ⟨k, hk, rfl, hh⟩ := hrel
    by_cases hlt : k < len
    · obtain ⟨h1, ⟨cs, h3, h4⟩, h5⟩ := hh
      rcases hz with h0 | ⟨b, off, rfl, hbl, hz⟩
      · omega
      have hcz : wr.cell? ⟨b, off + k, none⟩ = some (.int .i64 (zs.getD k 0)) := by rw [h5.cell (p := ⟨b, off + k, none⟩) hbl]; exact hz k hlt
      have hsn := take_snoc' zs k (by omega)
      obtain ⟨z, hzz⟩ : ∃ z, zs.getD k 0 = z := ⟨_, rfl⟩
      rw [hzz] at hcz hsn
      obtain ⟨r, hr⟩ : ∃ r : Nat, z % 4 = (r : Int) := ⟨(z % 4).toNat, by omega⟩
      have hr4 : r < 4 := by omega
      have hand : bits .and .i64 z 3 = (r : Int) := by rw [and3, hr]
      have hcell : wr.cell? ⟨w.heap.size + 1, r, none⟩ = some (.int .i64 (cnt (zs.take k) r)) := by rw [Joins.cell_of_block h3]; exact h4.2 r hr4
      have hfz : wr.frozen? ⟨w.heap.size + 1, r, none⟩ = false := Joins.unfrozen_of_block h3 r
      obtain ⟨c, hc⟩ : ∃ c, cnt (zs.take k) r = c := ⟨_, rfl⟩
      have cb := cnt_bd (zs.take k) r
      have tl : (zs.take k).length ≤ k := List.length_take_le _ _
      rw [hc] at hcell cb
      have K0 : (0 : Int) ≤ (r : Int) := by omega
      have K1 : (r : Int) < 4 := by omega
      have HN : Hid (HeldI w.heap.size (cnt (zs.take (k + 1))) w (wr.setCell ⟨w.heap.size + 1, r, none⟩ (.int .i64 (c + 1)))) := by
        refine (HeldI.store ⟨h1, ⟨cs, h3, h4⟩, h5⟩ r hr4 (c + 1)).congr fun i hi4 => ?_
        rw [hsn, cnt_snoc]
        by_cases e1 : i = r
        · subst e1
          rw [if_pos rfl, if_pos hr, hc]
        · rw [if_neg e1, if_neg (by rw [hr]; omega), Int.add_zero]
      clear h1 h3 h4 hsn hzz hc hr hz
      go_wp2
      go_roundw
      case rel => exact ⟨k + 1, by omega, by go_num, HN.out⟩
      case measure => simp [intOf]; omega
    · have e4 : k = len := by omega
      subst e4
      obtain ⟨h1, ⟨cs, h3, h4⟩, h5⟩ := hh
      have hone : cs.all (·.oneCell') = true := h4.oneCell
      have hs4 : (Try.prog.info? 22).map (·.size) = some cs.size := by rw [h4.1]; kernel_rfl
      have hold : (#[Value.int .i64 0, .int .i64 0, .int .i64 0, .int .i64 0] : Array Value).size = cs.size := by rw [h4.1]; rfl
      have hform := h4.form
      rw [List.take_of_length_le (by omega)] at hform
      have HF := Lib.hid hform
      clear hform
      go_wp2_with (first | (refine wpList_load_row rfl 22 _ rfl (w.heap.size + 1) rfl 22 _ (0, 0) _ h3 Try.underlying22 rfl hs4 ?_) | (refine wpList_store_row rfl 22 _ _ rfl (w.heap.size) cs rfl rfl 22 _ h1 hs4 hold hone ?_))
      refine bodyPost_ret (v := .agg cs) ?_ rfl ⟨by rw [HF.out], ?_⟩
      · exact results_cell_row rfl _ _ (w.heap.size) 22 cs (0, 0) _ rfl (setRow_heap wr _ _ _ _ _ h1) Try.underlying22 rfl hs4
      · exact below_setRow h5 (by omega) _

end Go.Proofs.Ytfbifmgaehgcmaa
