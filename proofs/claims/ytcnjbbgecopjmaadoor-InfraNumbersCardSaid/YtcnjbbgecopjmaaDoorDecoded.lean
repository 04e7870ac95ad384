/- Walk of InfraDecoded: for a slice of bytes that came in it answers true. -/
import Derived.Test.YtcnjbbgecopjmaaDoorDec
import Derived.Test.YtcnjbbgecopjmaaDoorFew
import Derived.Test.YtcnjbbgecopjmaaDoorOpen
namespace Go.Proofs.YtcnjbbgecopjmaaDoor.Own
open Go.RowKit Go.Proofs.YtcnjbbgecopjmaaDoor.PX Go.Proofs.YtcnjbbgecopjmaaDoor.Pl Go.Proofs.YtcnjbbgecopjmaaDoorW.PrintWords Go.Proofs.YtcnjbbgecopjmaaDoorW.PrintLast Go.Proofs.YtcnjbbgecopjmaaDoorW.PrintMore

/-- A text as runes and back, where it is what decoding writes. -/
theorem runes_back (s : ByteArray) (hs : s.size ≤ 1000000) (hd : decT (bytesOf s) = bytesOf s) (w : World) : ∃ (N cap : Nat) (w1 : World),
    (convert 9 25 (.string s)).run Tryd.prog w = .ok (.slice (some ⟨w.heap.size, 0, none⟩) N cap) w1 ∧ (convert 25 9 (.slice (some ⟨w.heap.size, 0, none⟩) N cap)).run Tryd.prog w1 = .ok (.string s) w1 ∧ Below w.heap.size w w1 := by
  obtain ⟨ms, h1, h2, h3⟩ := runes_from s s.size 0 [] (by omega) (by omega)
  rw [List.drop_zero] at h2
  simp only [List.map_nil, List.nil_append] at h1
  have hsz : (Conv.runesFrom s s.size 0 #[]).size = ms.length := by
    rw [show (#[] : Array Value) = ([] : List Value).toArray from rfl, h1]; simp
  have hrun := run_runes_of_string (P := Tryd.prog) w 9 25 21 s Tryd.underlying9 Tryd.underlying25 Tryd.underlying21 (by rw [hsz]; omega)
  rw [hsz] at hrun
  refine ⟨_, _, _, hrun, ?_, (Below.refl _ _).drew.alloc (Nat.le_refl _) _⟩
  have hcap := grownCap_ge w ms.length 0 21
  have hc := run_convert_runes (P := Tryd.prog) (w.drew.alloc (.cells (Conv.runesFrom s s.size 0 #[] ++ Array.replicate (grownCap w ms.length 0 21 - ms.length) (.int .i32 0)) 21)) 25 9 21 ⟨w.heap.size, 0, none⟩ ms.length (grownCap w ms.length 0 21) ms (Nat.le_refl _) Tryd.underlying25 Tryd.underlying21 Tryd.underlying9 (fun j hj => by
    rw [add_plain]
    have hb : (w.drew.alloc (.cells (Conv.runesFrom s s.size 0 #[] ++ Array.replicate (grownCap w ms.length 0 21 - ms.length) (.int .i32 0)) 21)).heap[w.heap.size]? = some (.cells (Conv.runesFrom s s.size 0 #[] ++ Array.replicate (grownCap w ms.length 0 21 - ms.length) (.int .i32 0)) 21 (0, 0)) := heap_alloc_new w.drew _
    simp only [World.cell?, hb]
    rw [show (#[] : Array Value) = ([] : List Value).toArray from rfl, h1]
    simp [Array.getElem?_append, hj])
  rw [List.take_of_length_le (Nat.le_refl _)] at hc
  have he : runesBytes ms = s := bytesOf_inj (by rw [runesBytes_append, h2, hd])
  rw [he] at hc
  exact hc

/-- An append whose run is known, behind a guard or not. -/
theorem wpList_append_fact {P : Program} {ops : Array Oper} {rest : List Oper} {o : Oper} {a : Act} {Q : Exit → Act → World → Prop} {w w' : World} (hw : Region.wanted o (yielded ops a.tmps) = true) (s x : Operand) (t u : TypeId)
    (ho : o.op = .call { callee := .builtin .append, args := #[s, x], argTypes := #[t, u] }) (v y r : Value) (hs : a.eval s = v) (hx : a.eval x = y)
    (hr : (Builtin.append_ #[t, u] o.type #[v, y]).run P w = .ok r w') (h : wpList P ops Q rest (a.put o.dst r) w') : wpList P ops Q (o :: rest) a w := by
  refine wpList_step fun K hK => ?_
  rw [if_pos hw]
  unfold Oper.wp execOp
  simp only [ho, resolve, invoke, builtin, Sem.run_bind, Sem.run_pure, Result.andThen_ok, List.map_toArray, List.map_cons, List.map_nil, hs, hx, hr]
  exact hK _ _ h

/-- The conversion of a row of bytes to its own type: a mark behind its end. -/
theorem mark_any (w : World) (cs : Array Value) (n c : Nat) : ∃ v w1, (convert 22 22 (.slice (some ⟨w.heap.size, 0, none⟩) n c)).run Tryd.prog (w.alloc (.cells cs 5)) = .ok v w1 ∧ v = .slice (some ⟨w.heap.size, 0, none⟩) n c ∧
    w1.heap[w.heap.size]? = some (.cells cs 5 (cs.size, cs.size + 1)) ∧ Below w.heap.size w w1 := by
  have hsh : (w.alloc (.cells cs 5)).shape? w.heap.size = some (5, cs.size) := by
    simp [World.shape?, World.alloc, -World.alloc_eq]
  refine ⟨_, (w.alloc (.cells cs 5)).freeze ⟨w.heap.size, cs.size, none⟩ 1, ?_, rfl, ?_, ?_⟩
  · simp [convert, run_underlying Tryd.underlying22, run_underlying Tryd.underlying5, markStringish, hsh, Result.andThen]
  · simp [World.freeze, World.alloc, -World.alloc_eq]
    rw [Array.getElem_modify_self]
    simp
  · refine ⟨rfl, rfl, rfl, ?_, ?_⟩
    · simp [World.freeze]
    · intro k hk
      have h1 : w.heap.size ≠ k := by omega
      simp [World.freeze, World.alloc, -World.alloc_eq, Array.getElem?_modify, Array.getElem?_push, h1, Ne.symm h1]

/-- A block that begins with these bytes reads as them. -/
theorem C_front {w : World} {g : Nat} {xs : List Int} {cs : Array Value} {fr : Nat × Nat} (hg : w.heap[g]? = some (.cells cs 5 fr)) (hx : ∀ j, j < xs.length → cs[j]? = some (.int .u8 (xs.getD j 0))) (hb : xs.length ≤ 9223372036854775807) :
    (Kd.int .u8).C w (some ⟨g, 0, none⟩) xs.length xs := by
  refine Kd.C_of_reads (d := (0 : Int)) (h1 := fun _ => rfl) ⟨rfl, hb, fun _ => ⟨_, rfl, fun j hj => ?_⟩⟩
  rw [add_plain]
  simp only [World.cell?, hg]
  simpa using hx j hj

theorem append_mark (w : World) (g : Nat) (hg : w.heap[g]? = some (.cells #[.int .u8 239, .int .u8 187, .int .u8 191] 5 (3, 4))) (t : ByteArray) (h0 : 0 < t.size) (ht : t.size ≤ 100000) :
    ∃ (cap : Nat) (w1 : World), (Builtin.append_ #[22, 9] 22 #[.slice (some ⟨g, 0, none⟩) 3 3, .string t]).run Tryd.prog w = .ok (.slice (some ⟨w.heap.size, 0, none⟩) (3 + t.size) cap) w1 ∧
      (Kd.int .u8).C w1 (some ⟨w.heap.size, 0, none⟩) (3 + t.size) ([239, 187, 191] ++ bytesOf t) ∧ Below w.heap.size w w1 := by
  obtain ⟨i0, hi, hz, hs1, hb1⟩ := info_parts info5
  have hn : Builtin.nextslicecap (3 + t.size) 3 * i0.bytes ≤ 281474976710656 := by
    rw [show i0.bytes = 1 by first | exact hb1 | exact hs1, Nat.mul_one]
    exact Nat.le_trans (nextslicecap_le (need := 3 + t.size) (old := 3) (by omega)) (by omega)
  have hrun := Lib.run_append_grow_string (P := Tryd.prog) w 22 9 22 5 i0 (.int .u8 0) Tryd.underlying22 Tryd.underlying9 hi hz ⟨g, 0, none⟩ 3 3 [.int .u8 239, .int .u8 187, .int .u8 191] (by first | (rw [hs1]; rfl) | (rw [hb1]; rfl)) (fun j v hj => by
    rw [add_plain]
    simp only [World.cell?, hg]
    rcases j with _ | _ | _ | j <;> simp at hj ⊢ <;> exact hj) t (by omega) (by omega) hn
  refine ⟨_, _, hrun, ?_, (Below.refl _ _).drew.alloc (Nat.le_refl _) _⟩
  have hl : ([239, 187, 191] ++ bytesOf t : List Int).length = 3 + t.size := by rw [List.length_append, bytesOf_length]; rfl
  rw [← hl]
  refine C_front (heap_alloc_new w.drew _) (fun j hj => ?_) (by omega)
  have hst : Lib.strCells t = (bytesOf t).map (Value.int .u8) := by simp [bytesOf, Lib.strCells]
  rw [hst]
  have he : ([Value.int .u8 239, .int .u8 187, .int .u8 191].toArray ++ ((bytesOf t).map (Value.int .u8)).toArray : Array Value) = ((([239, 187, 191] ++ bytesOf t : List Int)).map (Value.int .u8)).toArray := by simp
  rw [he, Array.getElem?_append_left (by simp at hj ⊢; omega)]
  rw [List.getElem?_toArray, List.getElem?_map, List.getElem?_eq_getElem hj, List.getD_eq_getElem?_getD, List.getElem?_eq_getElem hj]
  rfl

set_option maxHeartbeats 4000000 in
set_option maxRecDepth 100000 in
theorem decoded_any (A : Option Addr) (n c : Nat) (xs : List Int) (W : World) (hT : Tabs W) (hC : (Kd.int .u8).C W A n xs) (hnc : n ≤ c) (hr : ∀ x ∈ xs, 0 ≤ x ∧ x < 256) :
    Calls Tryd.prog 3 #[.slice A n c] W fun e w' => e = .returned (.bool true) ∧ Below W.heap.size W w' := by
  have hC0 := few_C (m := 500) hC
  have hr0 : ∀ x ∈ xs.take 500, 0 ≤ x ∧ x < 256 := fun x hx => hr x (List.mem_of_mem_take hx)
  have hfew := few_500 A n c hnc
  have hm : min n 500 ≤ 500 := Nat.min_le_right _ _
  generalize xs.take 500 = ys at *
  generalize min n 500 = m at *
  have hl : ys.length = m := hC0.1
  have hD : (decT (bom ys)).length ≤ 2000 := by
    have h1 := decT_len (bom ys)
    have h2 := bom_len ys
    omega
  have hDr := decT_range (bom ys)
  have hDD := decT_again (bom ys) (bom_range ys hr0)
  have hdec := decode_any A m c ys W hT hC0 (by omega) hr0
  generalize decT (bom ys) = D at *
  obtain ⟨s, hs⟩ : ∃ s, s = strOfNums D := ⟨_, rfl⟩
  have hsb : bytesOf s = D := by rw [hs, bytesOf_strOfNums _ hDr]
  have hss : s.size ≤ 2000 := by rw [← bytesOf_length, hsb]; exact hD
  rw [← hs] at hdec
  have HFEW := Lib.hid hfew
  have HDEC := Lib.hid hdec
  have HSB := Lib.hid hsb
  have HDD := Lib.hid hDD
  clear hC hr hs hsb hfew hl hdec hDD hC0
  go_enter Tryd.func3, Tryd.ntmps3
  go_wp2_with fail
  refine (HFEW.out _).mono ?_
  rintro e w_ ⟨rfl, hw_⟩
  rw [hw_]
  clear hw_ w_
  go_wp2_with fail
  refine HDEC.out.mono ?_
  rintro e w1 ⟨rfl, hb1⟩
  obtain ⟨N, cap, w2, hc1, hc2, hb2⟩ := runes_back s (by omega) (by rw [HSB.out, HDD.out]) w1
  have hbz := below_step hb1 hb2
  have hT2 := hT.below hbz hT.two
  have hlx : (9223372036854775807 < 1 + s.size) = False := eq_false (by omega)
  clear hb2
  go_upto_region 6 with fail
  clear hc1 hc2
  -- the text with a letter ahead
  obtain ⟨t, ht⟩ : ∃ t, t = (⟨#[120]⟩ : ByteArray) ++ s := ⟨_, rfl⟩
  rw [← ht]
  have htb : bytesOf t = 120 :: D := by rw [ht, bytesOf_append, HSB.out]; rfl
  have hts : t.size ≤ 2001 ∧ 0 < t.size := by rw [← bytesOf_length, htb, List.length_cons]; omega
  have hbom : bom (120 :: D) = 120 :: D := by
    unfold bom
    rw [if_neg]
    intro h
    rcases D with _ | ⟨a, _ | ⟨b, D⟩⟩ <;> simp at h
  have hself : decT (bom (bytesOf t)) = bytesOf t := by rw [htb, hbom, decT_x, HDD.out]
  have hself2 : decT (bom ([239, 187, 191] ++ bytesOf t)) = bytesOf t := by
    have e : bom ([239, 187, 191] ++ bytesOf t) = bytesOf t := by
      unfold bom
      rw [if_pos (by rfl)]
      rfl
    rw [e, htb, decT_x, HDD.out]
  have HSELF := Lib.hid hself
  have HSELF2 := Lib.hid hself2
  clear ht htb hbom hself hself2
  have hcv := Lib.run_convert_string_bytes (P := Tryd.prog) w2 9 22 5 t Tryd.underlying9 Tryd.underlying22 Tryd.underlying5
  have hB := Bytesy.made w2 t
  have hb3 := below_bytes (Below.refl w2.heap.size w2) t
  generalize grownCap w2 t.size 0 5 = cap3 at *
  generalize Lib.bytesWorld w2 5 t = w3 at *
  have hT3 := hT2.below hb3 hT2.two
  have hbz3 := below_step hbz hb3
  have hC3 := hB.C (by omega)
  clear hB
  go_wp2_with fail
  clear hcv
  refine (decode_any _ t.size cap3 (bytesOf t) w3 hT3 hC3 (by omega) (bytesOf_range t)).mono ?_
  rintro e w4 ⟨he4, hb4⟩
  rw [HSELF.out, strOfNums_bytesOf] at he4
  subst he4
  have hT4 := hT3.below hb4 hT3.two
  have hbz4 := below_step hbz3 hb4
  obtain ⟨v5, w5, hmk, hv5, hg5, hb5⟩ := mark_any w4 #[.int .u8 239, .int .u8 187, .int .u8 191] 3 3
  have hbz5 := below_step hbz4 hb5
  obtain ⟨cap6, w6, hap, hC6, hb6⟩ := append_mark w5 w4.heap.size hg5 t (by omega) (by omega)
  rw [← hv5] at hap
  clear hv5
  have hT6 := (hT4.below hb5 hT4.two).below hb6 (hT4.below hb5 hT4.two).two
  have hbz6 := below_step hbz5 hb6
  clear hg5 hb5 hb6
  have HAP := Lib.hid hap
  clear hap
  go_wp2_with (at_builtin; with_reducible refine wpList_append_fact (wanted_on rfl rfl rfl rfl) (.tmp 23) (.tmp 24) 22 9 rfl v5 (.string t) _ rfl rfl HAP.out ?_)
  refine (decode_any _ (3 + t.size) cap6 _ w6 hT6 hC6 (by omega) (fun x hx => by
    rw [List.mem_append] at hx
    rcases hx with hx | hx
    · simp at hx; omega
    · exact bytesOf_range t x hx)).mono ?_
  rintro e w7 ⟨he7, hb7⟩
  rw [HSELF2.out, strOfNums_bytesOf] at he7
  subst he7
  have hbz7 := below_step hbz6 hb7
  go_wp2_with fail
  refine (known_any _).mono ?_
  rintro e w8 ⟨rfl, hb8⟩
  have hbz8 := below_step hbz7 hb8
  go_wp2_with fail
  go_ret
  exact ⟨rfl, hbz8⟩

theorem decoded_walk (W : World) (a : Option Addr) (len cap : Nat) (z : List Int) (hT : Tabs W) (h : IsRow .u8 W a len cap z) :
    Calls Tryd.prog 3 #[.slice a len cap] W fun e w' => e = .returned (.bool true) ∧ Below W.heap.size W w' := by
  obtain ⟨hC, hl, hr⟩ := isRow_bytes h
  exact decoded_any a len cap _ W hT hC hl hr

end Go.Proofs.YtcnjbbgecopjmaaDoor.Own
