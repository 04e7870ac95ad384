/- PolicyKept: the walk. -/
import Derived.Test.YtohcjdninpjpgaaDoorBookK
import Derived.Test.YtohcjdninpjpgaaDoorBookA
import Derived.Test.YtohcjdninpjpgaaDoorVals
namespace Go.Proofs.YtohcjdninpjpgaaDoor.Own
open Go.RowKit Go.Proofs.YtohcjdninpjpgaaDoorW.PrintWords Go.Proofs.YtohcjdninpjpgaaDoor.PX Go.Proofs.YtohcjdninpjpgaaDoorW.PrintLast Go.Proofs.YtohcjdninpjpgaaDoorW.PrintMore Go.Proofs.YtohcjdninpjpgaaDoor.Pl Go.Proofs.YtohcjdninpjpgaaDoor.Kp

/-- The values of rule i: a row of its own, in blocks that are given to i. -/
theorem rule_at {f : Nat → Nat} {w : World} {N0 : Nat} {ok : Nat → Prop} {A : Option Addr} {n c : Nat} {rules : List S52} (h : (Kd.tag f k52).R 52 w N0 ok (.slice A n c) rules.zipIdx) (hn : n = rules.length) (i : Nat) (hi : i < rules.length) :
    ∃ g v, A = some ⟨g, 0, none⟩ ∧ w.cell? ⟨g, i * 2 + 1, none⟩ = some v ∧ w.ownsRow N0 9 1 v rules[i].f1.length (rules[i].f1.map Value.string) ∧ ∀ k, v.ownBlock = some k → ok k ∧ f k = i := by
  have h' := h
  obtain ⟨_, inner, ho, _⟩ := h'
  rcases ho.2 with ⟨hv, h0⟩ | ⟨g, cap, cur, hv, -⟩
  · rw [List.length_zipIdx] at h0
    omega
  · simp only [Value.slice.injEq] at hv
    obtain ⟨rfl, -, rfl⟩ := hv
    obtain ⟨cs, hcl, hM, hcells⟩ := Kd.R_getA h ((⟨⟨#[]⟩, []⟩ : S52), 0) (i : Int) (by omega) (by omega)
    have hz : rules.zipIdx.getD (i : Int).toNat ((⟨⟨#[]⟩, []⟩ : S52), 0) = (rules[i], i) := by
      rw [Int.toNat_natCast, List.getD_eq_getElem?_getD, Kd.zip_at (List.getElem?_eq_getElem hi)]
      rfl
    rw [hz] at hM
    obtain ⟨v, rfl, hR⟩ := k52_openM (show k52.M w N0 _ rules[i] cs from hM)
    refine ⟨g, v, rfl, ?_, Kd.own_of_R hR, fun k hk => ?_⟩
    · have := hcells 1 v rfl
      have e : (⟨g, 0, none⟩ : Addr).add ((i : Int).toNat * k52.sz + 1) = ⟨g, i * 2 + 1, none⟩ := by
        show (⟨g, 0, none⟩ : Addr).add ((i : Int).toNat * 2 + 1) = _
        unfold Addr.add
        split <;> simp_all
      rw [← e]
      exact this
    · have := hR.1 k hk
      exact ⟨this.1.1, this.2⟩

/-- What Keep changes is none of a policy's rules. -/
theorem rules_moved {f : Nat → Nat} {w w1 : World} {base N0 : Nat} {ok : Nat → Prop} {v : Value} {xs : List (S52 × Nat)} (h : (Kd.tag f k52).R 52 w N0 ok v xs) (hm : Moved base OnBook w w1) : (Kd.tag f k52).R 52 w1 N0 ok v xs := by
  refine Kd.R_mono (Kd.R_move (Kd.R_bound h) (fun k hk => ?_)) (fun k hk => hk.1)
  obtain ⟨_, _, _, q, hq, cells, hc⟩ := hk
  have hq' : q ∈ ([52, 9] : List Nat) := hq
  refine (hm.kept hc ?_).trans hc.symm
  unfold OnBook
  simp at hq'
  omega

/-- A book of the call's own, with room for more. -/
def Booked (base g : Nat) (W wr : World) : Prop :=
  ∃ L M held rows copies, TextBook wr base g L M held rows copies ∧ rows.length ≤ 4000 ∧ Below base W wr

/-- The book while a policy's rules are kept: k of them are. -/
def Filled (base g N0 N1 gp : Nat) (f : Nat → Nat) (A : Option Addr) (c : Nat) (rules : List S52) (W : World) (k : Nat) (wr : World) : Prop :=
  ∃ L M held rows copies, TextBook wr base g L M held rows copies ∧ rows.length ≤ 4000 ∧ Below base W wr ∧
    (∀ r ∈ rows, ∀ b, r.1.ownBlock = some b → b < N0 ∨ N1 ≤ b ∨ f b < k) ∧
    wr.heap[gp]? = some (.cells #[.slice A rules.length c, .bool false] 33 (0, 0)) ∧
    (Kd.tag f k52).R 52 wr N0 (fun b => N0 ≤ b ∧ b < N1) (.slice A rules.length c) rules.zipIdx

theorem filled_move {base g N0 N1 gp : Nat} {f : Nat → Nat} {A : Option Addr} {c : Nat} {rules : List S52} {W : World} {k : Nat} {w w1 : World} (h : Filled base g N0 N1 gp f A c rules W k w) (hb : Below w.heap.size w w1) : Filled base g N0 N1 gp f A c rules W k w1 := by
  obtain ⟨L, M, held, rows, copies, hB, hl, hW, hQ, hp, hR⟩ := h
  have hbs : base ≤ w.heap.size := Nat.le_trans hB.ge (Nat.le_of_lt (Array.getElem?_eq_some_iff.1 hB.book).1)
  exact ⟨L, M, held, rows, copies, hB.move hb, hl, hW.trans (hb.mono hbs), hQ, (hb.block gp (Array.getElem?_eq_some_iff.1 hp).1).trans hp, Kd.R_below hR hb⟩

theorem filled_keep {base g N0 N1 gp : Nat} {f : Nat → Nat} {A : Option Addr} {c : Nat} {rules : List S52} {W w w1 : World} {k k' : Nat} {rows : List (Value × List ByteArray)} {v : Value} {xs : List ByteArray} (h : Kept base g (rows ++ [(v, xs)]) w w1)
    (hQ : ∀ r ∈ rows, ∀ b, r.1.ownBlock = some b → b < N0 ∨ N1 ≤ b ∨ f b < k) (hk : k ≤ k') (hv : ∀ b, v.ownBlock = some b → b < N0 ∨ N1 ≤ b ∨ f b < k') (hW : Below base W w) (hbs : base ≤ w.heap.size)
    (hp : w.heap[gp]? = some (.cells #[.slice A rules.length c, .bool false] 33 (0, 0))) (hR : (Kd.tag f k52).R 52 w N0 (fun b => N0 ≤ b ∧ b < N1) (.slice A rules.length c) rules.zipIdx) : Filled base g N0 N1 gp f A c rules W k' w1 := by
  obtain ⟨⟨L', M', held', m', copies', hB', hl'⟩, hmv⟩ := h
  refine ⟨L', M', held', _, copies', hB', hl', hmv.below hW hbs, fun r hr b hb => ?_, hmv.kept hp (by unfold OnBook; decide), rules_moved hR hmv⟩
  rcases List.mem_append.1 (List.mem_of_mem_drop hr) with q | q
  · rcases hQ r q b hb with x | x | x
    · exact .inl x
    · exact .inr (.inl x)
    · exact .inr (.inr (by omega))
  · rw [List.mem_singleton.1 q] at hb
    exact hv b hb

theorem far_new {w w' : World} {base g : Nat} {L M : Value} {held : Int} {rows : List (Value × List ByteArray)} {copies : List Value} (hB : TextBook w base g L M held rows copies) {N n : Nat} {v : Value} {us : List Value} {xs : List ByteArray} (hN : w.heap.size ≤ N) (ho : w'.ownsRow N 9 1 v n us) :
    ∀ r ∈ rows, Far r (v, xs) := fun r hr k hk e => by
  obtain ⟨_, q, _⟩ := own_typed' (hB.made r hr) k hk
  obtain ⟨q2, _, _⟩ := own_typed' ho k e
  omega

set_option maxHeartbeats 4000000 in
set_option maxRecDepth 100000 in
theorem kept_any (s : ByteArray) (W : World) : Calls Tryd.prog 6 #[.string s] W fun e w' => e = .returned (.bool true) ∧ Below W.heap.size W w' := by
  have hu33 := Tryd.underlying33
  have hu52 := Tryd.underlying52
  obtain ⟨t, ht, htl⟩ := few_f s
  have hfew := fun w => ostiarykeep_Few.calls s 300 t w ht
  obtain ⟨T, hT⟩ : ∃ T, t ++ (⟨#[59, 100, 101, 102, 97, 117, 108, 116, 45, 115, 114, 99, 32, 97, 32, 98]⟩ : ByteArray) = T := ⟨_, rfl⟩
  have hTs : T.size ≤ 316 := by
    rw [← hT, ByteArray.size_append]
    have : ((⟨#[59, 100, 101, 102, 97, 117, 108, 116, 45, 115, 114, 99, 32, 97, 32, 98]⟩ : ByteArray)).size = 16 := rfl
    omega
  have hparse := parse_f T false (by omega) (2 * T.size + 3) (Nat.le_refl _)
  have hinv := parse_inv T
  obtain ⟨rules, hrl⟩ : ∃ r, parseS T = r := ⟨_, rfl⟩
  rw [hrl] at hparse hinv
  have h32 : rules.length ≤ 32 := hinv.few
  have hvl : ∀ x ∈ rules, x.f1.length ≤ 316 := fun x hx => Nat.le_trans (hinv.len x hx).2 hTs
  have hpc := fun w => policy_Parse.calls (2 * T.size + 3) T false rules false w hparse
  obtain ⟨vl, nm, okk, hvv⟩ : ∃ a b c, valuesS rules [isrc, dsrc] = (a, b, c) := ⟨_, _, _, rfl⟩
  have hvll : vl.length ≤ 316 := by have := values_len rules 316 hvl [isrc, dsrc]; rw [hvv] at this; exact this
  have hval := values_img rules 316 h32 hvl (by omega)
  rw [hvv] at hval
  have hvc := fun A c w hC hc => policy_Values.calls 10 A c rules false isrc vl nm okk w hC hc hval
  have hch := fun w => policy_Chain.calls 1 wsrc chW w ch_work
  have hkn := fun w => ostiarylaw10_known.calls 60 true w known_all
  have hsz : t.size + 16 ≤ 9223372036854775807 := by omega
  have HFEW := Lib.hid hfew
  have HPC := Lib.hid hpc
  have HVC := Lib.hid hvc
  have HCH := Lib.hid hch
  have HKN := Lib.hid hkn
  have HVL := Lib.hid hvl
  have HT := Lib.hid hT
  clear hfew hpc hvc hch hkn hvl hparse hval hvv hinv hrl ht hT
  have hst : Booked W.heap.size W.heap.size W (W.alloc (.cells #[.slice none 0 0, .slice none 0 0, .int .i64 0, .bool false] 56)) :=
    ⟨_, _, _, _, _, BookAt.start W W.heap.size (Nat.le_refl _), Nat.zero_le _, (Below.refl _ _).alloc (Nat.le_refl _) _⟩
  go_enter Tryd.func6, Tryd.ntmps6
  go_wp2_with fail
  generalize hw2 : W.alloc (.cells #[.slice none 0 0, .slice none 0 0, .int .i64 0, .bool false] 56) = w2 at *
  clear hw2
  go_loopw [4] (fun v wr => ∃ i : Nat, i ≤ 2 ∧ v = .int .i64 i ∧ Booked W.heap.size W.heap.size W wr) (fun v _ => 2 - (intOf v).toNat)
  case atStart => exact ⟨0, by omega, rfl, hst⟩
  case round =>
    clear hst
    obtain ⟨i, hi, rfl, hbk⟩ := hrel
    by_cases hlt : i < 2
    · go_wp2_with fail
      refine (HFEW.out _).mono ?_
      rintro e w3 ⟨rfl, hd3⟩
      go_wp2_with fail
      rw [HT.out]
      obtain ⟨L, M, held, rows, copies, hB, hl, hW⟩ := hbk
      have hB3 := hB.move (drawn_below hd3)
      have hW3 := below_step hW (drawn_below hd3)
      clear hB hW hd3
      refine (HPC.out _).mono ?_
      rintro e w4 ⟨v0, rfl, hS, hb4⟩
      obtain ⟨A, c, rfl⟩ := Kd.S_slice hS
      obtain ⟨-, hlc, hC4⟩ := Kd.S_reads' hS
      obtain ⟨f, hR0⟩ := hS
      have hR4 : (Kd.tag f k52).R 52 w4 w3.heap.size (fun b => w3.heap.size ≤ b ∧ b < w4.heap.size) (.slice A rules.length c) rules.zipIdx := Kd.R_mono (Kd.R_bound hR0) (fun k hk => ⟨hk.2.1, hk.2.2.1⟩)
      have hold : ∀ r ∈ rows, ∀ b, r.1.ownBlock = some b → b < w3.heap.size ∨ w4.heap.size ≤ b ∨ f b < 0 := fun r hr b hb => .inl (own_typed' (hB3.made r hr) b hb).2.1
      have hB4 := hB3.move hb4
      have hW4 := below_step hW3 hb4
      have s34 := hb4.size
      have sW3 := hW3.size
      clear hR0 hB3 hW3 hb4
      go_wp2_with fail
      have h45 : Below w4.heap.size w4 (w4.alloc (.cells #[.slice A rules.length c, .bool false] 33)) := (Below.refl _ _).alloc (Nat.le_refl _) _
      have hF5 : Filled W.heap.size W.heap.size w3.heap.size w4.heap.size w4.heap.size f A c rules W 0 (w4.alloc (.cells #[.slice A rules.length c, .bool false] 33)) :=
        ⟨L, M, held, rows, copies, hB4.move h45, hl, below_step hW4 h45, hold, heap_alloc_new w4 _, Kd.R_below hR4 h45⟩
      have hC5 := Kd.C_below hC4 h45
      have s45 : w4.heap.size ≤ (w4.alloc (.cells #[.slice A rules.length c, .bool false] 33)).heap.size := h45.size
      clear hB4 hW4 hold hR4 hC4 h45 hl
      generalize hgp : w4.heap.size = N1 at *
      generalize hN0 : w3.heap.size = N0 at *
      generalize hw5 : w4.alloc (.cells #[.slice A rules.length c, .bool false] 33) = w5 at *
      clear hw5 hgp hN0
      refine (HVC.out A c _ hC5 hlc).mono ?_
      rintro e w6 ⟨v1, rfl, hR6, hb6⟩
      have ho6 := Kd.own_of_R hR6
      have s56 := hb6.size
      obtain ⟨A1, c1, rfl, -, -⟩ := Kd.R_reads hR6
      obtain ⟨L1, M1, held1, rows1, copies1, hB5, hl5, hW5, hQ5, hp5, hR5⟩ := hF5
      have hfar1 := far_new hB5 (Nat.le_refl _) ho6 (xs := vl)
      have hB6 := hB5.move hb6
      have hW6 := below_step hW5 hb6
      have hp6 := (hb6.block N1 (Array.getElem?_eq_some_iff.1 hp5).1).trans hp5
      have hRR6 := Kd.R_below hR5 hb6
      have sW5 := hW5.size
      have hk1 := keep_any hB6 hl5 sW5 ho6 hfar1 (by omega)
      have hv1 : ∀ b, (Value.slice A1 vl.length c1).ownBlock = some b → b < N0 ∨ N1 ≤ b ∨ f b < 0 := fun b hb => .inr (.inl (by have := (own_typed' ho6 b hb).1; omega))
      have hs6 := hW6.size
      have hfk := fun w1 (hK : Kept W.heap.size W.heap.size (rows1 ++ [(Value.slice A1 vl.length c1, vl)]) w6 w1) => filled_keep hK hQ5 (Nat.le_refl _) hv1 hW6 hs6 hp6 hRR6
      have HK1 := Lib.hid hk1
      have HFK := Lib.hid hfk
      clear hB5 hW5 hQ5 hp5 hR5 hfar1 hB6 hW6 hp6 hRR6 hk1 hv1 hfk hR6 ho6 hb6 hC5 hl5
      go_wp2_with fail
      refine HK1.out.mono ?_
      rintro e w7 ⟨rfl, hK7⟩
      have hF7 := HFK.out w7 hK7
      have hs7 : w6.heap.size ≤ w7.heap.size := hK7.2.size
      clear HK1 HFK hK7
      go_wp2_with fail
      refine (HCH.out _).mono ?_
      rintro e w8 ⟨v2, rfl, hR8, hb8⟩
      have ho8 := Kd.own_of_R hR8
      obtain ⟨A2, c2, rfl, -, -⟩ := Kd.R_reads hR8
      obtain ⟨L2, M2, held2, rows2, copies2, hB7, hl7, hW7, hQ7, hp7, hR7⟩ := hF7
      have hfar2 := far_new hB7 (Nat.le_refl _) ho8 (xs := chW)
      have hB8 := hB7.move hb8
      have hW8 := below_step hW7 hb8
      have hp8 := (hb8.block N1 (Array.getElem?_eq_some_iff.1 hp7).1).trans hp7
      have hRR8 := Kd.R_below hR7 hb8
      have sW7 := hW7.size
      have hk2 := keep_any hB8 hl7 sW7 ho8 hfar2 (by decide)
      have hv2 : ∀ b, (Value.slice A2 chW.length c2).ownBlock = some b → b < N0 ∨ N1 ≤ b ∨ f b < 0 := fun b hb => .inr (.inl (by have := (own_typed' ho8 b hb).1; omega))
      have hs8 := hW8.size
      have hfk := fun w1 (hK : Kept W.heap.size W.heap.size (rows2 ++ [(Value.slice A2 chW.length c2, chW)]) w8 w1) => filled_keep hK hQ7 (Nat.le_refl _) hv2 hW8 hs8 hp8 hRR8
      have HK2 := Lib.hid hk2
      have HFK := Lib.hid hfk
      clear hB7 hW7 hQ7 hp7 hR7 hfar2 hB8 hW8 hp8 hRR8 hk2 hv2 hfk hR8 ho8 hb8 hl7
      go_wp2_with fail
      refine HK2.out.mono ?_
      rintro e w9 ⟨rfl, hK9⟩
      have hF9 := HFK.out w9 hK9
      clear HK2 HFK hK9
      go_wp2_with fail
      go_loopw [9] (fun v wr => ∃ k : Nat, k ≤ rules.length ∧ v = .int .i64 k ∧ Filled W.heap.size W.heap.size N0 N1 N1 f A c rules W k wr) (fun v _ => rules.length - (intOf v).toNat)
      case atStart => exact ⟨0, Nat.zero_le _, rfl, hF9⟩
      case round =>
        clear hF9
        obtain ⟨k, hk, rfl, hF⟩ := hrel
        obtain ⟨L3, M3, held3, rows3, copies3, hB, hl, hW, hQ, hp, hR⟩ := hF
        have cp : wr.cell? ⟨N1, 0, none⟩ = some (.slice A rules.length c) := by rw [Joins.cell_of_block hp]; rfl
        by_cases hkt : k < rules.length
        · obtain ⟨gA, vk, rfl, ck, ok', hbl⟩ := rule_at hR rfl k hkt
          have hvk := HVL.out _ (List.getElem_mem hkt)
          have hfar3 : ∀ r ∈ rows3, Far r (vk, rules[k].f1) := fun r hr b hb e => by
            obtain ⟨⟨q1, q2⟩, q3⟩ := hbl b e
            rcases hQ r hr b hb with x | x | x <;> omega
          have hk3 := keep_any hB hl (b2 := N0) (by omega) ok' hfar3 (by omega)
          have hv3 : ∀ b, vk.ownBlock = some b → b < N0 ∨ N1 ≤ b ∨ f b < k + 1 := fun b hb => .inr (.inr (by have := (hbl b hb).2; omega))
          have hs9 := hW.size
          have hfk := fun w1 (hK : Kept W.heap.size W.heap.size (rows3 ++ [(vk, rules[k].f1)]) wr w1) => filled_keep hK hQ (Nat.le_succ k) hv3 hW hs9 hp hR
          have HK3 := Lib.hid hk3
          have HFK := Lib.hid hfk
          have K0 : (0 : Int) ≤ (k : Int) := by omega
          have K1 : (k : Int) < (rules.length : Int) := by omega
          clear hB hl hW hQ hp hR hbl ok' hfar3 hk3 hv3 hfk hvk
          go_wp2_with fail
          refine HK3.out.mono ?_
          rintro e w10 ⟨rfl, hK10⟩
          have hF10 := Lib.hid (HFK.out w10 hK10)
          clear HK3 HFK hK10
          go_wp2
          refine ⟨⟨k + 1, by omega, by go_num, hF10.out⟩, by simp [intOf]; omega⟩
        · have hb' : Hid (Booked W.heap.size W.heap.size W wr) := ⟨L3, M3, held3, rows3, copies3, hB, hl, hW⟩
          clear hB hl hW hQ hp hR
          go_wp2
          refine ⟨⟨i + 1, by omega, by go_num, hb'.out⟩, by simp [intOf]; omega⟩
    · obtain ⟨L, M, held, rows, copies, hB, hl, hW⟩ := hbk
      have ha := apart_any hB hl
      have hbs := hW.size
      clear hB hl
      go_wp2_with fail
      refine ha.mono ?_
      rintro e w4 ⟨rfl, hmv⟩
      have hW4 := hmv.below hW hbs
      clear ha hmv hW
      go_wp2_with fail
      refine (HKN.out _).mono ?_
      rintro e w5 ⟨rfl, hb5⟩
      have hW5 := below_step hW4 hb5
      clear hb5 hW4
      go_wp2
      go_ret
      exact ⟨rfl, hW5⟩

end Go.Proofs.YtohcjdninpjpgaaDoor.Own
