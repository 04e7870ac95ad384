/- PolicyFirst: the plain law. -/
import Derived.Test.YtohcjdninpjpgaaDoorRef2
import Derived.Test.YtohcjdninpjpgaaDoorPFst
set_option linter.unusedSimpArgs false
namespace Go.Proofs.YtohcjdninpjpgaaDoor.Pl
open Go.RowKit Go.Proofs.YtohcjdninpjpgaaDoor.PX Go.Proofs.YtohcjdninpjpgaaDoor.Own Go.Proofs.YtohcjdninpjpgaaDoorW.PrintWords Go.Proofs.YtohcjdninpjpgaaDoorW.PrintLast Go.Proofs.YtohcjdninpjpgaaDoorW.PrintMore

theorem known_at2 : ∀ d, ostiarylaw10_known.f (60 + d) = some true
  | 0 => known_all
  | d + 1 => ostiarylaw10_known.mono (60 + d) _ (known_at2 d)

/-- A word: small letters, one at least. -/
def small (s : ByteArray) : Prop := toL s ≠ [] ∧ (∀ c ∈ toL s, 97 ≤ c.toNat ∧ c.toNat ≤ 122) ∧ s.size ≤ 12

theorem small_plain {s : ByteArray} (h : small s) : plainB s := ⟨h.1, fun c hc => by
  have := h.2.1 c hc
  refine ⟨decide_eq_false (by omega), ?_⟩
  rintro rfl
  have h59 : (59 : UInt8).toNat = 59 := rfl
  omega⟩

theorem word_l0 (s : ByteArray) (hs : s.size ≤ 9223372036854775807) : ∀ (d i : Nat) (out : ByteArray) (K : Nat), i + d = s.size → small out → 2 * d + 2 ≤ K →
    ∃ r, small r ∧ ostiarylaw10_word.l0 K s out (i : Int) = some r := by
  intro d
  induction d with
  | zero =>
    intro i out K hi ho hK
    obtain ⟨K, rfl⟩ : ∃ k, K = k + 2 := ⟨K - 2, by omega⟩
    rw [ostiarylaw10_word.l0, if_neg (by omega), ostiarylaw10_word.j1, if_neg Bool.false_ne_true]
    exact ⟨out, ho, rfl⟩
  | succ d ih =>
    intro i out K hi ho hK
    obtain ⟨K, rfl⟩ : ∃ k, K = k + 2 := ⟨K - 2, by omega⟩
    have hlt : i < s.size := by omega
    have hw : wrap64 ((i : Int) + 1) = ((i + 1 : Nat) : Int) := by rw [wrap_in (by omega)]; omega
    rw [ostiarylaw10_word.l0, if_pos (by omega), ostiarylaw10_word.j1]
    by_cases h12 : (out.size : Int) < 12
    · rw [decide_eq_true h12, if_pos rfl, if_pos (by omega), if_pos (by omega), hw]
      by_cases h97 : bt s (i : Int) ≥ 97
      · rw [if_pos h97]
        by_cases h122 : bt s (i : Int) ≤ 122
        · have hx : toL (s.extract i (i + 1)) = [(toL s)[i]'(by rw [toL_length]; exact hlt)] := by
            rw [toL_extract, cur_next hlt (Nat.le_refl i), List.drop_of_length_le (by rw [List.length_take]; omega)]
            rfl
          have hxs : (s.extract i (i + 1)).size = 1 := by rw [size_toL, hx]; rfl
          rw [if_pos h122, if_pos (by omega), if_pos (by omega), Int.toNat_natCast, Int.toNat_natCast, if_pos (by omega)]
          refine ih (i + 1) _ K (by omega) ⟨?_, ?_, ?_⟩ (by omega)
          · rw [toL_append]
            intro e
            exact ho.1 (List.append_eq_nil_iff.1 e).1
          · intro c hc
            rw [toL_append, hx] at hc
            rcases List.mem_append.1 hc with hc | hc
            · exact ho.2.1 c hc
            · rw [List.mem_singleton.1 hc]
              rw [bt_toL hlt] at h97 h122
              omega
          · rw [ByteArray.size_append, hxs]
            omega
        · rw [if_neg h122]
          exact ih (i + 1) out K (by omega) ho (by omega)
      · rw [if_neg h97]
        exact ih (i + 1) out K (by omega) ho (by omega)
    · rw [decide_eq_false h12, if_neg Bool.false_ne_true]
      exact ⟨out, ho, rfl⟩

theorem small_q : small ⟨#[113]⟩ := ⟨by decide, by decide, by decide⟩

/-! ### a policy of two rules, and of three pieces -/

def dsrc : ByteArray := ⟨#[100, 101, 102, 97, 117, 108, 116, 45, 115, 114, 99]⟩
def isrc : ByteArray := ⟨#[105, 109, 103, 45, 115, 114, 99]⟩
def ssrc : ByteArray := ⟨#[115, 99, 114, 105, 112, 116, 45, 115, 114, 99]⟩

theorem dsrc_plain : plainB dsrc := ⟨by decide, by decide⟩
theorem isrc_plain : plainB isrc := ⟨by decide, by decide⟩
theorem ssrc_plain : plainB ssrc := ⟨by decide, by decide⟩
theorem dsrc_low : lowS dsrc = dsrc := by kernel_rfl
theorem isrc_low : lowS isrc = isrc := by kernel_rfl
theorem ssrc_low : lowS ssrc = ssrc := by kernel_rfl

theorem good_of {n v : ByteArray} (hl : lowS n = n) (hn : plainB n) (hv : plainB v) : goodR ⟨n, [v]⟩ := ⟨hl, hn, fun x hx => by rw [List.mem_singleton.1 hx]; exact hv⟩

theorem parse_two (n1 n2 v1 v2 : ByteArray) (h1 : goodR ⟨n1, [v1]⟩) (h2 : goodR ⟨n2, [v2]⟩) (hne : n1 ≠ n2) (s : ByteArray) (hs : toL s = textL [⟨n1, [v1]⟩, ⟨n2, [v2]⟩]) : parseS s = [⟨n1, [v1]⟩, ⟨n2, [v2]⟩] := by
  have e : s = textS [⟨n1, [v1]⟩, ⟨n2, [v2]⟩] := data_inj hs
  rw [e]
  refine parse_text _ (fun x hx => ?_) ?_ (by simp)
  · rcases List.mem_cons.1 hx with rfl | hx
    · exact h1
    · rw [List.mem_singleton.1 hx]; exact h2
  · unfold apartR
    simp [hne]

theorem parse_one (n1 v1 : ByteArray) (h1 : goodR ⟨n1, [v1]⟩) (s : ByteArray) (hs : toL s = textL [⟨n1, [v1]⟩]) : parseS s = [⟨n1, [v1]⟩] := by
  have e : s = textS [⟨n1, [v1]⟩] := data_inj hs
  rw [e]
  refine parse_text _ (fun x hx => ?_) ?_ (by simp)
  · rw [List.mem_singleton.1 hx]; exact h1
  · exact List.pairwise_singleton _ _

theorem textL_one (n v : ByteArray) : textL [⟨n, [v]⟩] = toL n ++ 32 :: toL v := by
  simp [textL, ruleT, Lib.join_cons, Lib.joinTail]

theorem textL_two (n v m u : ByteArray) : textL [⟨n, [v]⟩, ⟨m, [u]⟩] = toL n ++ 32 :: toL v ++ 59 :: 32 :: (toL m ++ 32 :: toL u) := by
  simp [textL, ruleT, Lib.join_cons, Lib.joinTail]

def Isrc : ByteArray := ⟨#[73, 109, 103, 45, 83, 114, 99]⟩
def othr : ByteArray := ⟨#[111, 116, 104, 101, 114]⟩
theorem Isrc_plain : plainB Isrc := ⟨by decide, by decide⟩
theorem othr_plain : plainB othr := ⟨by decide, by decide⟩
theorem Isrc_low : lowS Isrc = isrc := by kernel_rfl

theorem words_of (x : S52) (hn : plainB x.f0) (hv : ∀ v ∈ x.f1, plainB v) (p : ByteArray) (hp : toL p = ruleT x ∨ toL p = 32 :: ruleT x) : wordsOf p = x.f0 :: x.f1 := by
  apply toL_inj
  rw [words_toL]
  have h0 : wl [] (ruleT x) = (x.f0 :: x.f1).map toL := by
    unfold ruleT
    rw [List.map_cons, Lib.join_cons, wl_words _ _ [] ⟨hn.1, fun c hc => (hn.2 c hc).1⟩ (fun y hy => by
      obtain ⟨v, hv', rfl⟩ := List.mem_map.1 hy
      exact ⟨(hv v hv').1, fun c hc => ((hv v hv').2 c hc).1⟩)]
    simp
  rcases hp with e | e
  · rw [e, h0]
  · rw [e, wl, if_pos (by decide), ← h0]
    rfl

theorem no59 (x : S52) (hn : plainB x.f0) (hv : ∀ v ∈ x.f1, plainB v) : (59 : UInt8) ∉ ruleT x := by
  unfold ruleT
  rw [List.map_cons, Lib.join_cons]
  intro h
  rcases List.mem_append.1 h with h | h
  · exact (hn.2 _ h).2 rfl
  · unfold Lib.joinTail at h
    rw [List.mem_flatten] at h
    obtain ⟨q, hq, hm⟩ := h
    obtain ⟨y, hy, rfl⟩ := List.mem_map.1 hq
    obtain ⟨v, hv', rfl⟩ := List.mem_map.1 hy
    rcases List.mem_append.1 hm with h | h
    · exact absurd h (by decide)
    · exact ((hv v hv').2 _ h).2 rfl

theorem di_ne : dsrc ≠ isrc := by decide

theorem one_plain {v : ByteArray} (h : plainB v) : ∀ x ∈ [v], plainB x := fun x hx => by rw [List.mem_singleton.1 hx]; exact h

theorem parse_three (x y : ByteArray) (hx : plainB x) (hy : plainB y) (s : ByteArray) (hs : toL s = textL [⟨dsrc, [x]⟩, ⟨isrc, [y]⟩, ⟨Isrc, [othr]⟩]) : parseS s = [⟨dsrc, [x]⟩, ⟨isrc, [y]⟩] := by
  have hp : (piecesOf 59 s).map toL = ruleT ⟨dsrc, [x]⟩ :: ([ruleT ⟨isrc, [y]⟩, ruleT ⟨Isrc, [othr]⟩]).map (32 :: ·) := by
    rw [pieces_toL, hs]
    unfold textL
    rw [List.map_cons, Lib.join_cons, List.map_cons, List.map_cons, List.map_nil, spl_texts _ _ (no59 _ dsrc_plain (one_plain hx)) (fun z hz => by
      rcases List.mem_cons.1 hz with rfl | hz
      · exact no59 _ isrc_plain (one_plain hy)
      · rw [List.mem_singleton.1 hz]
        exact no59 _ Isrc_plain (one_plain othr_plain))]
  obtain ⟨p0, p1, p2, hps, e0, e1, e2⟩ : ∃ p0 p1 p2, piecesOf 59 s = [p0, p1, p2] ∧ toL p0 = ruleT ⟨dsrc, [x]⟩ ∧ toL p1 = 32 :: ruleT ⟨isrc, [y]⟩ ∧ toL p2 = 32 :: ruleT ⟨Isrc, [othr]⟩ := by
    match hm : piecesOf 59 s, hp with
    | [p0, p1, p2], h =>
      simp only [List.map_cons, List.map_nil, List.cons.injEq, and_true] at h
      exact ⟨p0, p1, p2, rfl, h.1, h.2.1, h.2.2⟩
    | [], h => simp at h
    | [_], h => simp at h
    | [_, _], h => simp at h
    | _ :: _ :: _ :: _ :: _, h => simp at h
  have w0 := words_of ⟨dsrc, [x]⟩ dsrc_plain (one_plain hx) p0 (.inl e0)
  have w1 := words_of ⟨isrc, [y]⟩ isrc_plain (one_plain hy) p1 (.inr e1)
  have w2 := words_of ⟨Isrc, [othr]⟩ Isrc_plain (one_plain othr_plain) p2 (.inr e2)
  have a0 : addR [] p0 = [⟨dsrc, [x]⟩] := by
    unfold addR
    rw [w0]
    simp only
    rw [if_neg (by decide), dsrc_low, if_pos (by rw [ruleFrom]; decide)]
    rfl
  have a1 : addR [⟨dsrc, [x]⟩] p1 = [⟨dsrc, [x]⟩, ⟨isrc, [y]⟩] := by
    unfold addR
    rw [w1]
    simp only
    rw [if_neg (by simp), isrc_low, if_pos (by rw [ruleFrom_miss _ _ _ (fun z hz => by rw [List.mem_singleton.1 hz]; exact di_ne)]; decide)]
    rfl
  have a2 : addR [⟨dsrc, [x]⟩, ⟨isrc, [y]⟩] p2 = [⟨dsrc, [x]⟩, ⟨isrc, [y]⟩] := by
    unfold addR
    rw [w2]
    simp only
    rw [if_neg (by simp), Isrc_low, if_neg]
    rcases ruleFrom_cases isrc [⟨dsrc, [x]⟩, ⟨isrc, [y]⟩] 0 with ⟨_, h⟩ | ⟨h, _, _⟩
    · exact absurd rfl (h ⟨isrc, [y]⟩ (by simp))
    · omega
  unfold parseS
  rw [hps, List.foldl_cons, a0, List.foldl_cons, a1, List.foldl_cons, a2, List.foldl_nil]

theorem textL_three (n v m u o z : ByteArray) : textL [⟨n, [v]⟩, ⟨m, [u]⟩, ⟨o, [z]⟩] = toL n ++ 32 :: toL v ++ 59 :: 32 :: (toL m ++ 32 :: toL u) ++ 59 :: 32 :: (toL o ++ 32 :: toL z) := by
  simp [textL, ruleT, Lib.join_cons, Lib.joinTail]

/-! ### the values -/

def fsrc : ByteArray := ⟨#[102, 111, 110, 116, 45, 115, 114, 99]⟩
def sels : ByteArray := ⟨#[115, 99, 114, 105, 112, 116, 45, 115, 114, 99, 45, 101, 108, 101, 109]⟩

theorem chain_at {a : ByteArray} {ch : List ByteArray} (h : policy_Chain.f 1 a = some ch) : ∀ d, policy_Chain.f (1 + d) a = some ch
  | 0 => h
  | d + 1 => policy_Chain.mono a (1 + d) _ (chain_at h d)

theorem ch_img : policy_Chain.f 1 isrc = some [isrc, dsrc] := by kernel_rfl
theorem ch_font : policy_Chain.f 1 fsrc = some [fsrc, dsrc] := by kernel_rfl
theorem ch_elem : policy_Chain.f 1 sels = some [sels, ssrc, dsrc] := by kernel_rfl

theorem values_at (l : List S52) (hl : l.length ≤ 2) (hv : ∀ x ∈ l, x.f1.length ≤ 1) (rep : Bool) (n : ByteArray) (ch : List ByteArray) (hch : policy_Chain.f 1 n = some ch) (hc : ch.length ≤ 4) (K : Nat) (hK : 100 ≤ K) : policy_Values.f K l rep n = some (valuesS l ch) := by
  obtain ⟨d, rfl⟩ : ∃ d, K = 1 + d := ⟨K - 1, by omega⟩
  unfold policy_Values.f
  rw [chain_at hch d, Option.bind_some]
  have := values_l0 l 1 (by omega) hv (by omega) rep ch hc ch.length 0 (1 + d) (by omega) (by omega)
  rw [List.drop_zero] at this
  exact this

theorem v1 (x y : ByteArray) : valuesS [⟨dsrc, [x]⟩, ⟨isrc, [y]⟩] [isrc, dsrc] = ([y], isrc, true) := by
  have e1 : (dsrc.toList == isrc.toList) = false := by kernel_rfl
  have e2 : (isrc.toList == isrc.toList) = true := by kernel_rfl
  simp [valuesS, List.find?_cons, e1, e2]
theorem v2 (x y : ByteArray) : valuesS [⟨dsrc, [x]⟩, ⟨isrc, [y]⟩] [fsrc, dsrc] = ([x], dsrc, true) := by
  have e1 : (dsrc.toList == fsrc.toList) = false := by kernel_rfl
  have e2 : (isrc.toList == fsrc.toList) = false := by kernel_rfl
  have e3 : (dsrc.toList == dsrc.toList) = true := by kernel_rfl
  simp [valuesS, List.find?_cons, e1, e2, e3]
theorem v3 (x : ByteArray) : valuesS [⟨ssrc, [x]⟩] [isrc, dsrc] = ([], ⟨#[]⟩, false) := by
  have e1 : (ssrc.toList == isrc.toList) = false := by kernel_rfl
  have e2 : (ssrc.toList == dsrc.toList) = false := by kernel_rfl
  simp [valuesS, List.find?_cons, e1, e2]
theorem v4 (a x : ByteArray) : valuesS [⟨dsrc, [a]⟩, ⟨ssrc, [x]⟩] [sels, ssrc, dsrc] = ([x], ssrc, true) := by
  have e1 : (dsrc.toList == sels.toList) = false := by kernel_rfl
  have e2 : (ssrc.toList == sels.toList) = false := by kernel_rfl
  have e3 : (dsrc.toList == ssrc.toList) = false := by kernel_rfl
  have e4 : (ssrc.toList == ssrc.toList) = true := by kernel_rfl
  simp [valuesS, List.find?_cons, e1, e2, e3, e4]

theorem word_f (s : ByteArray) (hs : s.size ≤ 9223372036854775807) (K : Nat) (hK : 2 * s.size + 2 ≤ K) : ∃ r, small r ∧ ostiarylaw10_word.f K s = some r :=
  word_l0 s hs s.size 0 ⟨#[113]⟩ K (by omega) small_q hK

theorem word_mono (s r : ByteArray) (K : Nat) (h : ostiarylaw10_word.f K s = some r) : ∀ d, ostiarylaw10_word.f (K + d) s = some r
  | 0 => h
  | d + 1 => ostiarylaw10_word.mono s (K + d) _ (word_mono s r K h d)

theorem first_pure (a0 a1 : ByteArray) (h0 : a0.size ≤ 9223372036854775807) (h1 : a1.size ≤ 9223372036854775807) : ∃ k, ostiarylaw10_PolicyFirst.f k a0 a1 = some true := by
  obtain ⟨x, hx, e0⟩ := word_f a0 h0 (2 * a0.size + 2) (Nat.le_refl _)
  obtain ⟨y, hy, e1⟩ := word_f a1 h1 (2 * a1.size + 2) (Nat.le_refl _)
  obtain ⟨K, hK⟩ : ∃ K, K = 2 * a0.size + 2 * a1.size + 10000 := ⟨_, rfl⟩
  have e0' : ostiarylaw10_word.f K a0 = some x := by
    have := word_mono a0 x _ e0 (2 * a1.size + 9998)
    rwa [show 2 * a0.size + 2 + (2 * a1.size + 9998) = K by omega] at this
  have e1' : ostiarylaw10_word.f K a1 = some y := by
    have := word_mono a1 y _ e1 (2 * a0.size + 9998)
    rwa [show 2 * a1.size + 2 + (2 * a0.size + 9998) = K by omega] at this
  have px := small_plain hx
  have py := small_plain hy
  have sx := hx.2.2
  have sy := hy.2.2
  have z12 : (⟨#[100, 101, 102, 97, 117, 108, 116, 45, 115, 114, 99, 32]⟩ : ByteArray).size = 12 := rfl
  have z10 : (⟨#[59, 32, 105, 109, 103, 45, 115, 114, 99, 32]⟩ : ByteArray).size = 10 := rfl
  have z15 : (⟨#[59, 32, 73, 109, 103, 45, 83, 114, 99, 32, 111, 116, 104, 101, 114]⟩ : ByteArray).size = 15 := rfl
  have z11 : (⟨#[115, 99, 114, 105, 112, 116, 45, 115, 114, 99, 32]⟩ : ByteArray).size = 11 := rfl
  have z26 : (⟨#[100, 101, 102, 97, 117, 108, 116, 45, 115, 114, 99, 32, 97, 59, 32, 115, 99, 114, 105, 112, 116, 45, 115, 114, 99, 32]⟩ : ByteArray).size = 26 := rfl
  have c1 : ((⟨#[100, 101, 102, 97, 117, 108, 116, 45, 115, 114, 99, 32]⟩ : ByteArray) ++ x).size = 12 + x.size := by rw [ByteArray.size_append, z12]
  have c2 : (((⟨#[100, 101, 102, 97, 117, 108, 116, 45, 115, 114, 99, 32]⟩ : ByteArray) ++ x) ++ (⟨#[59, 32, 105, 109, 103, 45, 115, 114, 99, 32]⟩ : ByteArray)).size = 22 + x.size := by rw [ByteArray.size_append, c1, z10]; omega
  have c3 : ((((⟨#[100, 101, 102, 97, 117, 108, 116, 45, 115, 114, 99, 32]⟩ : ByteArray) ++ x) ++ (⟨#[59, 32, 105, 109, 103, 45, 115, 114, 99, 32]⟩ : ByteArray)) ++ y).size = 22 + x.size + y.size := by rw [ByteArray.size_append, c2]
  have c4 : (((((⟨#[100, 101, 102, 97, 117, 108, 116, 45, 115, 114, 99, 32]⟩ : ByteArray) ++ x) ++ (⟨#[59, 32, 105, 109, 103, 45, 115, 114, 99, 32]⟩ : ByteArray)) ++ y) ++ (⟨#[59, 32, 73, 109, 103, 45, 83, 114, 99, 32, 111, 116, 104, 101, 114]⟩ : ByteArray)).size = 37 + x.size + y.size := by rw [ByteArray.size_append, c3, z15]; omega
  have c5 : ((⟨#[115, 99, 114, 105, 112, 116, 45, 115, 114, 99, 32]⟩ : ByteArray) ++ x).size = 11 + x.size := by rw [ByteArray.size_append, z11]
  have c6 : ((⟨#[100, 101, 102, 97, 117, 108, 116, 45, 115, 114, 99, 32, 97, 59, 32, 115, 99, 114, 105, 112, 116, 45, 115, 114, 99, 32]⟩ : ByteArray) ++ x).size = 26 + x.size := by rw [ByteArray.size_append, z26]
  have P1 := parse_three x y px py (((((⟨#[100, 101, 102, 97, 117, 108, 116, 45, 115, 114, 99, 32]⟩ : ByteArray) ++ x) ++ (⟨#[59, 32, 105, 109, 103, 45, 115, 114, 99, 32]⟩ : ByteArray)) ++ y) ++ (⟨#[59, 32, 73, 109, 103, 45, 83, 114, 99, 32, 111, 116, 104, 101, 114]⟩ : ByteArray)) (by
    rw [textL_three]
    simp only [toL_append, List.append_assoc]
    rfl)
  have P2 := parse_one ssrc x (good_of ssrc_low ssrc_plain px) ((⟨#[115, 99, 114, 105, 112, 116, 45, 115, 114, 99, 32]⟩ : ByteArray) ++ x) (by
    rw [textL_one, toL_append]
    rfl)
  have pa : plainB (⟨#[97]⟩ : ByteArray) := ⟨by decide, by decide⟩
  have P3 := parse_two dsrc ssrc (⟨#[97]⟩ : ByteArray) x (good_of dsrc_low dsrc_plain pa) (good_of ssrc_low ssrc_plain px) (by decide) ((⟨#[100, 101, 102, 97, 117, 108, 116, 45, 115, 114, 99, 32, 97, 59, 32, 115, 99, 114, 105, 112, 116, 45, 115, 114, 99, 32]⟩ : ByteArray) ++ x) (by
    rw [textL_two, toL_append]
    rfl)
  have two : ∀ a b c d : ByteArray, ∀ z ∈ [(⟨a, [b]⟩ : S52), ⟨c, [d]⟩], z.f1.length ≤ 1 := fun a b c d z hz => by
    rcases List.mem_cons.1 hz with rfl | hz
    · exact Nat.le_refl _
    · rw [List.mem_singleton.1 hz]
      exact Nat.le_refl _
  have A1 := values_at [⟨dsrc, [x]⟩, ⟨isrc, [y]⟩] (Nat.le_refl _) (two _ _ _ _) false isrc _ ch_img (by decide) K (by omega)
  have A2 := values_at [⟨dsrc, [x]⟩, ⟨isrc, [y]⟩] (Nat.le_refl _) (two _ _ _ _) false fsrc _ ch_font (by decide) K (by omega)
  have A3 := values_at [⟨ssrc, [x]⟩] (by simp) (fun z hz => by rw [List.mem_singleton.1 hz]; exact Nat.le_refl _) false isrc _ ch_img (by decide) K (by omega)
  have A4 := values_at [⟨dsrc, [⟨#[97]⟩]⟩, ⟨ssrc, [x]⟩] (Nat.le_refl _) (two _ _ _ _) false sels _ ch_elem (by decide) K (by omega)
  rw [v1] at A1
  rw [v2] at A2
  rw [v3] at A3
  rw [v4] at A4
  have F2 : policy_For.f 2 = some sels := by kernel_rfl
  have hk : ostiarylaw10_known.f K = some true := by
    obtain ⟨d, rfl⟩ : ∃ d, K = 60 + d := ⟨K - 60, by omega⟩
    exact known_at2 d
  refine ⟨K, ?_⟩
  unfold ostiarylaw10_PolicyFirst.f
  rw [e0', Option.bind_some, e1', Option.bind_some, if_pos (by omega), if_pos (by omega), if_pos (by omega), if_pos (by omega), parse_f _ false (by rw [c4]; omega) K (by rw [c4]; omega), Option.bind_some, P1]
  simp only
  rw [show (⟨#[105, 109, 103, 45, 115, 114, 99]⟩ : ByteArray) = isrc from rfl, show (⟨#[102, 111, 110, 116, 45, 115, 114, 99]⟩ : ByteArray) = fsrc from rfl, A1, Option.bind_some, A2, Option.bind_some, if_pos (by omega), parse_f _ false (by rw [c5]; omega) K (by rw [c5]; omega), Option.bind_some, P2]
  simp only
  rw [A3, Option.bind_some, if_pos (by omega), parse_f _ false (by rw [c6]; omega) K (by rw [c6]; omega), Option.bind_some, P3]
  simp only
  have q1 : isrc.toList = ([105, 109, 103, 45, 115, 114, 99] : List UInt8) := by kernel_rfl
  have q2 : dsrc.toList = ([100, 101, 102, 97, 117, 108, 116, 45, 115, 114, 99] : List UInt8) := by kernel_rfl
  have q3 : ssrc.toList = ([115, 99, 114, 105, 112, 116, 45, 115, 114, 99] : List UInt8) := by kernel_rfl
  have one : ∀ v : ByteArray, ostiarybook_Same_string.f K [v] [v] = some true := fun v => sameS_f [v] (by simp) K (by simp; omega)
  rw [F2, Option.bind_some, A4, Option.bind_some]
  simp only [q1, q2, q3, if_true, one, Option.bind_some, hk]
  simp

end Go.Proofs.YtohcjdninpjpgaaDoor.Pl
namespace Go.Proofs.YtohcjdninpjpgaaDoor.Own
open Go.RowKit Go.Proofs.YtohcjdninpjpgaaDoor.PX Go.Proofs.YtohcjdninpjpgaaDoor.Pl Go.Proofs.YtohcjdninpjpgaaDoorW.PrintWords
theorem first_any (a0 a1 : ByteArray) (h0 : a0.size ≤ 9223372036854775807) (h1 : a1.size ≤ 9223372036854775807) (w : World) : Calls Tryd.prog 7 #[.string a0, .string a1] w fun e w' => e = .returned (.bool true) ∧ Below w.heap.size w w' := by
  obtain ⟨k, h⟩ := first_pure a0 a1 h0 h1
  exact ostiarylaw10_PolicyFirst.calls k a0 a1 true w h rfl
end Go.Proofs.YtohcjdninpjpgaaDoor.Own
