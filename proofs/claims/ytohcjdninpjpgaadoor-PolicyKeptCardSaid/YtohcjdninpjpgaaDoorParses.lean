/- Plain law: Parse and Text as their loops compute them, and there and back. -/
import Derived.Test.YtohcjdninpjpgaaDoorRules
namespace Go.Proofs.YtohcjdninpjpgaaDoor.Pl
open Go.RowKit Go.Proofs.YtohcjdninpjpgaaDoor.PX Go.Proofs.YtohcjdninpjpgaaDoor.Own Go.Proofs.YtohcjdninpjpgaaDoorW.PrintWords Go.Proofs.YtohcjdninpjpgaaDoorW.PrintLast Go.Proofs.YtohcjdninpjpgaaDoorW.PrintMore

theorem rule_f (acc : List S52) (rep : Bool) (name : ByteArray) (h : acc.length ≤ 9223372036854775807) :
    ∃ a b, policy_Policy_rule.f acc rep name = some (a, b, !decide (ruleFrom name acc 0 < 0)) := by
  unfold policy_Policy_rule.f policy_Rule.f
  rw [if_pos h, Option.bind_some]
  rcases ruleFrom_cases name acc 0 with ⟨h1, _⟩ | ⟨h1, h2, _⟩
  · rw [h1]
    exact ⟨_, _, rfl⟩
  · have h3 : ¬ ruleFrom name acc 0 < 0 := by omega
    rw [if_neg h3, if_pos (by omega), if_pos (by omega), decide_eq_false h3]
    exact ⟨_, _, rfl⟩

theorem addR_le (acc : List S52) (p : ByteArray) (h : acc.length ≤ 32) : (addR acc p).length ≤ 32 := by
  unfold addR
  split
  · exact h
  · split
    · exact h
    · split
      · simp; omega
      · exact h

theorem parse_l0 (rep : Bool) (ps : List ByteArray) (hn : ps.length < 4611686018427387904) (hs : ∀ p ∈ ps, p.size < 90000000) : ∀ (d i : Nat) (acc : List S52) (K : Nat), i + d = ps.length → 2 * d + 1 ≤ K → acc.length ≤ 32 →
    policy_Parse.l0 K ps (ps.length : Int) (i : Int) acc rep = some ((ps.drop i).foldl addR acc, rep) := by
  intro d
  induction d with
  | zero =>
    intro i acc K hi hK hacc
    obtain ⟨K, rfl⟩ : ∃ k, K = k + 1 := ⟨K - 1, by omega⟩
    rw [policy_Parse.l0, if_neg (by omega), List.drop_of_length_le (by omega)]
    rfl
  | succ d ih =>
    intro i acc K hi hK hacc
    obtain ⟨K, rfl⟩ : ∃ k, K = k + 2 := ⟨K - 2, by omega⟩
    have hlt : i < ps.length := by omega
    have hw : wrap64 ((i : Int) + 1) = ((i + 1 : Nat) : Int) := by rw [wrap_in (by omega)]; omega
    have hrd : rdOf ByteArray.empty ps (i : Int) = ps[i] := by
      unfold rdOf
      rw [Int.toNat_natCast, List.getD_eq_getElem?_getD, List.getElem?_eq_getElem hlt]
      rfl
    have hp := hs ps[i] (List.getElem_mem hlt)
    have hwd : policy_words.f ps[i] = some (wordsOf ps[i]) := by unfold policy_words.f; rw [if_pos (by omega)]; rfl
    have hdrop : ps.drop i = ps[i] :: ps.drop (i + 1) := List.drop_eq_getElem_cons hlt
    rw [policy_Parse.l0, if_pos (by omega), if_pos (by omega), if_pos (by omega), hrd, hwd, Option.bind_some, hdrop, List.foldl_cons]
    have hgo : ∀ acc', acc'.length ≤ 32 → policy_Parse.l0 K ps (ps.length : Int) (wrap64 ((i : Int) + 1)) acc' rep = some ((ps.drop (i + 1)).foldl addR acc', rep) := fun acc' h' => by
      rw [hw]
      exact ih (i + 1) acc' K (by omega) (by omega) h'
    cases hws : wordsOf ps[i] with
    | nil =>
      have e : addR acc ps[i] = acc := by unfold addR; rw [hws]
      rw [e, if_pos (by simp), policy_Parse.j1, if_pos rfl]
      exact hgo acc hacc
    | cons n vs =>
      have hnl : ¬ ((n :: vs).length : Int) = 0 := by simp; omega
      rw [if_neg hnl, policy_Parse.j1]
      by_cases h32 : 32 ≤ acc.length
      · have e : addR acc ps[i] = acc := by unfold addR; rw [hws]; simp only; rw [if_pos h32]
        rw [e, if_pos (decide_eq_true (by omega))]
        exact hgo acc hacc
      · rw [if_neg (by simp; omega), if_pos (by simp)]
        have hr0 : rdOf ByteArray.empty (n :: vs) 0 = n := rfl
        have hns : n.size < 100000000 := by
          have := word_size ps[i] n (by rw [hws]; exact List.mem_cons_self)
          omega
        have hlo : infra_Lower.f n = some (lowS n) := by unfold infra_Lower.f; rw [if_pos hns]; rfl
        obtain ⟨ra, rb, hrf⟩ := rule_f acc rep (lowS n) (by omega)
        rw [hr0, hlo, Option.bind_some, hrf, Option.bind_some]
        simp only
        by_cases hneg : ruleFrom (lowS n) acc 0 < 0
        · have e : addR acc ps[i] = acc ++ [⟨lowS n, vs⟩] := by unfold addR; rw [hws]; simp only; rw [if_neg h32, if_pos hneg]
          have hcl : slices_Clone_string_string.f vs = some vs := by
            unfold slices_Clone_string_string.f
            have := words_length ps[i]
            rw [hws, List.length_cons] at this
            rw [if_pos (by omega)]
          rw [e, if_neg (by rw [decide_eq_true hneg]; decide), if_pos (by simp; omega), List.drop_one, List.tail_cons, hcl, Option.bind_some, if_pos (by omega)]
          exact hgo _ (by simp; omega)
        · have e : addR acc ps[i] = acc := by unfold addR; rw [hws]; simp only; rw [if_neg h32, if_neg hneg]
          rw [e, if_pos (by rw [decide_eq_false hneg]; rfl)]
          exact hgo acc hacc

theorem parse_f (s : ByteArray) (rep : Bool) (hs : s.size < 90000000) (K : Nat) (hK : 2 * s.size + 3 ≤ K) : policy_Parse.f K s rep = some (parseS s, rep) := by
  have hl := pieces_length 59 s
  unfold policy_Parse.f strings_Split.f
  rw [if_pos ⟨rfl, by omega⟩, Option.bind_some]
  have := parse_l0 rep (piecesOf 59 s) (by omega) (fun p hp => Nat.lt_of_le_of_lt (piece_le 59 s p hp).1 hs) (piecesOf 59 s).length 0 [] K (by omega) (by omega) (by simp)
  rw [List.drop_zero] at this
  exact this

/-! ### Text -/

def ruleT (x : S52) : List UInt8 := Lib.join ((x.f0 :: x.f1).map toL) [32]

def textL (l : List S52) : List UInt8 := Lib.join (l.map ruleT) [59, 32]

def textS (l : List S52) : ByteArray := ⟨(textL l).toArray⟩

theorem join_cost (w : List UInt8) (r : List (List UInt8)) : (Lib.join (w :: r) [32]).length + 1 = cost (w :: r) := by
  rw [Lib.join_cons, List.length_append, Lib.joinTail_length]
  have : ∀ r : List (List UInt8), [(32 : UInt8)].length * r.length + Lib.lens r = cost r := by
    intro r
    induction r with
    | nil => rfl
    | cons a r ih =>
      simp [cost, Lib.lens] at ih ⊢
      omega
  rw [this]
  simp [cost]
  omega

theorem text_l0 (rules : List S52) (hn : rules.length < 1000000) (hx : ∀ x ∈ rules, (ruleT x).length < 100000000 ∧ x.f1.length < 100000000) (ht : (textL rules).length < 100000000000) : ∀ (d i : Nat) (out : List ByteArray) (K : Nat), i + d = rules.length → d + 1 ≤ K → out.map toL = (rules.take i).map ruleT →
    policy_Text.l0 K out rules (rules.length : Int) (i : Int) = some (textS rules) := by
  intro d
  induction d with
  | zero =>
    intro i out K hi hK ho
    obtain ⟨K, rfl⟩ : ∃ k, K = k + 1 := ⟨K - 1, by omega⟩
    rw [policy_Text.l0, if_neg (by omega)]
    rw [List.take_of_length_le (by omega)] at ho
    have hol : out.length = rules.length := by simpa using congrArg List.length ho
    have e : Lib.join (out.map (·.data.toList)) ((⟨#[59, 32]⟩ : ByteArray)).data.toList = textL rules := by
      unfold textL
      rw [← ho]
    unfold strings_Join.f
    rw [e, if_pos ⟨by omega, by omega⟩]
    rfl
  | succ d ih =>
    intro i out K hi hK ho
    obtain ⟨K, rfl⟩ : ∃ k, K = k + 1 := ⟨K - 1, by omega⟩
    have hlt : i < rules.length := by omega
    have hol : out.length = i := by
      have := congrArg List.length ho
      rw [List.length_map, List.length_map, List.length_take] at this
      omega
    have hw : wrap64 ((i : Int) + 1) = ((i + 1 : Nat) : Int) := by rw [wrap_in (by omega)]; omega
    have hrd : rd_T52 rules (i : Int) = rules[i] := by
      unfold rd_T52
      rw [Int.toNat_natCast, List.getD_eq_getElem?_getD, List.getElem?_eq_getElem hlt]
      rfl
    obtain ⟨h1, h2⟩ := hx rules[i] (List.getElem_mem hlt)
    have hj : strings_Join.f ([rules[i].f0] ++ rules[i].f1) ⟨#[32]⟩ = some ⟨(ruleT rules[i]).toArray⟩ := by
      unfold strings_Join.f
      have e : Lib.join (([rules[i].f0] ++ rules[i].f1).map (·.data.toList)) ((⟨#[32]⟩ : ByteArray)).data.toList = ruleT rules[i] := rfl
      rw [e, if_pos ⟨by simp; omega, by omega⟩]
    rw [policy_Text.l0, if_pos (by omega), if_pos (by omega), if_pos (by omega), hrd, Option.bind_some, if_pos (by simp; omega), hj, Option.bind_some, if_pos (by omega), hw]
    refine ih (i + 1) _ K (by omega) (by omega) ?_
    rw [List.map_append, ho, List.take_succ_eq_append_getElem hlt, List.map_append]
    rfl

theorem text_f (rules : List S52) (rep : Bool) (hn : rules.length < 1000000) (hx : ∀ x ∈ rules, (ruleT x).length < 100000000 ∧ x.f1.length < 100000000) (ht : (textL rules).length < 100000000000) (K : Nat) (hK : rules.length + 1 ≤ K) :
    policy_Text.f K rules rep = some (textS rules) := text_l0 rules hn hx ht rules.length 0 [] K (by omega) (by omega) (by simp)

/-! ### there and back -/

def goodR (x : S52) : Prop := lowS x.f0 = x.f0 ∧ plainB x.f0 ∧ ∀ v ∈ x.f1, plainB v

theorem wl_words : ∀ (r : List (List UInt8)) (w cur : List UInt8), (w ≠ [] ∧ ∀ c ∈ w, sp c = false) → (∀ y ∈ r, y ≠ [] ∧ ∀ c ∈ y, sp c = false) → wl cur (w ++ Lib.joinTail [32] r) = (cur ++ w) :: r
  | [], w, cur, hw, _ => by
    rw [wl_take w.length cur _ (by intro c hc; simp [Lib.joinTail] at hc; exact hw.2 c hc)]
    have e1 : (w ++ Lib.joinTail [32] []).take w.length = w := by simp
    have e2 : (w ++ Lib.joinTail [32] []).drop w.length = [] := by simp [Lib.joinTail]
    rw [e1, e2, wl, if_neg (isE (by intro e; exact hw.1 (List.append_eq_nil_iff.1 e).2))]
  | y :: r, w, cur, hw, hr => by
    have e0 : Lib.joinTail [32] (y :: r) = 32 :: (y ++ Lib.joinTail [32] r) := by simp [Lib.joinTail]
    rw [e0, wl_take w.length cur _ (by intro c hc; simp at hc; exact hw.2 c hc)]
    have e1 : (w ++ 32 :: (y ++ Lib.joinTail [32] r)).take w.length = w := by simp
    have e2 : (w ++ 32 :: (y ++ Lib.joinTail [32] r)).drop w.length = 32 :: (y ++ Lib.joinTail [32] r) := by simp
    rw [e1, e2, wl, if_pos (by decide), if_neg (isE (by intro e; exact hw.1 (List.append_eq_nil_iff.1 e).2)), wl_words r y [] (hr y List.mem_cons_self) (fun z hz => hr z (List.mem_cons_of_mem _ hz))]
    simp

theorem spl_run (c : UInt8) : ∀ (t cur l : List UInt8), c ∉ t → spl c cur (t ++ l) = spl c (cur ++ t) l
  | [], cur, l, _ => by simp
  | x :: r, cur, l, h => by
    rw [List.cons_append, spl, if_neg (by intro e; exact h (by simp at e; simp [e])), spl_run c r _ l (fun hx => h (List.mem_cons_of_mem _ hx))]
    simp

theorem spl_texts : ∀ (r : List (List UInt8)) (t : List UInt8), (59 : UInt8) ∉ t → (∀ y ∈ r, (59 : UInt8) ∉ y) → spl 59 [] (t ++ Lib.joinTail [59, 32] r) = t :: r.map (32 :: ·)
  | [], t, ht, _ => by
    rw [spl_run 59 t [] _ ht]
    simp [Lib.joinTail, spl]
  | y :: r, t, ht, hr => by
    have e0 : Lib.joinTail [59, 32] (y :: r) = 59 :: ((32 :: y) ++ Lib.joinTail [59, 32] r) := by simp [Lib.joinTail]
    rw [spl_run 59 t [] _ ht, e0, spl, if_pos (by decide), spl_texts r (32 :: y) (by intro h; rcases List.mem_cons.1 h with h | h; exact absurd h (by decide); exact hr y List.mem_cons_self h) (fun z hz => hr z (List.mem_cons_of_mem _ hz))]
    simp

theorem toL_inj {a b : List ByteArray} (h : a.map toL = b.map toL) : a = b := by
  induction a generalizing b with
  | nil =>
    cases b with
    | nil => rfl
    | cons _ _ => simp at h
  | cons x r ih =>
    cases b with
    | nil => simp at h
    | cons y q =>
      simp only [List.map_cons, List.cons.injEq] at h
      rw [data_inj h.1, ih h.2]

theorem words_rule (x : S52) (hg : goodR x) (p : ByteArray) (hp : toL p = ruleT x ∨ toL p = 32 :: ruleT x) : wordsOf p = x.f0 :: x.f1 := by
  apply toL_inj
  rw [words_toL]
  have h0 : wl [] (ruleT x) = (x.f0 :: x.f1).map toL := by
    unfold ruleT
    rw [List.map_cons, Lib.join_cons, wl_words _ _ [] ⟨hg.2.1.1, fun c hc => (hg.2.1.2 c hc).1⟩ (fun y hy => by
      obtain ⟨v, hv, rfl⟩ := List.mem_map.1 hy
      exact ⟨(hg.2.2 v hv).1, fun c hc => ((hg.2.2 v hv).2 c hc).1⟩)]
    simp
  rcases hp with e | e
  · rw [e, h0]
  · rw [e, wl, if_pos (by decide), ← h0]
    rfl

theorem rule_no (x : S52) (hg : goodR x) : (59 : UInt8) ∉ ruleT x := by
  unfold ruleT
  rw [List.map_cons, Lib.join_cons]
  intro h
  rcases List.mem_append.1 h with h | h
  · exact (hg.2.1.2 _ h).2 rfl
  · unfold Lib.joinTail at h
    rw [List.mem_flatten] at h
    obtain ⟨q, hq, hm⟩ := h
    obtain ⟨y, hy, rfl⟩ := List.mem_map.1 hq
    obtain ⟨v, hv, rfl⟩ := List.mem_map.1 hy
    rcases List.mem_append.1 hm with h | h
    · exact absurd h (by decide)
    · exact ((hg.2.2 v hv).2 _ h).2 rfl

def apartR (l : List S52) : Prop := l.Pairwise fun x y => x.f0 ≠ y.f0

theorem fold_rules : ∀ (r acc : List S52) (ps : List ByteArray), ps.map toL = r.map (fun x => 32 :: ruleT x) ∨ (∃ x q, r = x :: q ∧ ps.map toL = ruleT x :: q.map (fun x => 32 :: ruleT x)) → (∀ x ∈ r, goodR x) → apartR (acc ++ r) → (acc ++ r).length ≤ 32 → ps.foldl addR acc = acc ++ r
  | [], acc, ps, hp, _, _, _ => by
    rcases hp with h | ⟨x, q, h, _⟩
    · have : ps = [] := by simpa using h
      rw [this]
      simp
    · exact nomatch h
  | x :: r, acc, ps, hp, hg, ha, hl => by
    obtain ⟨p, qs, rfl, hp1, hq⟩ : ∃ p qs, ps = p :: qs ∧ (toL p = ruleT x ∨ toL p = 32 :: ruleT x) ∧ qs.map toL = r.map (fun x => 32 :: ruleT x) := by
      cases ps with
      | nil => rcases hp with h | ⟨_, _, _, h⟩ <;> simp at h
      | cons p qs =>
        rcases hp with h | ⟨y, q, he, h⟩
        · simp only [List.map_cons, List.cons.injEq] at h
          exact ⟨p, qs, rfl, .inr h.1, h.2⟩
        · cases he
          simp only [List.map_cons, List.cons.injEq] at h
          exact ⟨p, qs, rfl, .inl h.1, h.2⟩
    have hgx := hg x List.mem_cons_self
    have hw := words_rule x hgx p hp1
    have hm : ruleFrom x.f0 acc 0 = -1 := ruleFrom_miss _ _ _ (fun y hy => by
      unfold apartR at ha
      rw [List.pairwise_append] at ha
      exact ha.2.2 y hy x List.mem_cons_self)
    have e : addR acc p = acc ++ [x] := by
      unfold addR
      rw [hw]
      simp only
      rw [if_neg (by simp at hl; omega), hgx.1, hm, if_pos (by decide)]
    rw [List.foldl_cons, e, fold_rules r (acc ++ [x]) qs (.inl hq) (fun y hy => hg y (List.mem_cons_of_mem _ hy)) (by simpa using ha) (by simpa using hl)]
    simp

theorem parse_text (l : List S52) (hg : ∀ x ∈ l, goodR x) (ha : apartR l) (hl : l.length ≤ 32) : parseS (textS l) = l := by
  unfold parseS
  have hp : (piecesOf 59 (textS l)).map toL = spl 59 [] (textL l) := pieces_toL 59 (textS l)
  cases l with
  | nil =>
    have e : spl 59 [] (textL []) = [[]] := rfl
    rw [e] at hp
    obtain ⟨p, hpp, hp0⟩ : ∃ p, piecesOf 59 (textS []) = [p] ∧ toL p = [] := by
      cases h : piecesOf 59 (textS []) with
      | nil => rw [h] at hp; simp at hp
      | cons p q =>
        rw [h] at hp
        simp only [List.map_cons, List.cons.injEq, List.map_eq_nil_iff] at hp
        exact ⟨p, by rw [hp.2], hp.1⟩
    have hw : wordsOf p = [] := by
      have := words_toL p
      rw [hp0] at this
      simpa [wl] using this
    rw [hpp, List.foldl_cons, List.foldl_nil]
    unfold addR
    rw [hw]
  | cons x r =>
    have e : spl 59 [] (textL (x :: r)) = ruleT x :: (r.map ruleT).map (32 :: ·) := by
      unfold textL
      rw [List.map_cons, Lib.join_cons, spl_texts _ _ (rule_no x (hg x List.mem_cons_self)) (fun y hy => by
        obtain ⟨z, hz, rfl⟩ := List.mem_map.1 hy
        exact rule_no z (hg z (List.mem_cons_of_mem _ hz)))]
    rw [e, List.map_map] at hp
    have := fold_rules (x :: r) [] _ (.inr ⟨x, r, rfl, hp⟩) hg (by simpa using ha) (by simpa using hl)
    simpa using this

end Go.Proofs.YtohcjdninpjpgaaDoor.Pl
