/- Plain law: the headers' policies, the program's and the reference's. -/
import Derived.Test.YtohcjdninpjpgaaDoorRef2
namespace Go.Proofs.YtohcjdninpjpgaaDoor.Pl
open Go.RowKit Go.Proofs.YtohcjdninpjpgaaDoor.PX Go.Proofs.YtohcjdninpjpgaaDoor.Own Go.Proofs.YtohcjdninpjpgaaDoorW.PrintWords Go.Proofs.YtohcjdninpjpgaaDoorW.PrintLast Go.Proofs.YtohcjdninpjpgaaDoorW.PrintMore

def pname0 : ByteArray := ⟨#[99, 111, 110, 116, 101, 110, 116, 45, 115, 101, 99, 117, 114, 105, 116, 121, 45, 112, 111, 108, 105, 99, 121]⟩
def pname1 : ByteArray := ⟨#[99, 111, 110, 116, 101, 110, 116, 45, 115, 101, 99, 117, 114, 105, 116, 121, 45, 112, 111, 108, 105, 99, 121, 45, 114, 101, 112, 111, 114, 116, 45, 111, 110, 108, 121]⟩

theorem low_p0 : lowS pname0 = pname0 := by kernel_rfl
theorem low_p1 : lowS pname1 = pname1 := by kernel_rfl

/-! ### the headers cut short -/

def shortH (l : List S29) : Prop := l.length ≤ 10 ∧ ∀ h ∈ l, h.f0.size ≤ 300 ∧ h.f1.size ≤ 300

theorem few_f (a : ByteArray) (n : Nat) (hn : n < 1000000) : ∃ s : ByteArray, s.size ≤ n ∧ ostiarykeep_Few.f a (n : Int) = some s := by
  unfold ostiarykeep_Few.f
  by_cases h : (a.size : Int) > n
  · rw [if_pos h, if_pos (by omega), if_pos (by omega)]
    exact ⟨_, by rw [ByteArray.size_extract]; omega, rfl⟩
  · rw [if_neg h]
    exact ⟨a, by omega, rfl⟩

theorem rd29_at {l : List S29} {i : Nat} (h : i < l.length) : rd_T29 l (i : Int) = l[i] := by
  unfold rd_T29
  rw [Int.toNat_natCast, List.getD_eq_getElem?_getD, List.getElem?_eq_getElem h]
  rfl

theorem fewH_l0 (l : List S29) : ∀ (d i : Nat) (out : List S29) (K : Nat), i + d = 11 → i ≤ l.length → out.length = i → (∀ h ∈ out, h.f0.size ≤ 300 ∧ h.f1.size ≤ 300) → i ≤ 10 → 2 * d + 2 ≤ K →
    ∃ r, shortH r ∧ ostiarykeep_FewHeaders.l0 K l 10 300 out (i : Int) = some r := by
  intro d
  induction d with
  | zero => intro i out K hi h1 ho hb h10 hK; omega
  | succ d ih =>
    intro i out K hi h1 ho hb h10 hK
    obtain ⟨K, rfl⟩ : ∃ k, K = k + 2 := ⟨K - 2, by omega⟩
    have hw : wrap64 ((i : Int) + 1) = ((i + 1 : Nat) : Int) := by rw [wrap_in (by omega)]; omega
    have stop : ∃ r, shortH r ∧ ostiarykeep_FewHeaders.j1 (K + 1) l 10 300 out (i : Int) false = some r := by
      rw [ostiarykeep_FewHeaders.j1, if_neg Bool.false_ne_true]
      exact ⟨out, ⟨by omega, hb⟩, rfl⟩
    rw [ostiarykeep_FewHeaders.l0]
    by_cases hlt : i < l.length
    · rw [if_pos (by omega)]
      by_cases h : i < 10
      · obtain ⟨a, ha, ea⟩ := few_f l[i].f0 300 (by decide)
        obtain ⟨b, hb2, eb⟩ := few_f l[i].f1 300 (by decide)
        have ea' : ostiarykeep_Few.f l[i].f0 300 = some a := ea
        have eb' : ostiarykeep_Few.f l[i].f1 300 = some b := eb
        rw [decide_eq_true (by omega), ostiarykeep_FewHeaders.j1, if_pos rfl, if_pos (by omega), if_pos (by omega), rd29_at hlt, ea', Option.bind_some, eb', Option.bind_some, if_pos (by omega), hw]
        exact ih (i + 1) _ K (by omega) (by omega) (by simp; omega) (fun x hx => by
          rcases List.mem_append.1 hx with hx | hx
          · exact hb x hx
          · rw [List.mem_singleton.1 hx]; exact ⟨ha, hb2⟩) (by omega) (by omega)
      · rw [decide_eq_false (by omega)]
        exact stop
    · rw [if_neg (by omega)]
      exact stop

theorem fewH_f (l : List S29) (K : Nat) (hK : 100 ≤ K) : ∃ r, shortH r ∧ ostiarykeep_FewHeaders.f K l 10 300 = some r := by
  unfold ostiarykeep_FewHeaders.f
  exact fewH_l0 l 11 0 [] K (by omega) (by omega) rfl (fun _ h => absurd h List.not_mem_nil) (by omega) (by omega)

/-! ### From -/

def addP (rep : Bool) (acc : List S33) (p : ByteArray) : List S33 := if (parseS p).length > 0 then acc ++ [⟨parseS p, rep⟩] else acc

def addH (name : ByteArray) (rep : Bool) (acc : List S33) (h : S29) : List S33 := if (lowS h.f0).toList = name.toList then (piecesOf 44 h.f1).foldl (addP rep) acc else acc

def fromS (l : List S29) : List S33 := l.foldl (addH pname1 true) (l.foldl (addH pname0 false) [])

def cw (x : S33) : S41 := ⟨x.f0.map cv, x.f1⟩

theorem addP_le (rep : Bool) (acc : List S33) (p : ByteArray) : (addP rep acc p).length ≤ acc.length + 1 := by
  unfold addP
  split <;> simp

theorem foldP_le (rep : Bool) : ∀ (ps : List ByteArray) (acc : List S33), (ps.foldl (addP rep) acc).length ≤ acc.length + ps.length
  | [], _ => by simp
  | p :: r, acc => by
    have h1 := foldP_le rep r (addP rep acc p)
    have h2 := addP_le rep acc p
    rw [List.foldl_cons, List.length_cons]
    omega

theorem addH_le (name : ByteArray) (rep : Bool) (acc : List S33) (h : S29) (hs : h.f1.size ≤ 300) : (addH name rep acc h).length ≤ acc.length + 301 := by
  unfold addH
  split
  · have := foldP_le rep (piecesOf 44 h.f1) acc
    have := pieces_length 44 h.f1
    omega
  · omega

theorem foldH_le (name : ByteArray) (rep : Bool) : ∀ (l : List S29) (acc : List S33), (∀ h ∈ l, h.f1.size ≤ 300) → (l.foldl (addH name rep) acc).length ≤ acc.length + 301 * l.length
  | [], _, _ => by simp
  | x :: r, acc, h => by
    have h1 := foldH_le name rep r (addH name rep acc x) (fun y hy => h y (List.mem_cons_of_mem _ hy))
    have h2 := addH_le name rep acc x (h x List.mem_cons_self)
    rw [List.foldl_cons, List.length_cons]
    omega

/-- What each policy read is good for. -/
def PolOk (x : S33) : Prop := InvR 300 x.f0

theorem addP_ok (rep : Bool) (acc : List S33) (p : ByteArray) (hp : p.size ≤ 300) (h : ∀ x ∈ acc, PolOk x) : ∀ x ∈ addP rep acc p, PolOk x := by
  unfold addP
  split
  · intro x hx
    rcases List.mem_append.1 hx with hx | hx
    · exact h x hx
    · rw [List.mem_singleton.1 hx]
      have := parse_inv p
      exact ⟨this.good, fun y hy => by have := this.len y hy; omega, this.apart, this.few⟩
  · exact h

theorem foldP_ok (rep : Bool) : ∀ (ps : List ByteArray) (acc : List S33), (∀ p ∈ ps, p.size ≤ 300) → (∀ x ∈ acc, PolOk x) → ∀ x ∈ ps.foldl (addP rep) acc, PolOk x
  | [], _, _, h => h
  | p :: r, acc, hp, h => foldP_ok rep r (addP rep acc p) (fun q hq => hp q (List.mem_cons_of_mem _ hq)) (addP_ok rep acc p (hp p List.mem_cons_self) h)

theorem foldH_ok (name : ByteArray) (rep : Bool) : ∀ (l : List S29) (acc : List S33), (∀ h ∈ l, h.f1.size ≤ 300) → (∀ x ∈ acc, PolOk x) → ∀ x ∈ l.foldl (addH name rep) acc, PolOk x
  | [], _, _, h => h
  | y :: r, acc, hl, h => by
    refine foldH_ok name rep r (addH name rep acc y) (fun q hq => hl q (List.mem_cons_of_mem _ hq)) ?_
    unfold addH
    split
    · exact foldP_ok rep _ acc (fun p hp => Nat.le_trans (piece_le 44 _ p hp).1 (hl y List.mem_cons_self)) h
    · exact h

/-! #### the program's loops -/

theorem from_l2 (V : Option (List S33)) (N : Nat) (hN : 20000 ≤ N) (x0 : List S29) (name : ByteArray) (rep : Bool) (hsuf : strings_HasSuffix.f name (⟨#[45, 111, 110, 108, 121]⟩ : ByteArray) = some rep) (x11 : List ByteArray) (x12 x13 : Int) (x17 : List S29) (x18 x19 : Int) (ps : List ByteArray) (hps : ∀ p ∈ ps, p.size ≤ 300) (hn : ps.length ≤ 301) : ∀ (d i : Nat) (acc : List S33) (K : Nat), i + d = ps.length → acc.length + d ≤ 100000 → N + d + 1 ≤ K →
    (∀ K', N ≤ K' → policy_From.l1 K' x0 ((ps.drop i).foldl (addP rep) acc) name x11 x12 x13 x17 x18 (wrap64 (x19 + 1)) = V) →
    policy_From.l2 K x0 acc name x11 x12 x13 x17 x18 x19 ps (ps.length : Int) (i : Int) = V := by
  intro d
  induction d with
  | zero =>
    intro i acc K hi ha hK C
    obtain ⟨K, rfl⟩ : ∃ k, K = k + 1 := ⟨K - 1, by omega⟩
    rw [policy_From.l2, if_neg (by omega)]
    rw [List.drop_of_length_le (by omega)] at C
    exact C K (by omega)
  | succ d ih =>
    intro i acc K hi ha hK C
    obtain ⟨K, rfl⟩ : ∃ k, K = k + 1 := ⟨K - 1, by omega⟩
    have hlt : i < ps.length := by omega
    have hw : wrap64 ((i : Int) + 1) = ((i + 1 : Nat) : Int) := by rw [wrap_in (by omega)]; omega
    have hd : ps.drop i = ps[i] :: ps.drop (i + 1) := List.drop_eq_getElem_cons hlt
    have hp := hps ps[i] (List.getElem_mem hlt)
    rw [hd, List.foldl_cons] at C
    rw [policy_From.l2, if_pos (by omega), if_pos (by omega), if_pos (by omega), hsuf, Option.bind_some, rdS_at hlt, parse_f ps[i] rep (by omega) K (by omega), Option.bind_some, hw]
    simp only
    have hap : addP rep acc ps[i] = if (parseS ps[i]).length > 0 then acc ++ [⟨parseS ps[i], rep⟩] else acc := rfl
    by_cases h0 : (parseS ps[i]).length > 0
    · rw [if_pos h0] at hap
      rw [hap] at C
      rw [if_pos (by omega), if_pos (by omega)]
      exact ih (i + 1) _ K (by omega) (by simp; omega) (by omega) C
    · rw [if_neg h0] at hap
      rw [hap] at C
      rw [if_neg (by omega)]
      exact ih (i + 1) acc K (by omega) (by omega) (by omega) C

theorem grow_N (N d : Nat) (h : 20000 ≤ N) : 20000 ≤ N + 310 * d + 1 := by omega

theorem from_l1 (V : Option (List S33)) (N : Nat) (hN : 20000 ≤ N) (x0 : List S29) (name : ByteArray) (rep : Bool) (hsuf : strings_HasSuffix.f name (⟨#[45, 111, 110, 108, 121]⟩ : ByteArray) = some rep) (x11 : List ByteArray) (x12 x13 : Int) (l : List S29) (hl : shortH l) : ∀ (d i : Nat) (acc : List S33) (K : Nat), i + d = l.length → acc.length + 301 * d ≤ 90000 → N + 310 * d + 1 ≤ K →
    (∀ K', N ≤ K' → policy_From.l0 K' x0 ((l.drop i).foldl (addH name rep) acc) x11 x12 (wrap64 (x13 + 1)) = V) →
    policy_From.l1 K x0 acc name x11 x12 x13 l (l.length : Int) (i : Int) = V := by
  intro d
  induction d with
  | zero =>
    intro i acc K hi ha hK C
    obtain ⟨K, rfl⟩ : ∃ k, K = k + 1 := ⟨K - 1, by omega⟩
    rw [policy_From.l1, if_neg (by omega)]
    rw [List.drop_of_length_le (by omega)] at C
    exact C K (by omega)
  | succ d ih =>
    intro i acc K hi ha hK C
    obtain ⟨K, rfl⟩ : ∃ k, K = k + 1 := ⟨K - 1, by omega⟩
    have hlt : i < l.length := by omega
    have hl10 := hl.1
    have hw : wrap64 ((i : Int) + 1) = ((i + 1 : Nat) : Int) := by rw [wrap_in (by omega)]; omega
    have hd : l.drop i = l[i] :: l.drop (i + 1) := List.drop_eq_getElem_cons hlt
    have hs := hl.2 l[i] (List.getElem_mem hlt)
    have hlo : infra_Lower.f l[i].f0 = some (lowS l[i].f0) := by unfold infra_Lower.f; rw [if_pos (by omega)]; rfl
    rw [hd, List.foldl_cons] at C
    rw [policy_From.l1, if_pos (by omega), if_pos (by omega), if_pos (by omega), rd29_at hlt, hlo, Option.bind_some]
    have hah : addH name rep acc l[i] = if (lowS l[i].f0).toList = name.toList then (piecesOf 44 l[i].f1).foldl (addP rep) acc else acc := rfl
    by_cases he : (lowS l[i].f0).toList = name.toList
    · rw [if_pos he] at hah
      have hsp : strings_Split.f l[i].f1 (⟨#[44]⟩ : ByteArray) = some (piecesOf 44 l[i].f1) := by unfold strings_Split.f; rw [if_pos ⟨rfl, by omega⟩]; rfl
      have hpl := pieces_length 44 l[i].f1
      have hfp := foldP_le rep (piecesOf 44 l[i].f1) acc
      rw [hah] at C
      rw [if_pos he, hsp, Option.bind_some]
      obtain ⟨N', hN', hN20⟩ : ∃ N', N' = N + 310 * d + 1 ∧ 20000 ≤ N' := ⟨_, rfl, grow_N N d hN⟩
      refine from_l2 V N' hN20 x0 name rep hsuf x11 x12 x13 l _ _ (piecesOf 44 l[i].f1) (fun p hp => Nat.le_trans (piece_le 44 _ p hp).1 hs.2) (by omega) (piecesOf 44 l[i].f1).length 0 acc K (by omega) (by omega) (by omega) (fun K' hK' => ?_)
      rw [List.drop_zero, hw]
      exact ih (i + 1) _ K' (by omega) (by omega) (by omega) C
    · rw [if_neg he] at hah
      rw [hah] at C
      rw [if_neg he, hw]
      exact ih (i + 1) acc K (by omega) (by omega) (by omega) C

theorem suf0 : strings_HasSuffix.f pname0 (⟨#[45, 111, 110, 108, 121]⟩ : ByteArray) = some false := by kernel_rfl
theorem suf1 : strings_HasSuffix.f pname1 (⟨#[45, 111, 110, 108, 121]⟩ : ByteArray) = some true := by kernel_rfl

set_option maxRecDepth 20000 in
theorem from_f (l : List S29) (hl : shortH l) (K : Nat) (hK : 100000 ≤ K) : policy_From.f K l = some (fromS l) := by
  have hl10 := hl.1
  have h1 := foldH_le pname0 false l [] (fun h hh => (hl.2 h hh).2)
  have h2 := foldH_le pname1 true l (l.foldl (addH pname0 false) []) (fun h hh => (hl.2 h hh).2)
  unfold policy_From.f
  rw [Option.bind_some]
  have e2 : wrap64 ((0 : Int) + 1) = 1 := by rw [wrap_in (by decide)]; rfl
  have e3 : wrap64 ((1 : Int) + 1) = 2 := by rw [wrap_in (by decide)]; rfl
  obtain ⟨K, rfl⟩ : ∃ k, K = k + 1 := ⟨K - 1, by omega⟩
  rw [policy_From.l0, if_pos (by decide), if_pos (by decide), if_pos (by decide)]
  refine from_l1 (some (fromS l)) 40000 (by omega) l pname0 false suf0 _ _ 0 l hl l.length 0 [] K (by omega) (by simp; omega) (by omega) (fun K' hK' => ?_)
  obtain ⟨K', rfl⟩ : ∃ k, K' = k + 1 := ⟨K' - 1, by omega⟩
  rw [e2, policy_From.l0, if_pos (by decide), if_pos (by decide), if_pos (by decide), List.drop_zero]
  refine from_l1 (some (fromS l)) 20000 (by omega) l pname1 true suf1 _ _ 1 l hl l.length 0 _ K' (by omega) (by simp at h1; omega) (by omega) (fun K2 hK2 => ?_)
  obtain ⟨K2, rfl⟩ : ∃ k, K2 = k + 1 := ⟨K2 - 1, by omega⟩
  rw [e3, policy_From.l0, if_neg (by decide), List.drop_zero]
  rfl

/-! #### the reference's loops -/

theorem rfrom_l2 (V : Option (List S41)) (N : Nat) (hN : 20000 ≤ N) (x0 : List S29) (x4 : Int) (name : ByteArray) (x6 : Int) (ps : List ByteArray) (hps : ∀ p ∈ ps, p.size ≤ 300) (hn : ps.length ≤ 301) : ∀ (d i : Nat) (acc : List S33) (K : Nat), i + d = ps.length → acc.length + d ≤ 100000 → N + d + 1 ≤ K →
    (∀ K', N ≤ K' → ostiaryref10_From.l1 K' x0 (((ps.drop i).foldl (addP (x4 == 1)) acc).map cw) x4 name (wrap64 (x6 + 1)) = V) →
    ostiaryref10_From.l2 K x0 (acc.map cw) x4 name x6 ps (i : Int) = V := by
  intro d
  induction d with
  | zero =>
    intro i acc K hi ha hK C
    obtain ⟨K, rfl⟩ : ∃ k, K = k + 1 := ⟨K - 1, by omega⟩
    rw [ostiaryref10_From.l2, if_neg (by omega)]
    rw [List.drop_of_length_le (by omega)] at C
    exact C K (by omega)
  | succ d ih =>
    intro i acc K hi ha hK C
    obtain ⟨K, rfl⟩ : ∃ k, K = k + 1 := ⟨K - 1, by omega⟩
    have hlt : i < ps.length := by omega
    have hw : wrap64 ((i : Int) + 1) = ((i + 1 : Nat) : Int) := by rw [wrap_in (by omega)]; omega
    have hd : ps.drop i = ps[i] :: ps.drop (i + 1) := List.drop_eq_getElem_cons hlt
    have hp := hps ps[i] (List.getElem_mem hlt)
    rw [hd, List.foldl_cons] at C
    rw [ostiaryref10_From.l2, if_pos (by omega), if_pos (by omega), rdS_at hlt, rparse_f ps[i] (x4 == 1) (by omega) K (by omega), Option.bind_some, hw]
    simp only
    rw [List.length_map, List.length_map]
    have hap : addP (x4 == 1) acc ps[i] = if (parseS ps[i]).length > 0 then acc ++ [⟨parseS ps[i], (x4 == 1)⟩] else acc := rfl
    by_cases h0 : (parseS ps[i]).length > 0
    · rw [if_pos h0] at hap
      rw [hap] at C
      rw [if_pos (by omega), if_pos (by omega)]
      have := ih (i + 1) _ K (by omega) (by simp; omega) (by omega) C
      rw [List.map_append] at this
      exact this
    · rw [if_neg h0] at hap
      rw [hap] at C
      rw [if_neg (by omega)]
      exact ih (i + 1) acc K (by omega) (by omega) (by omega) C

theorem rfrom_l1 (V : Option (List S41)) (N : Nat) (hN : 20000 ≤ N) (l : List S29) (x4 : Int) (name : ByteArray) (hname : lowS name = name) (hns : name.size < 1000) (hl : shortH l) : ∀ (d i : Nat) (acc : List S33) (K : Nat), i + d = l.length → acc.length + 301 * d ≤ 90000 → N + 310 * d + 1 ≤ K →
    (∀ K', N ≤ K' → ostiaryref10_From.l0 K' l (((l.drop i).foldl (addH name (x4 == 1)) acc).map cw) (wrap64 (x4 + 1)) = V) →
    ostiaryref10_From.l1 K l (acc.map cw) x4 name (i : Int) = V := by
  intro d
  induction d with
  | zero =>
    intro i acc K hi ha hK C
    obtain ⟨K, rfl⟩ : ∃ k, K = k + 1 := ⟨K - 1, by omega⟩
    rw [ostiaryref10_From.l1, if_neg (by omega)]
    rw [List.drop_of_length_le (by omega)] at C
    exact C K (by omega)
  | succ d ih =>
    intro i acc K hi ha hK C
    obtain ⟨K, rfl⟩ : ∃ k, K = k + 1 := ⟨K - 1, by omega⟩
    have hlt : i < l.length := by omega
    have hl10 := hl.1
    have hw : wrap64 ((i : Int) + 1) = ((i + 1 : Nat) : Int) := by rw [wrap_in (by omega)]; omega
    have hd : l.drop i = l[i] :: l.drop (i + 1) := List.drop_eq_getElem_cons hlt
    have hs := hl.2 l[i] (List.getElem_mem hlt)
    have hnm : ostiaryref5_Named.f l[i].f0 l[i].f1 name = some ((lowS l[i].f0).toList == name.toList) := by
      have h1 : ostiaryref1_Lower.f l[i].f0 = some (lowS l[i].f0) := by unfold ostiaryref1_Lower.f; rw [if_pos (by omega)]; rfl
      have h2 : ostiaryref1_Lower.f name = some name := by unfold ostiaryref1_Lower.f; rw [if_pos (by omega), show strOfNums (low (bytesOf name)) = name from hname]
      unfold ostiaryref5_Named.f
      rw [h1, Option.bind_some, h2]
      rfl
    rw [hd, List.foldl_cons] at C
    rw [ostiaryref10_From.l1, if_pos (by omega), if_pos (by omega), rd29_at hlt, hnm, Option.bind_some]
    have hah : addH name (x4 == 1) acc l[i] = if (lowS l[i].f0).toList = name.toList then (piecesOf 44 l[i].f1).foldl (addP (x4 == 1)) acc else acc := rfl
    by_cases he : (lowS l[i].f0).toList = name.toList
    · rw [if_pos he] at hah
      have hpl := pieces_length 44 l[i].f1
      have hfp := foldP_le (x4 == 1) (piecesOf 44 l[i].f1) acc
      rw [hah] at C
      rw [if_pos (by simpa using he), show (44 : Int) = ((44 : UInt8).toNat : Int) from rfl, cut_f l[i].f1 44 (by omega) K (by omega), Option.bind_some]
      obtain ⟨N', hN', hN20⟩ : ∃ N', N' = N + 310 * d + 1 ∧ 20000 ≤ N' := ⟨_, rfl, grow_N N d hN⟩
      refine rfrom_l2 V N' hN20 l x4 name _ (piecesOf 44 l[i].f1) (fun p hp => Nat.le_trans (piece_le 44 _ p hp).1 hs.2) (by omega) (piecesOf 44 l[i].f1).length 0 acc K (by omega) (by omega) (by omega) (fun K' hK' => ?_)
      rw [List.drop_zero, hw]
      exact ih (i + 1) _ K' (by omega) (by omega) (by omega) C
    · rw [if_neg he] at hah
      rw [hah] at C
      rw [if_neg (by simpa using he), hw]
      exact ih (i + 1) acc K (by omega) (by omega) (by omega) C

set_option maxRecDepth 20000 in
theorem rfrom_f (l : List S29) (hl : shortH l) (K : Nat) (hK : 100000 ≤ K) : ostiaryref10_From.f K l = some ((fromS l).map cw) := by
  have hl10 := hl.1
  have h1 := foldH_le pname0 false l [] (fun h hh => (hl.2 h hh).2)
  unfold ostiaryref10_From.f
  have e2 : wrap64 ((0 : Int) + 1) = 1 := by rw [wrap_in (by decide)]; rfl
  have e3 : wrap64 ((1 : Int) + 1) = 2 := by rw [wrap_in (by decide)]; rfl
  obtain ⟨K, rfl⟩ : ∃ k, K = k + 1 := ⟨K - 1, by omega⟩
  rw [ostiaryref10_From.l0, if_pos (by decide), Option.bind_some, if_pos (by decide), if_pos (by decide)]
  refine rfrom_l1 (some ((fromS l).map cw)) 40000 (by omega) l 0 pname0 low_p0 (by decide) hl l.length 0 [] K (by omega) (by simp; omega) (by omega) (fun K' hK' => ?_)
  obtain ⟨K', rfl⟩ : ∃ k, K' = k + 1 := ⟨K' - 1, by omega⟩
  rw [e2, ostiaryref10_From.l0, if_pos (by decide), Option.bind_some, if_pos (by decide), if_pos (by decide), List.drop_zero]
  refine rfrom_l1 (some ((fromS l).map cw)) 20000 (by omega) l 1 pname1 low_p1 (by decide) hl l.length 0 _ K' (by omega) (by simp at h1; show (List.foldl (addH pname0 false) [] l).length + _ ≤ _; omega) (by omega) (fun K2 hK2 => ?_)
  obtain ⟨K2, rfl⟩ : ∃ k, K2 = k + 1 := ⟨K2 - 1, by omega⟩
  rw [e3, ostiaryref10_From.l0, if_neg (by decide), List.drop_zero]
  rfl

end Go.Proofs.YtohcjdninpjpgaaDoor.Pl
