/- PolicyNumbers: the plain law, step by step. -/
import Derived.Test.YtohcjdninpjpgaaDoorRef3
import Derived.Test.YtohcjdninpjpgaaDoorPNum
namespace Go.Proofs.YtohcjdninpjpgaaDoor.Pl
open Go.RowKit Go.Proofs.YtohcjdninpjpgaaDoor.PX Go.Proofs.YtohcjdninpjpgaaDoor.Own Go.Proofs.YtohcjdninpjpgaaDoorW.PrintWords

def oT : Nat → ByteArray
  | 0 => ⟨#[]⟩
  | n + 1 => ((((oT n ++ (⟨#[97]⟩ : ByteArray)) ++ (chA (n : Int))) ++ (chB (n : Int))) ++ (⟨#[59]⟩ : ByteArray))

theorem oT_size : ∀ n : Nat, n ≤ 40 → (oT n).size = 4 * n
  | 0, _ => rfl
  | n + 1, h => by
    have h1 := oT_size n (by omega)
    have a := chA_at (x := (n : Int)) (by omega) (by omega)
    have b := chB_at (x := (n : Int)) (by omega) (by omega)
    have c1 : (⟨#[97]⟩ : ByteArray).size = 1 := rfl
    have c2 : (⟨#[59]⟩ : ByteArray).size = 1 := rfl
    rw [oT, ByteArray.size_append, ByteArray.size_append, ByteArray.size_append, ByteArray.size_append, h1, a, b, c1, c2]
    omega

theorem chA_tab : (List.range 40).all (fun m => toL (chA (m : Int)) == [UInt8.ofNat (97 + m % 26)]) = true := by kernel_rfl
theorem chB_tab : (List.range 40).all (fun m => toL (chB (m : Int)) == [UInt8.ofNat (97 + m / 26)]) = true := by kernel_rfl

theorem chA_toL {n : Nat} (h : n < 40) : toL (chA (n : Int)) = [UInt8.ofNat (97 + n % 26)] := by
  have := List.all_eq_true.1 chA_tab n (List.mem_range.2 h)
  simpa using this
theorem chB_toL {n : Nat} (h : n < 40) : toL (chB (n : Int)) = [UInt8.ofNat (97 + n / 26)] := by
  have := List.all_eq_true.1 chB_tab n (List.mem_range.2 h)
  simpa using this

def oL : Nat → List UInt8
  | 0 => []
  | n + 1 => oL n ++ [97, UInt8.ofNat (97 + n % 26), UInt8.ofNat (97 + n / 26), 59]

theorem oT_toL : ∀ n : Nat, n ≤ 40 → toL (oT n) = oL n
  | 0, _ => rfl
  | n + 1, h => by
    rw [oT, toL_append, toL_append, toL_append, toL_append, oT_toL n (by omega), chA_toL (by omega), chB_toL (by omega), oL]
    simp only [List.append_assoc]
    rfl

def oLit : List UInt8 := [97, 97, 97, 59, 97, 98, 97, 59, 97, 99, 97, 59, 97, 100, 97, 59, 97, 101, 97, 59, 97, 102, 97, 59, 97, 103, 97, 59, 97, 104, 97, 59, 97, 105, 97, 59, 97, 106, 97, 59, 97, 107, 97, 59, 97, 108, 97, 59, 97, 109, 97, 59, 97, 110, 97, 59, 97, 111, 97, 59, 97, 112, 97, 59, 97, 113, 97, 59, 97, 114, 97, 59, 97, 115, 97, 59, 97, 116, 97, 59, 97, 117, 97, 59, 97, 118, 97, 59, 97, 119, 97, 59, 97, 120, 97, 59, 97, 121, 97, 59, 97, 122, 97, 59, 97, 97, 98, 59, 97, 98, 98, 59, 97, 99, 98, 59, 97, 100, 98, 59, 97, 101, 98, 59, 97, 102, 98, 59, 97, 103, 98, 59, 97, 104, 98, 59, 97, 105, 98, 59, 97, 106, 98, 59, 97, 107, 98, 59, 97, 108, 98, 59, 97, 109, 98, 59, 97, 110, 98, 59]

theorem oL_lit : oL 40 = oLit := by kernel_rfl

/-! names alone -/

def addL (acc : List (List Int)) (p : List UInt8) : List (List Int) :=
  match wl [] p with
  | [] => acc
  | n :: _ => if 32 ≤ acc.length then acc else if low (n.map fun b => (b.toNat : Int)) ∈ acc then acc else acc ++ [low (n.map fun b => (b.toNat : Int))]

def namesOf (l : List S52) : List (List Int) := l.map fun x => bytesOf x.f0

theorem addR_names (acc : List S52) (p : ByteArray) : namesOf (addR acc p) = addL (namesOf acc) (toL p) := by
  have hw := words_toL p
  unfold addL
  rw [← hw]
  cases hws : wordsOf p with
  | nil =>
    have e : addR acc p = acc := by unfold addR; rw [hws]
    rw [e]
    rfl
  | cons n vs =>
    rw [List.map_cons]
    simp only
    have hlen : (namesOf acc).length = acc.length := List.length_map _
    have hb : low ((toL n).map fun b => (b.toNat : Int)) = bytesOf (lowS n) := (bytes_low n).symm
    rw [hlen, hb]
    by_cases h32 : 32 ≤ acc.length
    · have e : addR acc p = acc := by unfold addR; rw [hws]; simp only; rw [if_pos h32]
      rw [e, if_pos h32]
    · rw [if_neg h32]
      rcases ruleFrom_cases (lowS n) acc 0 with ⟨h1, h2⟩ | ⟨h1, _, x, hx, h2⟩
      · have e : addR acc p = acc ++ [⟨lowS n, vs⟩] := by unfold addR; rw [hws]; simp only; rw [if_neg h32, if_pos (by omega)]
        have hnm : bytesOf (lowS n) ∉ namesOf acc := by
          intro hm
          obtain ⟨x, hx, he⟩ := List.mem_map.1 hm
          exact h2 x hx (bytesOf_inj he)
        rw [e, if_neg hnm]
        simp [namesOf]
      · have e : addR acc p = acc := by unfold addR; rw [hws]; simp only; rw [if_neg h32, if_neg (by omega)]
        have hnm : bytesOf (lowS n) ∈ namesOf acc := List.mem_map.2 ⟨x, hx, by rw [h2]⟩
        rw [e, if_pos hnm]

theorem fold_names : ∀ (ps : List ByteArray) (acc : List S52), namesOf (ps.foldl addR acc) = (ps.map toL).foldl addL (namesOf acc)
  | [], _ => rfl
  | p :: r, acc => by rw [List.foldl_cons, List.map_cons, List.foldl_cons, fold_names r, addR_names]

theorem parse_names (s : ByteArray) : namesOf (parseS s) = (spl 59 [] (toL s)).foldl addL [] := by
  unfold parseS
  rw [fold_names, pieces_toL]
  rfl

theorem forty_names : ((spl 59 [] oLit).foldl addL []).length = 32 := by kernel_rfl

theorem parse_forty : (parseS (oT 40)).length = 32 := by
  have h := congrArg List.length (parse_names (oT 40))
  rw [oT_toL 40 (Nat.le_refl _), oL_lit, forty_names] at h
  unfold namesOf at h
  rwa [List.length_map] at h

/-! the loops -/

def hdrs : List S29 := [(⟨(⟨#[67, 111, 110, 116, 101, 110, 116, 45, 83, 101, 99, 117, 114, 105, 116, 121, 45, 80, 111, 108, 105, 99, 121, 45, 82, 101, 112, 111, 114, 116, 45, 79, 110, 108, 121]⟩ : ByteArray), (⟨#[97]⟩ : ByteArray)⟩ : S29), (⟨(⟨#[99, 111, 110, 116, 101, 110, 116, 45, 115, 101, 99, 117, 114, 105, 116, 121, 45, 112, 111, 108, 105, 99, 121]⟩ : ByteArray), (⟨#[98, 44, 32, 44, 99, 32, 100]⟩ : ByteArray)⟩ : S29)]

theorem hdrs_short : shortH hdrs := ⟨by decide, by
  intro h hh
  rcases List.mem_cons.1 hh with rfl | hh
  · exact ⟨by decide, by decide⟩
  · rw [List.mem_singleton.1 hh]
    exact ⟨by decide, by decide⟩⟩

def rb : List S52 := [⟨⟨#[98]⟩, []⟩]
def rc : List S52 := [⟨⟨#[99]⟩, [⟨#[100]⟩]⟩]
def ra : List S52 := [⟨⟨#[97]⟩, []⟩]

theorem from_hdrs : fromS hdrs = [⟨rb, false⟩, ⟨rc, false⟩, ⟨ra, true⟩] := by kernel_rfl
theorem from_none : fromS [] = [] := rfl

theorem known_at3 : ∀ d, ostiarylaw10_known.f (60 + d) = some true
  | 0 => known_all
  | d + 1 => ostiarylaw10_known.mono (60 + d) _ (known_at3 d)

theorem last_l2 (K : Nat) (hK : 200000 ≤ K) : ostiarylaw10_PolicyNumbers.l2 (K + 1) (oT 40) ((40 : Nat) : Int) = some true := by
  have hs := oT_size 40 (Nat.le_refl _)
  have hsh : shortH ([] : List S29) := ⟨by decide, fun _ h => absurd h List.not_mem_nil⟩
  have hp0 : parseS (⟨#[]⟩ : ByteArray) = [] := by kernel_rfl
  have hz : (⟨#[]⟩ : ByteArray).size = 0 := rfl
  have hf : policy_From.f K hdrs = some [⟨rb, false⟩, ⟨rc, false⟩, ⟨ra, true⟩] := by rw [from_f hdrs hdrs_short K (by omega), from_hdrs]
  have t0 : policy_Text.f K rb false = some (textS rb) := text_f rb false (by decide) (by decide) (by decide) K (by have : rb.length = 1 := rfl; omega)
  have t1 : policy_Text.f K rc false = some (textS rc) := text_f rc false (by decide) (by decide) (by decide) K (by have : rc.length = 1 := rfl; omega)
  have e0 : (textS rb).toList = ([98] : List UInt8) := by kernel_rfl
  have e1 : (textS rc).toList = ([99, 32, 100] : List UInt8) := by kernel_rfl
  have hk : ostiarylaw10_known.f K = some true := by
    obtain ⟨d, rfl⟩ : ∃ d, K = 60 + d := ⟨K - 60, by omega⟩
    exact known_at3 d
  rw [ostiarylaw10_PolicyNumbers.l2, if_neg (by decide)]
  have hf' : policy_From.f K ([(⟨(⟨#[67, 111, 110, 116, 101, 110, 116, 45, 83, 101, 99, 117, 114, 105, 116, 121, 45, 80, 111, 108, 105, 99, 121, 45, 82, 101, 112, 111, 114, 116, 45, 79, 110, 108, 121]⟩ : ByteArray), (⟨#[97]⟩ : ByteArray)⟩ : S29), (⟨(⟨#[99, 111, 110, 116, 101, 110, 116, 45, 115, 101, 99, 117, 114, 105, 116, 121, 45, 112, 111, 108, 105, 99, 121]⟩ : ByteArray), (⟨#[98, 44, 32, 44, 99, 32, 100]⟩ : ByteArray)⟩ : S29)] : List (S29)) = some [⟨rb, false⟩, ⟨rc, false⟩, ⟨ra, true⟩] := hf
  rw [hf', Option.bind_some, parse_f (oT 40) false (by omega) K (by omega), Option.bind_some]
  simp only
  rw [parse_forty, if_pos (by rfl), parse_f ⟨#[]⟩ true (by rw [hz]; decide) K (by rw [hz]; omega), Option.bind_some, hp0]
  simp only
  rw [if_pos (by rfl), Option.bind_some, if_pos (by rfl), if_pos (by rfl), if_pos (by decide)]
  rw [show (rd_T33 [⟨rb, false⟩, ⟨rc, false⟩, ⟨ra, true⟩] 0) = ⟨rb, false⟩ from rfl, t0, Option.bind_some, if_pos e0, if_pos (by decide)]
  rw [show (rd_T33 [⟨rb, false⟩, ⟨rc, false⟩, ⟨ra, true⟩] 1) = ⟨rc, false⟩ from rfl, t1, Option.bind_some, if_pos e1, if_pos (by decide)]
  rw [show (rd_T33 [⟨rb, false⟩, ⟨rc, false⟩, ⟨ra, true⟩] 2) = ⟨ra, true⟩ from rfl, if_pos (by rfl), from_f [] hsh K (by omega), Option.bind_some, from_none, if_pos (by rfl), hk]
  rfl

theorem round_l2 (K : Nat) (hK : 200000 ≤ K) : ∀ (d i : Nat), i + d = 40 → ostiarylaw10_PolicyNumbers.l2 (K + d + 1) (oT i) (i : Int) = some true := by
  intro d
  induction d with
  | zero =>
    intro i hi
    have : i = 40 := by omega
    subst this
    exact last_l2 K hK
  | succ d ih =>
    intro i hi
    have hw : wrap64 ((i : Int) + 1) = ((i + 1 : Nat) : Int) := by rw [wrap_in (by omega)]; omega
    have h1 := oT_size i (by omega)
    have a := chA_at (x := (i : Int)) (by omega) (by omega)
    have b := chB_at (x := (i : Int)) (by omega) (by omega)
    have c1 : (⟨#[97]⟩ : ByteArray).size = 1 := rfl
    have z1 : (oT i ++ (⟨#[97]⟩ : ByteArray)).size = 4 * i + 1 := by rw [ByteArray.size_append, h1, c1]
    have z2 : ((oT i ++ (⟨#[97]⟩ : ByteArray)) ++ chA (i : Int)).size = 4 * i + 2 := by rw [ByteArray.size_append, z1, a]
    have z3 : (((oT i ++ (⟨#[97]⟩ : ByteArray)) ++ chA (i : Int)) ++ chB (i : Int)).size = 4 * i + 3 := by rw [ByteArray.size_append, z2, b]
    rw [show K + (d + 1) + 1 = (K + d + 1) + 1 by omega, ostiarylaw10_PolicyNumbers.l2, if_pos (by omega), if_pos (by omega), if_pos (by omega), if_pos (by omega), if_pos (by omega), if_pos (by omega), hw]
    exact ih (i + 1) (by omega)

theorem for_eq (x : Int) : policy_For.f x = ostiaryref10_For.f x := rfl
theorem for_some (x : Int) : (policy_For.f x).isSome = true := by
  unfold policy_For.f
  repeat' split
  all_goals rfl

theorem round_l1 (K : Nat) (hK : 200100 ≤ K) : ∀ (d : Nat) (x : Int), x + d = 9 → -1 ≤ x → ostiarylaw10_PolicyNumbers.l1 (K + d + 1) x = some true := by
  intro d
  induction d with
  | zero =>
    intro x hx h0
    obtain ⟨J, rfl⟩ : ∃ J, K = J + 40 + 1 := ⟨K - 41, by omega⟩
    rw [ostiarylaw10_PolicyNumbers.l1, if_neg (by omega)]
    exact round_l2 J (by omega) 40 0 (by omega)
  | succ d ih =>
    intro x hx h0
    have hw : wrap64 (x + 1) = x + 1 := wrap_in (by omega)
    obtain ⟨n, hn⟩ := Option.isSome_iff_exists.1 (for_some x)
    rw [show K + (d + 1) + 1 = (K + d + 1) + 1 by omega, ostiarylaw10_PolicyNumbers.l1, if_pos (by omega), ← for_eq, hn, Option.bind_some, Option.bind_some, if_pos rfl, hw]
    exact ih (x + 1) (by omega) (by omega)

theorem round_l0 (names : List ByteArray) (hn : names.length ≤ 100) (K : Nat) (hK : 200200 ≤ K) : ∀ (d i : Nat), i + d = names.length → ostiarylaw10_PolicyNumbers.l0 (K + d + 1) names (i : Int) = some true := by
  intro d
  induction d with
  | zero =>
    intro i hi
    obtain ⟨J, rfl⟩ : ∃ J, K = J + 10 + 1 := ⟨K - 11, by omega⟩
    rw [ostiarylaw10_PolicyNumbers.l0, if_neg (by omega)]
    exact round_l1 J (by omega) 10 (-1) (by omega) (by omega)
  | succ d ih =>
    intro i hi
    have hlt : i < names.length := by omega
    have hw : wrap64 ((i : Int) + 1) = ((i + 1 : Nat) : Int) := by rw [wrap_in (by omega)]; omega
    obtain ⟨ch, hc, h1, h2⟩ := chain_eq names[i] (K + d)
    rw [show K + (d + 1) + 1 = (K + d + 1) + 1 by omega, ostiarylaw10_PolicyNumbers.l0, if_pos (by omega), if_pos (by omega), rdS_at hlt, h1, Option.bind_some, h2, Option.bind_some, sameS_f ch (by omega) _ (by omega), Option.bind_some, if_pos rfl, hw]
    exact ih (i + 1) (by omega)

theorem numbers_pure : ∃ k, ostiarylaw10_PolicyNumbers.f k = some true := by
  refine ⟨200200 + 15 + 1, ?_⟩
  unfold ostiarylaw10_PolicyNumbers.f
  exact round_l0 _ (by decide) 200200 (Nat.le_refl _) 15 0 rfl

end Go.Proofs.YtohcjdninpjpgaaDoor.Pl
namespace Go.Proofs.YtohcjdninpjpgaaDoor.Own
open Go.RowKit Go.Proofs.YtohcjdninpjpgaaDoor.PX Go.Proofs.YtohcjdninpjpgaaDoor.Pl Go.Proofs.YtohcjdninpjpgaaDoorW.PrintWords
theorem numbers_any (w : World) : Calls Tryd.prog 3 #[] w fun e w' => e = .returned (.bool true) ∧ Below w.heap.size w w' := ostiarylaw10_PolicyNumbers.walk numbers_pure w
end Go.Proofs.YtohcjdninpjpgaaDoor.Own
