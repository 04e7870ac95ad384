/- PolicyParses: the plain law. -/
import Derived.Test.YtohcjdninpjpgaaDoorRef3
import Derived.Test.YtohcjdninpjpgaaDoorPXx8
namespace Go.Proofs.YtohcjdninpjpgaaDoor.Pl
open Go.RowKit Go.Proofs.YtohcjdninpjpgaaDoor.PX Go.Proofs.YtohcjdninpjpgaaDoor.Own Go.Proofs.YtohcjdninpjpgaaDoorW.PrintWords Go.Proofs.YtohcjdninpjpgaaDoorW.PrintLast Go.Proofs.YtohcjdninpjpgaaDoorW.PrintMore

theorem known_at : ∀ d, ostiarylaw10_known.f (60 + d) = some true
  | 0 => known_all
  | d + 1 => ostiarylaw10_known.mono (60 + d) _ (known_at d)

theorem rd33_at {l : List S33} {i : Nat} (h : i < l.length) : rd_T33 l (i : Int) = l[i] := by
  unfold rd_T33
  rw [Int.toNat_natCast, List.getD_eq_getElem?_getD, List.getElem?_eq_getElem h]
  rfl

theorem rd41_at {l : List S41} {i : Nat} (h : i < l.length) : rd_T41 l (i : Int) = l[i] := by
  unfold rd_T41
  rw [Int.toNat_natCast, List.getD_eq_getElem?_getD, List.getElem?_eq_getElem h]
  rfl

theorem law_l1 (l : List S33) (hok : ∀ x ∈ l, PolOk x) (hl : l.length ≤ 100000) : ∀ (d i K : Nat), i + d = l.length → d + 1000 ≤ K → ostiarylaw10_PolicyParses.l1 K l (l.map cw) (i : Int) = some true := by
  intro d
  have hcw : (l.map cw).length = l.length := List.length_map _
  induction d with
  | zero =>
    intro i K hi hK
    obtain ⟨K, rfl⟩ : ∃ k, K = 60 + k + 1 := ⟨K - 61, by omega⟩
    rw [ostiarylaw10_PolicyParses.l1, if_neg (by omega), known_at]
    rfl
  | succ d ih =>
    intro i K hi hK
    obtain ⟨K, rfl⟩ : ∃ k, K = k + 1 := ⟨K - 1, by omega⟩
    have hlt : i < l.length := by omega
    have hw : wrap64 ((i : Int) + 1) = ((i + 1 : Nat) : Int) := by rw [wrap_in (by omega)]; omega
    have hI : InvR 300 l[i].f0 := hok l[i] (List.getElem_mem hlt)
    have hfew := hI.few
    have hsm := same_f l[i].f0 300 (by omega) (fun x hx => (hI.len x hx).2) (by decide) l[i].f1 K (by omega)
    rw [ostiarylaw10_PolicyParses.l1, hcw, if_pos (by omega), if_pos (by omega), if_pos (by omega), rd33_at hlt, rd41_at (by rw [hcw]; exact hlt), List.getElem_map]
    rw [show (cw l[i]).f0 = l[i].f0.map cv from rfl, show (cw l[i]).f1 = l[i].f1 from rfl, hsm, Option.bind_some, if_pos rfl, hw]
    exact ih (i + 1) K (by omega) (by omega)

theorem fromS_le (hs : List S29) (h : shortH hs) : (fromS hs).length ≤ 100000 := by
  have hl10 := h.1
  have h1 := foldH_le pname0 false hs [] (fun x hx => (h.2 x hx).2)
  have h2 := foldH_le pname1 true hs (hs.foldl (addH pname0 false) []) (fun x hx => (h.2 x hx).2)
  unfold fromS
  simp at h1
  omega

theorem fromS_ok (hs : List S29) (h : shortH hs) : ∀ x ∈ fromS hs, PolOk x :=
  foldH_ok pname1 true hs _ (fun x hx => (h.2 x hx).2) (foldH_ok pname0 false hs [] (fun x hx => (h.2 x hx).2) (fun _ h => absurd h List.not_mem_nil))

theorem law_l0 (hs : List S29) (h : shortH hs) (names : List ByteArray) (hn : names.length ≤ 4) (p : List S52) (L : Nat) (hI : InvR L p) (hL : L ≤ 1000) (rep : Bool) : ∀ (d i K : Nat), i + d = names.length → d + 300000 ≤ K →
    ostiarylaw10_PolicyParses.l0 K hs names (i : Int) p rep (p.map cv) rep = some true := by
  intro d
  induction d with
  | zero =>
    intro i K hi hK
    obtain ⟨K, rfl⟩ : ∃ k, K = k + 1 := ⟨K - 1, by omega⟩
    have hle := fromS_le hs h
    rw [ostiarylaw10_PolicyParses.l0, if_neg (by omega), from_f hs h K (by omega), Option.bind_some, rfrom_f hs h K (by omega), Option.bind_some, if_pos (by rw [List.length_map])]
    exact law_l1 (fromS hs) (fromS_ok hs h) hle (fromS hs).length 0 K (by omega) (by omega)
  | succ d ih =>
    intro i K hi hK
    obtain ⟨K, rfl⟩ : ∃ k, K = k + 1 := ⟨K - 1, by omega⟩
    have hlt : i < names.length := by omega
    have hw : wrap64 ((i : Int) + 1) = ((i + 1 : Nat) : Int) := by rw [wrap_in (by omega)]; omega
    obtain ⟨v, hv, h1, h2⟩ := values_eq p L hI.few (fun x hx => (hI.len x hx).2) hL rep names[i] K (by omega)
    rw [ostiarylaw10_PolicyParses.l0, if_pos (by omega), if_pos (by omega), rdS_at hlt, h1, Option.bind_some, h2, Option.bind_some, sameS_f v.1 (by omega) K (by omega), Option.bind_some, if_pos rfl, if_pos rfl, if_neg (by simp), hw]
    exact ih (i + 1) K (by omega) (by omega)

theorem parses_pure (a0 : ByteArray) (a1 : Bool) (l2 : List S29) (a3 : ByteArray) : ∃ k, ostiarylaw10_PolicyParses.f k a0 a1 l2 a3 = some true := by
  obtain ⟨s, hs, hf⟩ := few_f a0 800 (by decide)
  have hf' : ostiarykeep_Few.f a0 800 = some s := hf
  obtain ⟨M, hM⟩ : ∃ M, M = 1000000 := ⟨_, rfl⟩
  obtain ⟨r, hr, hfh⟩ := fewH_f l2 M (by omega)
  have hI := parse_inv s
  have ht := text_le _ hI
  have hfew := hI.few
  refine ⟨M, ?_⟩
  unfold ostiarylaw10_PolicyParses.f
  rw [hf', Option.bind_some, hfh, Option.bind_some, parse_f s a1 (by omega) M (by omega), Option.bind_some, rparse_f s a1 (by omega) M (by omega), Option.bind_some]
  simp only
  rw [same_f (parseS s) s.size (by omega) (fun x hx => (hI.len x hx).2) (by omega) a1 M (by omega), Option.bind_some, if_pos rfl, text_f _ a1 (by omega) (fun x hx => by have := hI.len x hx; omega) (by omega) M (by omega), Option.bind_some, rtext_f a1 (parseS s) s.size hI (by omega) M (by omega), Option.bind_some]
  obtain ⟨M', rfl⟩ : ∃ k, M = k + 1 := ⟨M - 1, by omega⟩
  obtain ⟨n2, h2⟩ : ∃ n, policy_For.f 2 = some n := Option.isSome_iff_exists.1 (by kernel_rfl)
  obtain ⟨n6, h6⟩ : ∃ n, policy_For.f 6 = some n := Option.isSome_iff_exists.1 (by kernel_rfl)
  obtain ⟨n4, h4⟩ : ∃ n, policy_For.f 4 = some n := Option.isSome_iff_exists.1 (by kernel_rfl)
  rw [ostiarylaw10_PolicyParses.j0, if_neg (by simp), h2, Option.bind_some, h6, Option.bind_some, h4, Option.bind_some]
  exact law_l0 r hr [a3, n2, n6, n4] (by simp) (parseS s) s.size hI (by omega) a1 4 0 M' (by simp) (by omega)

end Go.Proofs.YtohcjdninpjpgaaDoor.Pl
namespace Go.Proofs.YtohcjdninpjpgaaDoor.Own
open Go.RowKit Go.Proofs.YtohcjdninpjpgaaDoor.PX Go.Proofs.YtohcjdninpjpgaaDoor.Pl Go.Proofs.YtohcjdninpjpgaaDoorW.PrintWords
theorem parses_any (a0 : ByteArray) (a1 : Bool) (A2 : Option Addr) (c2 : Nat) (l2 : List S29) (a3 : ByteArray) (w : World) (hr2 : Kd.C k29 w A2 l2.length l2) (hc2 : l2.length ≤ c2) : Calls Tryd.prog 4 #[.string a0, .bool a1, .slice A2 l2.length c2, .string a3] w fun e w' => e = .returned (.bool true) ∧ Below w.heap.size w w' := by
  obtain ⟨k, h⟩ := parses_pure a0 a1 l2 a3
  exact ostiarylaw10_PolicyParses.calls k a0 a1 A2 c2 l2 a3 true w hr2 hc2 h
end Go.Proofs.YtohcjdninpjpgaaDoor.Own
