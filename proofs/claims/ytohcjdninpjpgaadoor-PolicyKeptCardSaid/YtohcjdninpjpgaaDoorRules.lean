/- Plain law: a policy's rules, read off a text and written back. -/
import Derived.Test.YtohcjdninpjpgaaDoorPlain
import Derived.Test.YtohcjdninpjpgaaDoorPXx2
import Derived.Test.YtohcjdninpjpgaaDoorPXx3
import Derived.Lib.Join
namespace Go.Proofs.YtohcjdninpjpgaaDoor.Pl
open Go.RowKit Go.Proofs.YtohcjdninpjpgaaDoor.PX Go.Proofs.YtohcjdninpjpgaaDoor.Own Go.Proofs.YtohcjdninpjpgaaDoorW.PrintWords Go.Proofs.YtohcjdninpjpgaaDoorW.PrintLast Go.Proofs.YtohcjdninpjpgaaDoorW.PrintMore

def wordsOf (p : ByteArray) : List ByteArray := Lib.goFieldsP blankP p

def piecesOf (c : UInt8) (s : ByteArray) : List ByteArray := Lib.splitB ⟨#[c]⟩ 0 (Lib.countB s ⟨#[c]⟩) s

def lowS (a : ByteArray) : ByteArray := strOfNums (low (bytesOf a))

def addR (acc : List S52) (p : ByteArray) : List S52 :=
  match wordsOf p with
  | [] => acc
  | n :: vs => if 32 ≤ acc.length then acc else if ruleFrom (lowS n) acc 0 < 0 then acc ++ [⟨lowS n, vs⟩] else acc

def parseS (s : ByteArray) : List S52 := (piecesOf 59 s).foldl addR []

/-! ### words and pieces: bounds -/

theorem wl_mem : ∀ (l cur : List UInt8), (∀ c ∈ cur, sp c = false) → ∀ w ∈ wl cur l, w ≠ [] ∧ ∀ c ∈ w, sp c = false ∧ c ∈ cur ++ l
  | [], cur, hc, w, hw => by
    unfold wl at hw
    split at hw
    · exact absurd hw List.not_mem_nil
    · rename_i h
      rw [List.mem_singleton.1 hw]
      exact ⟨fun e => h (by rw [e]; rfl), fun c hx => ⟨hc c hx, by simp [hx]⟩⟩
  | x :: r, cur, hc, w, hw => by
    unfold wl at hw
    split at hw
    · split at hw
      · obtain ⟨h1, h2⟩ := wl_mem r [] (fun _ h => absurd h List.not_mem_nil) w hw
        exact ⟨h1, fun c hx => ⟨(h2 c hx).1, by have := (h2 c hx).2; simp at this; simp [this]⟩⟩
      · rename_i h
        rcases List.mem_cons.1 hw with rfl | hw
        · exact ⟨fun e => h (by rw [e]; rfl), fun c hx => ⟨hc c hx, by simp [hx]⟩⟩
        · obtain ⟨h1, h2⟩ := wl_mem r [] (fun _ h => absurd h List.not_mem_nil) w hw
          exact ⟨h1, fun c hx => ⟨(h2 c hx).1, by have := (h2 c hx).2; simp at this; simp [this]⟩⟩
    · rename_i hx
      obtain ⟨h1, h2⟩ := wl_mem r (cur ++ [x]) (fun c hcx => by
        rcases List.mem_append.1 hcx with h | h
        · exact hc c h
        · rw [List.mem_singleton.1 h]; simpa using hx) w hw
      exact ⟨h1, fun c hcx => ⟨(h2 c hcx).1, by have := (h2 c hcx).2; simp at this ⊢; rcases this with h | h | h <;> simp [h]⟩⟩

def cost (ws : List (List UInt8)) : Nat := (ws.map fun w => w.length + 1).sum

theorem wl_cost : ∀ (l cur : List UInt8), cost (wl cur l) ≤ cur.length + l.length + 1
  | [], cur => by
    unfold wl
    split <;> simp [cost]
  | x :: r, cur => by
    unfold wl
    split
    · split
      · have := wl_cost r []
        simp at this ⊢
        omega
      · have := wl_cost r []
        simp [cost] at this ⊢
        omega
    · have := wl_cost r (cur ++ [x])
      simp at this ⊢
      omega

theorem spl_mem (c : UInt8) : ∀ (l cur : List UInt8), c ∉ cur → ∀ p ∈ spl c cur l, c ∉ p ∧ p.length ≤ cur.length + l.length
  | [], cur, hc, p, hp => by
    unfold spl at hp
    rw [List.mem_singleton.1 hp]
    exact ⟨hc, by simp⟩
  | x :: r, cur, hc, p, hp => by
    unfold spl at hp
    split at hp
    · rcases List.mem_cons.1 hp with rfl | hp
      · exact ⟨hc, by simp⟩
      · obtain ⟨h1, h2⟩ := spl_mem c r [] List.not_mem_nil p hp
        exact ⟨h1, by simp at h2 ⊢; omega⟩
    · rename_i hx
      obtain ⟨h1, h2⟩ := spl_mem c r (cur ++ [x]) (fun h => by
        rcases List.mem_append.1 h with h | h
        · exact hc h
        · exact hx (by rw [List.mem_singleton.1 h]; simp)) p hp
      exact ⟨h1, by simp at h2 ⊢; omega⟩

theorem words_toL (p : ByteArray) : (wordsOf p).map toL = wl [] (toL p) := fields_wl p

theorem pieces_toL (c : UInt8) (s : ByteArray) : (piecesOf c s).map toL = spl c [] (toL s) := split_spl s c

theorem piece_le (c : UInt8) (s p : ByteArray) (h : p ∈ piecesOf c s) : p.size ≤ s.size ∧ c ∉ toL p := by
  have h1 : toL p ∈ spl c [] (toL s) := by rw [← pieces_toL]; exact List.mem_map_of_mem h
  obtain ⟨h2, h3⟩ := spl_mem c _ [] List.not_mem_nil _ h1
  rw [toL_length, toL_length] at h3
  exact ⟨by simpa using h3, h2⟩

theorem pieces_length (c : UInt8) (s : ByteArray) : (piecesOf c s).length ≤ s.size + 1 := by
  have h1 := Lib.splitB_length_le ⟨#[c]⟩ 0 (Lib.countB s ⟨#[c]⟩) s
  have h2 := Lib.countB_le ⟨#[c]⟩ (Nat.le_refl 1) s.size s (Nat.le_refl _)
  exact Nat.le_trans h1 (by omega)

theorem word_good (p w : ByteArray) (h : w ∈ wordsOf p) : toL w ≠ [] ∧ ∀ c ∈ toL w, sp c = false ∧ c ∈ toL p := by
  have h1 : toL w ∈ wl [] (toL p) := by rw [← words_toL]; exact List.mem_map_of_mem h
  obtain ⟨h2, h3⟩ := wl_mem _ [] (fun _ h => absurd h List.not_mem_nil) _ h1
  exact ⟨h2, fun c hc => by have := h3 c hc; simpa using this⟩

theorem words_cost (p : ByteArray) : cost ((wordsOf p).map toL) ≤ p.size + 1 := by
  rw [words_toL]
  have := wl_cost (toL p) []
  rw [toL_length] at this
  simpa using this

theorem cost_mem {ws : List (List UInt8)} {w : List UInt8} (h : w ∈ ws) : w.length + 1 ≤ cost ws := by
  induction ws with
  | nil => exact absurd h List.not_mem_nil
  | cons a r ih =>
    rcases List.mem_cons.1 h with rfl | h
    · simp [cost]
    · have := ih h
      simp [cost] at this ⊢
      omega

theorem cost_length (ws : List (List UInt8)) : ws.length ≤ cost ws := by
  induction ws with
  | nil => simp [cost]
  | cons a r ih =>
    simp [cost] at ih ⊢
    omega

theorem word_size (p w : ByteArray) (h : w ∈ wordsOf p) : w.size ≤ p.size := by
  have := cost_mem (List.mem_map_of_mem (f := toL) h)
  rw [toL_length] at this
  have := words_cost p
  omega

theorem words_length (p : ByteArray) : (wordsOf p).length ≤ p.size + 1 := by
  have := cost_length ((wordsOf p).map toL)
  rw [List.length_map] at this
  have := words_cost p
  omega

/-! ### lowering -/

theorem bytes_low (a : ByteArray) : bytesOf (lowS a) = low (bytesOf a) := bytesOf_strOfNums _ (low_range _ (bytesOf_range a))

theorem lowS_lowS (a : ByteArray) : lowS (lowS a) = lowS a := by
  apply bytesOf_inj
  rw [bytes_low, bytes_low, low_low]

theorem lowS_size (a : ByteArray) : (lowS a).size = a.size := by
  rw [← bytesOf_length, bytes_low, low_length, bytesOf_length]

theorem mem_bytes (a : ByteArray) (x : Int) : x ∈ bytesOf a ↔ ∃ c ∈ toL a, (c.toNat : Int) = x := by
  unfold bytesOf
  rw [List.mem_map]

def plainB (a : ByteArray) : Prop := toL a ≠ [] ∧ ∀ c ∈ toL a, sp c = false ∧ c ≠ 59

theorem lowS_plain {a : ByteArray} (h : plainB a) : plainB (lowS a) := by
  obtain ⟨h1, h2⟩ := h
  refine ⟨fun e => h1 ?_, fun c hc => ?_⟩
  · have := congrArg List.length e
    rw [toL_length, lowS_size] at this
    exact List.eq_nil_of_length_eq_zero (by rw [toL_length]; exact this)
  · have h3 : (c.toNat : Int) ∈ low (bytesOf a) := by rw [← bytes_low]; exact (mem_bytes _ _).2 ⟨c, hc, rfl⟩
    unfold low at h3
    rw [List.mem_map] at h3
    obtain ⟨y, hy, he⟩ := h3
    obtain ⟨d, hd, rfl⟩ := (mem_bytes _ _).1 hy
    obtain ⟨h4, h5⟩ := h2 d hd
    unfold lowB at he
    split at he
    · refine ⟨decide_eq_false (by omega), ?_⟩
      rintro rfl
      have : ((59 : UInt8).toNat : Int) = 59 := rfl
      omega
    · have : d = c := UInt8.toNat_inj.1 (by omega)
      rw [← this]
      exact ⟨h4, h5⟩

/-! ### the place of a name -/

theorem ruleFrom_miss (name : ByteArray) : ∀ (l : List S52) (i : Nat), (∀ x ∈ l, x.f0 ≠ name) → ruleFrom name l i = -1
  | [], _, _ => rfl
  | x :: r, i, h => by
    have : ¬ (x.f0.toList == name.toList) = true := fun e => h x List.mem_cons_self (data_inj (by rw [← toList_data, ← toList_data]; simpa using e))
    rw [ruleFrom, if_neg this, ruleFrom_miss name r (i + 1) (fun y hy => h y (List.mem_cons_of_mem _ hy))]

theorem ruleFrom_cases (name : ByteArray) : ∀ (l : List S52) (i : Nat), (ruleFrom name l i = -1 ∧ ∀ x ∈ l, x.f0 ≠ name) ∨ ((i : Int) ≤ ruleFrom name l i ∧ ruleFrom name l i < (i : Int) + l.length ∧ ∃ x ∈ l, x.f0 = name)
  | [], _ => .inl ⟨rfl, fun _ h => absurd h List.not_mem_nil⟩
  | x :: r, i => by
    rw [ruleFrom]
    by_cases e : (x.f0.toList == name.toList) = true
    · rw [if_pos e]
      exact .inr ⟨Int.le_refl _, by simp; omega, x, List.mem_cons_self, data_inj (by rw [← toList_data, ← toList_data]; simpa using e)⟩
    · rw [if_neg e]
      rcases ruleFrom_cases name r (i + 1) with ⟨h1, h2⟩ | ⟨h1, h2, y, hy, h3⟩
      · refine .inl ⟨h1, fun y hy => ?_⟩
        rcases List.mem_cons.1 hy with rfl | hy
        · intro he
          exact e (by rw [he]; simp)
        · exact h2 y hy
      · exact .inr ⟨by omega, by simp at h2 ⊢; omega, y, List.mem_cons_of_mem _ hy, h3⟩

end Go.Proofs.YtohcjdninpjpgaaDoor.Pl
