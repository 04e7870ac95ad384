/- Plain facts about texts and their bytes as lists of whole numbers. -/
import Derived.Test.YtohcjdninpjpgaaDoorPXx0
import Derived.Lib.IndexBytes
import Derived.Lib.Bytes
namespace Go.Proofs.YtohcjdninpjpgaaDoor.Pl
open Go.RowKit Go.Proofs.YtohcjdninpjpgaaDoorW.PrintWords Go.Proofs.YtohcjdninpjpgaaDoorW.PrintLast

theorem data_inj {a b : ByteArray} (h : a.data.toList = b.data.toList) : a = b := by
  have : a.data = b.data := Array.toList_inj.mp h
  cases a; cases b; simp_all

theorem bytesOf_append (a b : ByteArray) : bytesOf (a ++ b) = bytesOf a ++ bytesOf b := by
  simp [bytesOf]

theorem bytesOf_extract (a : ByteArray) (i j : Nat) : bytesOf (a.extract i j) = ((bytesOf a).take j).drop i := by
  simp [bytesOf, List.drop_take, List.map_take, List.map_drop]

theorem bytesOf_range (s : ByteArray) : ∀ x ∈ bytesOf s, 0 ≤ x ∧ x < 256 := by
  intro x hx
  simp only [bytesOf, List.mem_map] at hx
  obtain ⟨b, _, rfl⟩ := hx
  have := b.toNat_lt
  omega

theorem bytesOf_strOfNums (l : List Int) (h : ∀ x ∈ l, 0 ≤ x ∧ x < 256) : bytesOf (strOfNums l) = l := by
  unfold bytesOf
  rw [strOfNums_data, List.map_map]
  conv => rhs; rw [← List.map_id l]
  refine List.map_congr_left fun x hx => ?_
  have := h x hx
  simp only [Function.comp, UInt8.toNat_ofNat', id]
  omega

theorem strOfNums_bytesOf (s : ByteArray) : strOfNums (bytesOf s) = s := by
  apply data_inj
  rw [strOfNums_data]
  unfold bytesOf
  rw [List.map_map]
  conv => rhs; rw [← List.map_id s.data.toList]
  refine List.map_congr_left fun x _ => ?_
  simp

theorem bytesOf_inj {a b : ByteArray} (h : bytesOf a = bytesOf b) : a = b := by
  rw [← strOfNums_bytesOf a, ← strOfNums_bytesOf b, h]

theorem bt_get (s : ByteArray) (i : Nat) (h : i < s.size) : bt s (i : Int) = (bytesOf s)[i]'(by rw [bytesOf_length]; exact h) := by
  rw [← rd_bytesOf]
  unfold rd
  rw [List.getD_eq_getElem?_getD, List.getElem?_eq_getElem (by rw [bytesOf_length]; simpa using h)]
  simp

theorem drop_bytes (s : ByteArray) (i : Nat) (h : i < s.size) : (bytesOf s).drop i = bt s (i : Int) :: (bytesOf s).drop (i + 1) := by
  rw [bt_get s i h]
  exact (List.getElem_cons_drop (by rw [bytesOf_length]; exact h)).symm

theorem wrap_in {x : Int} (h : -9223372036854775808 ≤ x ∧ x < 9223372036854775808) : wrap64 x = x := by
  unfold wrap64; omega

theorem toList_data (s : ByteArray) : s.toList = s.data.toList := by
  have := Lib.strOfNums_toList (bytesOf s)
  rw [strOfNums_bytesOf] at this
  rw [this]
  unfold Lib.bytesOf bytesOf
  rw [List.map_map]
  conv => rhs; rw [← List.map_id s.data.toList]
  refine List.map_congr_left fun x _ => ?_
  simp

theorem toList_nil (s : ByteArray) : s.toList = [] ↔ bytesOf s = [] := by
  rw [toList_data]; simp [bytesOf]


theorem all_bytes {p : Int → Bool} (h : (List.range 256).all (fun n => p (n : Int)) = true) (c : Int) (hc : 0 ≤ c ∧ c < 256) : p c = true := by
  have := List.all_eq_true.mp h c.toNat (List.mem_range.mpr (by omega))
  rwa [Int.toNat_of_nonneg hc.1] at this

theorem bt_r (s : ByteArray) (i : Int) : 0 ≤ bt s i ∧ bt s i < 256 := by have := bt_range s i; omega

end Go.Proofs.YtohcjdninpjpgaaDoor.Pl
