/- Plain lemmas on lists and numbers, of no program. -/
import Derived.WalkKit
import Derived.Lib.Strings
namespace Go.Proofs.YtnjiomggbafkmaaGreatDoor

theorem snoc_ind {α : Type} {P : List α → Prop} (h0 : P []) (h1 : ∀ l c, P l → P (l ++ [c])) (l : List α) : P l := by
  have h : ∀ r : List α, P r.reverse := fun r => by
    induction r with
    | nil => exact h0
    | cons c r ih => rw [List.reverse_cons]; exact h1 _ _ ih
  have := h l.reverse
  rwa [List.reverse_reverse] at this

theorem take_snoc' {α : Type} (l : List α) (k : Nat) (h : k < l.length) : l.take (k + 1) = l.take k ++ [l[k]] := by
  rw [List.take_succ_eq_append_getElem h]

/-- A string of some bytes. -/
def str (l : List UInt8) : ByteArray := ⟨l.toArray⟩
/-- The bytes of a string. -/
def bs (s : ByteArray) : List UInt8 := s.data.toList

theorem bs_str (l : List UInt8) : bs (str l) = l := by simp [bs, str]
theorem str_bs (s : ByteArray) : str (bs s) = s := by simp [bs, str]
theorem bs_length (s : ByteArray) : (bs s).length = s.size := by simp [bs]
theorem str_size (l : List UInt8) : (str l).size = l.length := by rw [← bs_length, bs_str]
theorem str_inj {a b : List UInt8} (h : str a = str b) : a = b := by rw [← bs_str a, h, bs_str]
theorem bs_inj {a b : ByteArray} (h : bs a = bs b) : a = b := by rw [← str_bs a, h, str_bs]
theorem bs_append (a b : ByteArray) : bs (a ++ b) = bs a ++ bs b := by simp [bs]
theorem str_append (a b : List UInt8) : str a ++ str b = str (a ++ b) := bs_inj (by rw [bs_append, bs_str, bs_str, bs_str])
theorem bs_get (s : ByteArray) (k : Nat) (h : k < s.size) : (bs s)[k]'(by rw [bs_length]; exact h) = s[k] := rfl
theorem bs_extract (s : ByteArray) (i j : Nat) : bs (s.extract i j) = ((bs s).take j).drop i := by
  simp only [bs, ByteArray.data_extract, Array.toList_extract, List.extract_eq_take_drop]
  rw [List.drop_take]

theorem toList_bs (s : ByteArray) : s.toList = bs s := Lib.toList_data s

end Go.Proofs.YtnjiomggbafkmaaGreatDoor
