/- Rows of elements of several cells, of no program. -/
import Derived.Test.YtnjiomggbafkmaaGreatDoorMem2
namespace Go.Proofs.YtnjiomggbafkmaaGreatDoor
open Go.RowKit

section
variable {α : Type} {f : α → List Value} {k : Nat} {w w' : World}
/-- From block b, offset off on, the elements xs lie one behind the other. -/
def RowsAt (f : α → List Value) (k : Nat) (w : World) (b off : Nat) (xs : List α) : Prop :=
  ∀ i (hi : i < xs.length) j (hj : j < (f xs[i]).length), w.cell? ⟨b, off + i * k + j, none⟩ = some (f xs[i])[j]
/-- The value is a slice that reads as these elements. -/
def RowsIn (f : α → List Value) (k : Nat) (w : World) (v : Value) (xs : List α) : Prop :=
  ∃ a c, v = .slice a xs.length c ∧ xs.length ≤ c ∧ (xs ≠ [] → ∃ b off, a = some ⟨b, off, none⟩ ∧ b < w.heap.size ∧ RowsAt f k w b off xs)
theorem RowsAt.below {b off : Nat} {xs : List α} (h : RowsAt f k w b off xs) (hb : Below w.heap.size w w') (hlt : b < w.heap.size) : RowsAt f k w' b off xs := fun i hi j hj =>
  (hb.cell (p := ⟨b, off + i * k + j, none⟩) hlt).trans (h i hi j hj)
theorem RowsIn.nil (w : World) : RowsIn f k w (.slice none 0 0) [] := ⟨none, 0, rfl, Nat.le_refl _, fun h => absurd rfl h⟩
theorem RowsIn.empty (w : World) (a : Option Addr) (c : Nat) : RowsIn f k w (.slice a 0 c) [] := ⟨a, c, rfl, Nat.zero_le _, fun h => absurd rfl h⟩
theorem RowsIn.below {v : Value} {xs : List α} (h : RowsIn f k w v xs) (hb : Below w.heap.size w w') : RowsIn f k w' v xs := by
  obtain ⟨a, c, hv, hl, hc⟩ := h
  refine ⟨a, c, hv, hl, fun hx => ?_⟩
  obtain ⟨b, off, ha, hlt, hr⟩ := hc hx
  exact ⟨b, off, ha, Nat.lt_of_lt_of_le hlt hb.size, hr.below hb hlt⟩
theorem RowsIn.below' {v : Value} {xs : List α} {W : World} (h : RowsIn f k w v xs) (hW : Below w.heap.size w W) (hb : Below W.heap.size W w') : RowsIn f k w' v xs := (h.below hW).below hb
/-- Where cells are kept. -/
theorem RowsIn.keep {v : Value} {xs : List α} {B : Nat} (h : RowsIn f k w v xs) (hB : ∀ b, v.ownBlock = some b → b < B ∨ xs = []) (hs : w.heap.size ≤ w'.heap.size) (hc : ∀ b i, b < B → w'.cell? ⟨b, i, none⟩ = w.cell? ⟨b, i, none⟩) : RowsIn f k w' v xs := by
  obtain ⟨a, c, rfl, hl, hr⟩ := h
  refine ⟨a, c, rfl, hl, fun hx => ?_⟩
  obtain ⟨b, off, rfl, hlt, hr⟩ := hr hx
  refine ⟨b, off, rfl, by omega, fun i hi j hj => ?_⟩
  rcases hB b (by simp [Value.ownBlock]) with hb | hb
  · rw [hc _ _ hb]; exact hr i hi j hj
  · exact absurd hb hx
theorem RowsIn.split {v : Value} {xs : List α} (h : RowsIn f k w v xs) : (xs = [] ∧ ∃ a c, v = .slice a 0 c) ∨ ∃ b off c, v = .slice (some ⟨b, off, none⟩) xs.length c ∧ b < w.heap.size ∧ RowsAt f k w b off xs := by
  obtain ⟨a, c, rfl, _, hr⟩ := h
  cases xs with
  | nil => exact .inl ⟨rfl, a, c, rfl⟩
  | cons x xs =>
    obtain ⟨b, off, rfl, hlt, hr⟩ := hr (by simp)
    exact .inr ⟨b, off, c, rfl, hlt, hr⟩
theorem RowsIn.splitC {v : Value} {xs : List α} (h : RowsIn f k w v xs) : (xs = [] ∧ ∃ a c, v = .slice a 0 c) ∨ ∃ b off c, v = .slice (some ⟨b, off, none⟩) xs.length c ∧ xs.length ≤ c ∧ b < w.heap.size ∧ RowsAt f k w b off xs := by
  obtain ⟨a, c, rfl, hl, hr⟩ := h
  cases xs with
  | nil => exact .inl ⟨rfl, a, c, rfl⟩
  | cons x xs =>
    obtain ⟨b, off, rfl, hlt, hr⟩ := hr (by simp)
    exact .inr ⟨b, off, c, rfl, hl, hlt, hr⟩
/-- One element of a row. -/
theorem RowsAt.one {b off : Nat} {xs : List α} (h : RowsAt f k w b off xs) (i : Nat) (hi : i < xs.length) : RowsAt f k w b (off + i * k) [xs[i]] := by
  intro q hq j hj
  obtain rfl : q = 0 := by simp at hq; exact hq
  rw [Nat.zero_mul, Nat.add_zero]
  exact h i hi j hj
/-- The cells of all elements. -/
def flatCs (f : α → List Value) (xs : List α) : List Value := xs.flatMap f
theorem flatCs_length (hk : ∀ x, (f x).length = k) (xs : List α) : (flatCs f xs).length = xs.length * k := by
  induction xs with
  | nil => simp [flatCs]
  | cons x xs ih =>
    simp only [flatCs, List.flatMap_cons, List.length_append, hk, List.length_cons] at *
    rw [ih, Nat.succ_mul]; omega
theorem flatCs_get (hk : ∀ x, (f x).length = k) : ∀ (xs : List α) (i : Nat) (hi : i < xs.length) (j : Nat) (hj : j < (f xs[i]).length), (flatCs f xs)[i * k + j]? = some (f xs[i])[j]
  | [], i, hi, _, _ => by cases hi
  | x :: xs, 0, _, j, hj => by
    simp only [flatCs, List.flatMap_cons, Nat.zero_mul, Nat.zero_add]
    have hj' : j < (f x).length := hj
    rw [List.getElem?_append_left hj', List.getElem?_eq_getElem hj']
    rfl
  | x :: xs, i + 1, hi, j, hj => by
    simp only [flatCs, List.flatMap_cons]
    rw [List.getElem?_append_right (by rw [hk, Nat.succ_mul]; omega), hk, show (i + 1) * k + j - k = i * k + j by rw [Nat.succ_mul]; omega]
    exact flatCs_get hk xs i (by simpa using hi) j hj
theorem flatCs_append (xs ys : List α) : flatCs f (xs ++ ys) = flatCs f xs ++ flatCs f ys := by simp [flatCs]
theorem flatCs_one (x : α) : flatCs f [x] = f x := by simp [flatCs]
/-- A slice that the call owns reads so. -/
theorem RowsIn.of_own {B n : Nat} {T : TypeId} {v : Value} {xs : List α} (hk : ∀ x, (f x).length = k) (hk0 : 0 < k) (h : w.ownsRow B T k v n (flatCs f xs)) : RowsIn f k w v xs ∧ n = xs.length := by
  have hn : n = xs.length := by
    have := h.1
    rw [flatCs_length hk] at this
    exact (Nat.eq_of_mul_eq_mul_right hk0 this).symm
  subst hn
  refine ⟨?_, rfl⟩
  rcases h.2 with ⟨rfl, h0⟩ | ⟨g, cap, cur, rfl, hB, hg, hnc, hm, hcs, htk⟩
  · have hx : xs = [] := by
      cases xs with
      | nil => rfl
      | cons x xs => simp at h0
    subst hx
    exact RowsIn.nil w
  · refine ⟨_, cap, rfl, hnc, fun hx => ⟨g, 0, rfl, (Array.getElem?_eq_some_iff.1 hg).1, fun i hi j hj => ?_⟩⟩
    have h1 := flatCs_get hk xs i hi j hj
    have hlt : i * k + j < xs.length * k := by
      rw [hk] at hj
      have : (i + 1) * k ≤ xs.length * k := Nat.mul_le_mul_right k hi
      rw [Nat.succ_mul] at this
      omega
    rw [← htk, List.getElem?_take, if_pos (by omega)] at h1
    rw [Nat.zero_add]
    simp only [World.cell?, hg]
    simp at h1
    simpa using h1
end
end Go.Proofs.YtnjiomggbafkmaaGreatDoor
