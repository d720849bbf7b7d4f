/- Plain laws of slices.SortStableFunc's parts: what a swap, a rotation and a merge do to the order and to the elements of each rank. -/
import Derived.Test.YtnjiomggbafkmaaGreatDoorBookP
import Derived.Sort.LotA
namespace Go.Proofs.YtnjiomggbafkmaaGreatDoor
open Go.Sort (swp swp_get size_swp)
section
variable {α : Type} (f : α → Int)
/-- The elements of each rank stand as they stood. -/
def SameBy (d d' : Array α) : Prop := d'.size = d.size ∧ ∀ t, d'.toList.filter (fun x => f x == t) = d.toList.filter (fun x => f x == t)
variable {f}
theorem SameBy.refl (d : Array α) : SameBy f d d := ⟨rfl, fun _ => rfl⟩
theorem SameBy.trans {d d' d'' : Array α} (h : SameBy f d d') (k : SameBy f d' d'') : SameBy f d d'' := ⟨k.1.trans h.1, fun t => (k.2 t).trans (h.2 t)⟩
end
section
variable {α : Type} [Inhabited α] (f : α → Int)
def SortedA (a b : Nat) (d : Array α) : Prop := ∀ i j, a ≤ i → i < j → j < b → f d[i]! ≤ f d[j]!
/-- Only what lies in [a, b) is another. -/
def Within (a b : Nat) (d d' : Array α) : Prop := ∀ i, (i < a ∨ b ≤ i) → d'[i]! = d[i]!
variable {f}
theorem Within.refl (a b : Nat) (d : Array α) : Within a b d d := fun _ _ => rfl
theorem Within.trans {a b : Nat} {d d' d'' : Array α} (h : Within a b d d') (k : Within a b d' d'') : Within a b d d'' := fun i hi => (k i hi).trans (h i hi)
theorem Within.mono {a b a' b' : Nat} {d d' : Array α} (h : Within a b d d') (ha : a' ≤ a) (hb : b ≤ b') : Within a' b' d d' := fun i hi => h i (by omega)
theorem SortedA.same {a b : Nat} {d d' : Array α} (h : SortedA f a b d) (hw : ∀ i, a ≤ i → i < b → d'[i]! = d[i]!) : SortedA f a b d' := fun i j h1 h2 h3 => by
  rw [hw i h1 (by omega), hw j (by omega) h3]; exact h i j h1 h2 h3
theorem SortedA.outside {a b s e : Nat} {d d' : Array α} (h : SortedA f a b d) (hw : Within s e d d') (ho : b ≤ s ∨ e ≤ a) : SortedA f a b d' := h.same fun i h1 h2 => hw i (by omega)

theorem toList_get! (d : Array α) (i : Nat) (h : i < d.size) : d.toList[i]'(by simpa using h) = d[i]! := by
  rw [getElem!_pos d i h]; simp

/-- Two neighbours, the second of a lesser rank, change places. -/
theorem sameBy_adj (d : Array α) (i : Nat) (h : i + 1 < d.size) (hlt : f d[i + 1]! < f d[i]!) : SameBy f d (swp d (i + 1) i) ∧ SameBy f d (swp d i (i + 1)) := by
  have hsplit : d.toList = d.toList.take i ++ d[i]! :: d[i + 1]! :: d.toList.drop (i + 2) := by
    rw [← toList_get! d i (by omega), ← toList_get! d (i + 1) h, ← List.drop_eq_getElem_cons, ← List.drop_eq_getElem_cons, List.take_append_drop]
  have hs : ∀ p q, (p = i ∧ q = i + 1) ∨ (p = i + 1 ∧ q = i) → (swp d p q).toList = d.toList.take i ++ d[i + 1]! :: d[i]! :: d.toList.drop (i + 2) := by
    intro p q hpq
    refine List.ext_getElem? fun t => ?_
    have hsz : (swp d p q).size = d.size := size_swp d p q
    by_cases ht : t < d.size
    · rw [List.getElem?_eq_getElem (by simpa [hsz] using ht), toList_get! _ t (by rw [hsz]; exact ht), swp_get d (by omega) (by omega)]
      have hti : (d.toList.take i).length = i := by simp; omega
      by_cases h1 : t < i
      · rw [if_neg (by omega), if_neg (by omega), List.getElem?_append_left (by omega), List.getElem?_take, if_pos h1, List.getElem?_eq_getElem (by simpa using ht), toList_get! d t ht]
      · rw [List.getElem?_append_right (by omega), hti]
        by_cases h2 : t = i
        · subst h2
          rw [Nat.sub_self, List.getElem?_cons_zero]
          rcases hpq with ⟨rfl, rfl⟩ | ⟨rfl, rfl⟩
          · rw [if_neg (by omega), if_pos rfl]
          · rw [if_pos rfl]
        · by_cases h3 : t = i + 1
          · subst h3
            rw [show i + 1 - i = 1 by omega, List.getElem?_cons_succ, List.getElem?_cons_zero]
            rcases hpq with ⟨rfl, rfl⟩ | ⟨rfl, rfl⟩
            · rw [if_pos rfl]
            · rw [if_neg (by omega), if_pos rfl]
          · rw [if_neg (by omega), if_neg (by omega), show t - i = (t - (i + 2)) + 1 + 1 by omega, List.getElem?_cons_succ, List.getElem?_cons_succ, List.getElem?_drop, show i + 2 + (t - (i + 2)) = t by omega,
              List.getElem?_eq_getElem (by simpa using ht), toList_get! d t ht]
    · rw [List.getElem?_eq_none (by simp [hsz]; omega), List.getElem?_eq_none (by simp; omega)]
  have hf : ∀ p q, (p = i ∧ q = i + 1) ∨ (p = i + 1 ∧ q = i) → SameBy f d (swp d p q) := by
    intro p q hpq
    refine ⟨size_swp d p q, fun t => ?_⟩
    rw [hs p q hpq]
    conv => rhs; rw [hsplit]
    rw [List.filter_append, List.filter_append]
    congr 1
    by_cases e1 : f d[i]! = t
    · have e2 : f d[i + 1]! ≠ t := by omega
      rw [List.filter_cons_of_neg (by simpa using e2), List.filter_cons_of_pos (by simpa using e1), List.filter_cons_of_pos (by simpa using e1), List.filter_cons_of_neg (by simpa using e2)]
    · rw [List.filter_cons_of_neg (p := fun x => f x == t) (a := d[i]!) (by simpa using e1)]
      by_cases e2 : f d[i + 1]! = t
      · rw [List.filter_cons_of_pos (by simpa using e2), List.filter_cons_of_neg (by simpa using e1), List.filter_cons_of_pos (by simpa using e2)]
      · rw [List.filter_cons_of_neg (by simpa using e2), List.filter_cons_of_neg (by simpa using e1), List.filter_cons_of_neg (by simpa using e2)]
  exact ⟨hf _ _ (.inr ⟨rfl, rfl⟩), hf _ _ (.inl ⟨rfl, rfl⟩)⟩
theorem within_adj (d : Array α) (i a b : Nat) (h : i + 1 < d.size) (ha : a ≤ i) (hb : i + 1 < b) : Within a b d (swp d (i + 1) i) ∧ Within a b d (swp d i (i + 1)) :=
  ⟨fun t ht => by rw [swp_get d (by omega) (by omega), if_neg (by omega), if_neg (by omega)], fun t ht => by rw [swp_get d (by omega) (by omega), if_neg (by omega), if_neg (by omega)]⟩

/-! ### Insertion -/
/-- All but the element at j, as the greater one of a pair, stand in order up to i. -/
def InsI (f : α → Int) (a i j : Nat) (d : Array α) : Prop := ∀ p q, a ≤ p → p < q → q ≤ i → q ≠ j → f d[p]! ≤ f d[q]!
theorem InsI.start {a i : Nat} {d : Array α} (h : SortedA f a i d) : InsI f a i i d := fun p q h1 h2 h3 h4 => h p q h1 h2 (by omega)
theorem InsI.stop {a i j : Nat} {d : Array α} (h : InsI f a i j d) (hji : j ≤ i) (hs : j ≤ a ∨ f d[j - 1]! ≤ f d[j]!) : SortedA f a (i + 1) d := by
  intro p q h1 h2 h3
  by_cases hq : q = j
  · subst hq
    rcases hs with hs | hs
    · omega
    · by_cases hp : p = q - 1
      · rw [hp]; exact hs
      · have := h p (q - 1) h1 (by omega) (by omega) (by omega)
        omega
  · exact h p q h1 h2 (by omega) hq
theorem InsI.step {a i j : Nat} {d : Array α} (h : InsI f a i (j + 1) d) (hji : j + 1 ≤ i) (haj : a ≤ j) (hi : i < d.size) (hlt : f d[j + 1]! < f d[j]!) : InsI f a i j (swp d (j + 1) j) := by
  intro p q h1 h2 h3 h4
  rw [swp_get d (by omega) (by omega), swp_get d (by omega) (by omega)]
  rw [if_neg (show ¬ q = j by omega)]
  by_cases hq : q = j + 1
  · subst hq
    rw [if_pos rfl]
    by_cases hp : p = j
    · rw [if_pos hp]; omega
    · rw [if_neg hp, if_neg (by omega)]
      exact h p j h1 (by omega) (by omega) (by omega)
  · rw [if_neg hq]
    by_cases hp : p = j
    · rw [if_pos hp]
      by_cases hqj : j + 1 < q
      · exact h (j + 1) q (by omega) hqj h3 hq
      · omega
    · rw [if_neg hp]
      by_cases hp2 : p = j + 1
      · rw [if_pos hp2]
        exact h j q haj (by omega) h3 hq
      · rw [if_neg hp2]
        exact h p q h1 h2 h3 hq
end
end Go.Proofs.YtnjiomggbafkmaaGreatDoor
