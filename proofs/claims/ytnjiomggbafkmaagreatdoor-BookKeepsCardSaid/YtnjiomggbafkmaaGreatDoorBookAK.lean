/- Plain laws for BookTwice. -/
import Derived.Test.YtnjiomggbafkmaaGreatDoorBookAJ
namespace Go.Proofs.YtnjiomggbafkmaaGreatDoor
open Go.RowKit Go.Lib

theorem has_of_mem {b : Bk} (hI : InvB b) {e : BEv} (h : e ∈ rawEvs b.entries) : hasE b.entries e = true := by
  obtain ⟨y, hy, he⟩ := List.mem_flatMap.1 h
  have hk := evs_key he
  unfold hasE
  cases hen : entryOf b.entries e.key with
  | none =>
    exfalso
    have : ∀ (l : List BEn), y ∈ l → y.key = e.key → entryOf l e.key ≠ none := by
      intro l
      induction l with
      | nil => intro h; cases h
      | cons z l ih =>
        intro hm hk2
        unfold entryOf
        by_cases hz : z.key = e.key
        · rw [if_pos hz]; simp
        · rw [if_neg hz]
          rcases List.mem_cons.1 hm with e1 | e1
          · rw [e1] at hk2; exact absurd hk2 hz
          · have := ih e1 hk2
            cases hq : entryOf l e.key with
            | none => exact absurd hq this
            | some p => simp
    exact this _ hy hk.symm hen
  | some p =>
    obtain ⟨i, z⟩ := p
    obtain ⟨h1, h2, h3⟩ := entryOf_some hen
    obtain ⟨hi, hz⟩ := List.getElem?_eq_some_iff.1 h1
    simp only [decide_eq_true_eq]
    suffices z = y by rw [this]; exact he
    obtain ⟨j, hj, hjy⟩ := List.getElem_of_mem hy
    rcases Nat.lt_trichotomy i j with h | h | h
    · exfalso
      have hs : b.entries = b.entries.take i ++ z :: b.entries.drop (i + 1) := by rw [← hz, ← List.drop_eq_getElem_cons hi, List.take_append_drop]
      have := hI.apart hs y (by
        rw [← hjy]
        have h5 : (b.entries.drop (i + 1))[j - (i + 1)]? = some b.entries[j] := by rw [List.getElem?_drop, show i + 1 + (j - (i + 1)) = j by omega, List.getElem?_eq_getElem hj]
        exact List.mem_of_getElem? h5)
      exact this (by rw [← hk]; exact h2.symm)
    · subst h; rw [← hz, hjy]
    · exfalso
      exact h3 j hj h (by rw [hjy]; exact hk.symm)
theorem apply_mem {b c : Bk} {x : BEv} (hI : InvB b) (hx : evB x = true) (h : applyE b x = .ok c) : x ∈ rawEvs c.entries ∧ (evsOf c.entries).length = (evsOf b.entries).length + 1 := by
  obtain ⟨P, Q, h1, h2, _⟩ := evsOf_apply hI hx h
  refine ⟨?_, by rw [h1, h2]; simp; omega⟩
  have : x ∈ evsOf c.entries := by rw [h2]; simp
  exact mem_sortBy.1 this
theorem applyR_ok {b c : Bk} {x : BEv} (h : applyR b x = .ok c) : validB b = true ∧ evB x = true ∧ applyE b x = .ok c := by
  unfold applyR at h
  split at h
  · rename_i hv; exact ⟨hv.1, hv.2, h⟩
  · cases h
/-- An event applied is there, and applying it once more says so. -/
theorem twice_ok {b c : Bk} {x : BEv} (h : applyR b x = .ok c) : validB c = true ∧ hasE c.entries x = true ∧ applyR c x = .error 6 ∧ (evsOf c.entries).length = (evsOf b.entries).length + 1 := by
  obtain ⟨hb, hx, ha⟩ := applyR_ok h
  have hI := valid_inv hb
  have hc := valid_apply hb hx ha
  obtain ⟨hm, hl⟩ := apply_mem hI hx ha
  have hh := has_of_mem (valid_inv hc) hm
  exact ⟨hc, hh, by unfold applyR; rw [if_pos ⟨hc, hx⟩]; unfold applyE; rw [if_pos hh], hl⟩
theorem stepEn_ne6 {y : BEn} {e : BEv} : stepEn y e ≠ .error 6 := fun h => by have := stepEn_pos h; omega
theorem code6 {b : Bk} {x : BEv} : applyR b x = .error 6 ↔ (evB x && validB b && hasE b.entries x) = true := by
  unfold applyR
  by_cases hv : validB b = true ∧ evB x = true
  · rw [if_pos hv]
    unfold applyE
    by_cases hh : hasE b.entries x = true
    · rw [if_pos hh, hv.1, hv.2, hh]; simp
    · rw [if_neg hh]
      have h2 : (evB x && validB b && hasE b.entries x) = false := by simp at hh; rw [hh]; simp
      rw [h2]
      constructor
      · intro h
        exfalso
        split at h
        · cases h
        split at h
        · split at h
          · cases h
          split at h
          · cases h
          · cases h
        · split at h
          · cases h
          · split at h
            · rename_i hs
              injection h with h
              rw [h] at hs
              exact stepEn_ne6 hs
            · cases h
      · intro h; cases h
  · rw [if_neg hv]
    constructor
    · intro h; cases h
    · intro h
      exfalso
      simp only [Bool.and_eq_true] at h
      exact hv ⟨h.1.2, h.1.1⟩
end Go.Proofs.YtnjiomggbafkmaaGreatDoor
