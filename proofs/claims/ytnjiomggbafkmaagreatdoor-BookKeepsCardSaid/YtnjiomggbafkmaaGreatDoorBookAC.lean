/- clone of package book: what its loop keeps. Printed by wip/gen/clonestate.py. -/
import Derived.Test.YtnjiomggbafkmaaGreatDoorBookAB
import Derived.Deep.Onto
namespace Go.Proofs.YtnjiomggbafkmaaGreatDoor
open Go.RowKit Go.Lib

/-- Of the entries in hand, the grades of the first p and the appeals of the first q are the call's own; the rest lie where they lay at the beginning. -/
structure CloS (B : Nat) (w0 : World) (p q g n : Nat) (W : World) (rows : List EnR) : Prop where
  len : rows.length = n
  le : B ≤ W.heap.size
  ents : W.ownsRow B 39 7 (.slice (some ⟨g, 0, none⟩) n n) n (flatCs enCs rows)
  gown : ∀ j (hj : j < rows.length), j < p → W.ownsRow B 42 4 rows[j].g rows[j].y.grades.length (flatCs grCs rows[j].y.grades)
  gin : ∀ j (hj : j < rows.length), p ≤ j → RowsIn grCs 4 w0 rows[j].g rows[j].y.grades
  gap : ∀ j k (hj : j < rows.length) (hk : k < rows.length), j < p → k < p → j ≠ k → OwnApart rows[j].g rows[k].g
  aown : ∀ j (hj : j < rows.length), j < q → W.ownsRow B 44 6 rows[j].a rows[j].y.appeals.length (flatCs apCs rows[j].y.appeals)
  ain : ∀ j (hj : j < rows.length), q ≤ j → RowsIn apCs 6 w0 rows[j].a rows[j].y.appeals
  aap : ∀ j k (hj : j < rows.length) (hk : k < rows.length), j < q → k < q → j ≠ k → OwnApart rows[j].a rows[k].a
theorem CloS.below {B : Nat} {w0 : World} {p q g n : Nat} {W W' : World} {rows : List EnR} (h : CloS B w0 p q g n W rows) (hb : Below W.heap.size W W') : CloS B w0 p q g n W' rows :=
  ⟨h.len, Nat.le_trans h.le hb.size, ownsRow_old h.ents hb, fun j hj hp => ownsRow_old (h.gown j hj hp) hb, h.gin, h.gap, fun j hj hp => ownsRow_old (h.aown j hj hp) hb, h.ain, h.aap⟩
theorem CloS.done {B : Nat} {w0 : World} {g n : Nat} {W : World} {rows : List EnR} (h : CloS B w0 n n g n W rows) : OwnEnts B W (.slice (some ⟨g, 0, none⟩) n n) rows := by
  have hl := h.len
  refine ⟨by rw [hl]; exact h.ents, fun r hr => ?_, fun i j hi hj hne => ⟨h.gap i j hi hj (by omega) (by omega) hne, h.aap i j hi hj (by omega) (by omega) hne⟩⟩
  obtain ⟨j, hj, rfl⟩ := List.getElem_of_mem hr
  exact ⟨h.gown j hj (by omega), h.aown j hj (by omega)⟩
theorem CloS.at_ {B : Nat} {w0 : World} {p q g n : Nat} {W : World} {rows : List EnR} (h : CloS B w0 p q g n W rows) (i : Nat) (hi : i < rows.length) :
    W.cell? ⟨g, i * 7 + 5, none⟩ = some rows[i].g ∧ W.cell? ⟨g, i * 7 + 6, none⟩ = some rows[i].a ∧ W.frozen? ⟨g, i * 7 + 5, none⟩ = false ∧ W.frozen? ⟨g, i * 7 + 6, none⟩ = false := by
  have hl := h.len
  refine ⟨?_, ?_, h.ents.frozenAt _, h.ents.frozenAt _⟩
  · exact (h.ents.cellAt (i * 7 + 5) (by omega)).trans (flatCs_get enCs_len rows i hi 5 (by simp))
  · exact (h.ents.cellAt (i * 7 + 6) (by omega)).trans (flatCs_get enCs_len rows i hi 6 (by simp))
/-- The grades of the next entry are cloned. -/
theorem CloS.putG {B : Nat} {w0 : World} {q g n i : Nat} {W W1 : World} {rows : List EnR} {v : Value} (h : CloS B w0 i q g n W rows) (hi : i < rows.length) (hb : Below W.heap.size W W1)
    (hv : W1.ownsRow W.heap.size 42 4 v rows[i].y.grades.length (flatCs grCs rows[i].y.grades)) : CloS B w0 (i + 1) q g n (W1.setCell ⟨g, i * 7 + 5, none⟩ v) (rows.set i ⟨rows[i].y, v, rows[i].a⟩) := by
  have h1 := h.below hb
  have hl := h.len
  have hset : ∀ j (hj : j < (rows.set i ⟨rows[i].y, v, rows[i].a⟩).length), (rows.set i ⟨rows[i].y, v, rows[i].a⟩)[j] = if i = j then ⟨rows[i].y, v, rows[i].a⟩ else rows[j]'(by rwa [List.length_set] at hj) := fun j hj => List.getElem_set _
  have hB := h.le
  refine ⟨by rw [List.length_set]; exact hl, by simpa using Nat.le_trans hB hb.size, ?_, fun j hj hp => ?_, fun j hj hp => ?_, fun j k hj hk hp hq hne => ?_, fun j hj hp => ?_, fun j hj hp => ?_, fun j k hj hk hp hq hne => ?_⟩
  · rw [← flatCs_set enCs_len v 5 (by decide) rows i hi ⟨rows[i].y, v, rows[i].a⟩ rfl]
    exact (h1.ents.stored (i * 7 + 5) v).1
  · rw [List.length_set] at hj
    by_cases e : i = j
    · subst e
      rw [hset i, if_pos rfl]
      exact ownsRow_setCell_other (World.ownsRow.mono hv hB) (own_ne_some hv h1.ents (by decide)) _
    · rw [hset j, if_neg e]
      exact ownsRow_setCell_other (h1.gown j hj (by omega)) (own_ne_some (h1.gown j hj (by omega)) h1.ents (by decide)) _
  · rw [hset j hj, if_neg (by omega)]
    rw [List.length_set] at hj
    exact h.gin j hj (by omega)
  · rw [hset j hj, hset k hk]
    rw [List.length_set] at hj hk
    by_cases e : i = j
    · rw [if_pos e, if_neg (by omega)]
      rcases hob : v.ownBlock with _ | z
      · exact .inl hob
      · right
        intro e2
        rw [hob] at e2
        have h3 := (hv.lt z hob).1
        have h4 := ((h.gown k hk (by omega)).lt z e2.symm).2
        omega
    · rw [if_neg e]
      by_cases e2 : i = k
      · rw [if_pos e2]
        rcases hob : (rows[j].g).ownBlock with _ | z
        · exact .inl hob
        · right
          intro e3
          rw [hob] at e3
          have h3 := (hv.lt z e3.symm).1
          have h4 := ((h.gown j hj (by omega)).lt z hob).2
          omega
      · rw [if_neg e2]
        exact h.gap j k hj hk (by omega) (by omega) hne
  · rw [List.length_set] at hj
    have h5 := h1.aown j hj hp
    rw [hset j]
    by_cases e : i = j
    · subst e
      rw [if_pos rfl]
      exact ownsRow_setCell_other h5 (own_ne_some h5 h1.ents (by decide)) _
    · rw [if_neg e]
      exact ownsRow_setCell_other h5 (own_ne_some h5 h1.ents (by decide)) _
  · rw [hset j hj]
    rw [List.length_set] at hj
    by_cases e : i = j
    · subst e; rw [if_pos rfl]; exact h.ain i hj hp
    · rw [if_neg e]; exact h.ain j hj hp
  · rw [hset j hj, hset k hk]
    rw [List.length_set] at hj hk
    by_cases e : i = j
    · subst e; rw [if_pos rfl, if_neg (by omega)]; exact h.aap i k hj hk hp hq hne
    · rw [if_neg e]
      by_cases e2 : i = k
      · subst e2; rw [if_pos rfl]; exact h.aap j i hj hk hp hq hne
      · rw [if_neg e2]; exact h.aap j k hj hk hp hq hne
/-- The appeals of the next entry are cloned. -/
theorem CloS.putA {B : Nat} {w0 : World} {p g n i : Nat} {W W1 : World} {rows : List EnR} {v : Value} (h : CloS B w0 p i g n W rows) (hi : i < rows.length) (hb : Below W.heap.size W W1)
    (hv : W1.ownsRow W.heap.size 44 6 v rows[i].y.appeals.length (flatCs apCs rows[i].y.appeals)) : CloS B w0 p (i + 1) g n (W1.setCell ⟨g, i * 7 + 6, none⟩ v) (rows.set i ⟨rows[i].y, rows[i].g, v⟩) := by
  have h1 := h.below hb
  have hl := h.len
  have hset : ∀ j (hj : j < (rows.set i ⟨rows[i].y, rows[i].g, v⟩).length), (rows.set i ⟨rows[i].y, rows[i].g, v⟩)[j] = if i = j then ⟨rows[i].y, rows[i].g, v⟩ else rows[j]'(by rwa [List.length_set] at hj) := fun j hj => List.getElem_set _
  have hB := h.le
  refine ⟨by rw [List.length_set]; exact hl, by simpa using Nat.le_trans hB hb.size, ?_, fun j hj hp => ?_, fun j hj hp => ?_, fun j k hj hk hp hq hne => ?_, fun j hj hp => ?_, fun j hj hp => ?_, fun j k hj hk hp hq hne => ?_⟩
  · rw [← flatCs_set enCs_len v 6 (by decide) rows i hi ⟨rows[i].y, rows[i].g, v⟩ rfl]
    exact (h1.ents.stored (i * 7 + 6) v).1
  · rw [List.length_set] at hj
    have h5 := h1.gown j hj hp
    rw [hset j]
    by_cases e : i = j
    · subst e
      rw [if_pos rfl]
      exact ownsRow_setCell_other h5 (own_ne_some h5 h1.ents (by decide)) _
    · rw [if_neg e]
      exact ownsRow_setCell_other h5 (own_ne_some h5 h1.ents (by decide)) _
  · rw [hset j hj]
    rw [List.length_set] at hj
    by_cases e : i = j
    · subst e; rw [if_pos rfl]; exact h.gin i hj hp
    · rw [if_neg e]; exact h.gin j hj hp
  · rw [hset j hj, hset k hk]
    rw [List.length_set] at hj hk
    by_cases e : i = j
    · subst e; rw [if_pos rfl, if_neg (by omega)]; exact h.gap i k hj hk hp hq hne
    · rw [if_neg e]
      by_cases e2 : i = k
      · subst e2; rw [if_pos rfl]; exact h.gap j i hj hk hp hq hne
      · rw [if_neg e2]; exact h.gap j k hj hk hp hq hne
  · rw [List.length_set] at hj
    by_cases e : i = j
    · subst e
      rw [hset i, if_pos rfl]
      exact ownsRow_setCell_other (World.ownsRow.mono hv hB) (own_ne_some hv h1.ents (by decide)) _
    · rw [hset j, if_neg e]
      exact ownsRow_setCell_other (h1.aown j hj (by omega)) (own_ne_some (h1.aown j hj (by omega)) h1.ents (by decide)) _
  · rw [hset j hj, if_neg (by omega)]
    rw [List.length_set] at hj
    exact h.ain j hj (by omega)
  · rw [hset j hj, hset k hk]
    rw [List.length_set] at hj hk
    by_cases e : i = j
    · rw [if_pos e, if_neg (by omega)]
      rcases hob : v.ownBlock with _ | z
      · exact .inl hob
      · right
        intro e2
        rw [hob] at e2
        have h3 := (hv.lt z hob).1
        have h4 := ((h.aown k hk (by omega)).lt z e2.symm).2
        omega
    · rw [if_neg e]
      by_cases e2 : i = k
      · rw [if_pos e2]
        rcases hob : (rows[j].a).ownBlock with _ | z
        · exact .inl hob
        · right
          intro e3
          rw [hob] at e3
          have h3 := (hv.lt z e3.symm).1
          have h4 := ((h.aown j hj (by omega)).lt z hob).2
          omega
      · rw [if_neg e2]
        exact h.aap j k hj hk (by omega) (by omega) hne
end Go.Proofs.YtnjiomggbafkmaaGreatDoor
