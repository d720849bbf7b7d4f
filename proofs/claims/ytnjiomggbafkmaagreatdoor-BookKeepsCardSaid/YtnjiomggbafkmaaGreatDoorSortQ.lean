/- Plain laws of slices' symMerge: the rotation, the merge, and the two insertions. -/
import Derived.Test.YtnjiomggbafkmaaGreatDoorSortP
namespace Go.Proofs.YtnjiomggbafkmaaGreatDoor
open Go.Sort (swp swp_get size_swp)
section
variable {α : Type} [Inhabited α] {f : α → Int}

/-- Two elements change places. -/
theorem swp_lists {d : Array α} {A B C : List α} {x y : α} (h : d.toList = A ++ x :: (B ++ y :: C)) : (swp d A.length (A.length + 1 + B.length)).toList = A ++ y :: (B ++ x :: C) := by
  have hsz : d.size = A.length + 1 + B.length + 1 + C.length := by rw [← Array.length_toList, h]; simp; omega
  have gx : d[A.length]! = x := by
    rw [← toList_get! d A.length (by omega)]; simp [h]
  have gy : d[A.length + 1 + B.length]! = y := by
    rw [← toList_get! d _ (by omega)]
    have : d.toList[A.length + 1 + B.length]? = some y := by
      rw [h, List.getElem?_append_right (by omega), show A.length + 1 + B.length - A.length = B.length + 1 by omega, List.getElem?_cons_succ, List.getElem?_append_right (by omega), Nat.sub_self]; rfl
    rw [List.getElem?_eq_getElem (by simp; omega)] at this
    exact Option.some.inj this
  refine List.ext_getElem? fun t => ?_
  have hs2 : (swp d A.length (A.length + 1 + B.length)).size = d.size := size_swp _ _ _
  by_cases ht : t < d.size
  · have h0 : d.toList[t]? = some d[t]! := by rw [List.getElem?_eq_getElem (by simpa using ht), toList_get! d t ht]
    rw [List.getElem?_eq_getElem (by simpa [hs2] using ht), toList_get! _ t (by rw [hs2]; exact ht), swp_get d (by omega) (by omega), gx, gy]
    rw [h] at h0
    by_cases h1 : t < A.length
    · rw [if_neg (by omega), if_neg (by omega), ← h0, List.getElem?_append_left h1, List.getElem?_append_left h1]
    · rw [List.getElem?_append_right (by omega)] at h0 ⊢
      by_cases h2 : t = A.length
      · rw [if_neg (by omega), if_pos h2, h2, Nat.sub_self]; rfl
      · obtain ⟨u, rfl⟩ : ∃ u, t = A.length + 1 + u := ⟨t - A.length - 1, by omega⟩
        rw [show A.length + 1 + u - A.length = u + 1 by omega, List.getElem?_cons_succ] at h0 ⊢
        by_cases h3 : u < B.length
        · rw [if_neg (by omega), if_neg (by omega), ← h0, List.getElem?_append_left h3, List.getElem?_append_left h3]
        · rw [List.getElem?_append_right (by omega)] at h0 ⊢
          by_cases h4 : u = B.length
          · rw [if_pos (by omega), h4, Nat.sub_self]; rfl
          · rw [if_neg (by omega), if_neg (by omega), ← h0]
            obtain ⟨v, rfl⟩ : ∃ v, u = B.length + 1 + v := ⟨u - B.length - 1, by omega⟩
            rw [show B.length + 1 + v - B.length = v + 1 by omega, List.getElem?_cons_succ, List.getElem?_cons_succ]
  · rw [List.getElem?_eq_none (by simp [hs2]; omega), List.getElem?_eq_none (by simp; omega)]

/-- An array of a list's elements, by place. -/
theorem get_of_toList {d : Array α} {l : List α} (h : d.toList = l) (i : Nat) (hi : i < l.length) : d[i]! = l[i] := by
  have hs : i < d.size := by rw [← Array.length_toList, h]; exact hi
  rw [← toList_get! d i hs]
  subst h; rfl

omit [Inhabited α] in
/-- The rotation of two blocks, the first of greater ranks. -/
theorem sameBy_rot {d d' : Array α} {P U V R : List α} (h : d.toList = P ++ (U ++ (V ++ R))) (h' : d'.toList = P ++ (V ++ (U ++ R))) (hg : ∀ x ∈ U, ∀ y ∈ V, f y < f x) : SameBy f d d' := by
  refine ⟨by rw [← Array.length_toList, ← Array.length_toList, h, h']; simp; omega, fun t => ?_⟩
  rw [h, h', List.filter_append, List.filter_append, List.filter_append, List.filter_append, List.filter_append, List.filter_append]
  congr 1
  rw [← List.append_assoc, ← List.append_assoc]
  congr 1
  by_cases hU : U.filter (fun x => f x == t) = []
  · rw [hU, List.append_nil, List.nil_append]
  · have hV : V.filter (fun x => f x == t) = [] := by
      rw [List.filter_eq_nil_iff]
      intro y hy
      obtain ⟨x, hx⟩ := List.exists_mem_of_ne_nil _ hU
      rw [List.mem_filter] at hx
      have h1 := hg x hx.1 y hy
      have h2 : f x = t := by simpa using hx.2
      simp; omega
    rw [hV, List.append_nil, List.nil_append]

/-- What stands in the part that was turned stood there before. -/
theorem SameBy.seg {a b : Nat} {d d' : Array α} (h : SameBy f d d') (hw : Within a b d d') (hab : a ≤ b) (hb : b ≤ d.size) (i : Nat) (h1 : a ≤ i) (h2 : i < b) : ∃ j, a ≤ j ∧ j < b ∧ f d'[i]! = f d[j]! := by
  have hs := h.1
  have hl : ∀ e : Array α, e.size = d.size → e.toList = e.toList.take a ++ ((e.toList.drop a).take (b - a) ++ e.toList.drop b) := fun e he => by
    have e1 : (e.toList.drop a).drop (b - a) = e.toList.drop b := by rw [List.drop_drop]; congr 1; omega
    rw [← e1, List.take_append_drop, List.take_append_drop]
  have ht : d'.toList.take a = d.toList.take a := by
    refine List.ext_getElem? fun t => ?_
    rw [List.getElem?_take, List.getElem?_take]
    by_cases h3 : t < a
    · rw [if_pos h3, if_pos h3, List.getElem?_eq_getElem (by simp; omega), List.getElem?_eq_getElem (by simp; omega), toList_get! d' t (by omega), toList_get! d t (by omega), hw t (.inl h3)]
    · rw [if_neg h3, if_neg h3]
  have hd : d'.toList.drop b = d.toList.drop b := by
    refine List.ext_getElem? fun t => ?_
    rw [List.getElem?_drop, List.getElem?_drop]
    by_cases h3 : b + t < d.size
    · rw [List.getElem?_eq_getElem (by simp; omega), List.getElem?_eq_getElem (by simp; omega), toList_get! d' _ (by omega), toList_get! d _ (by omega), hw _ (.inr (by omega))]
    · rw [List.getElem?_eq_none (by simp; omega), List.getElem?_eq_none (by simp; omega)]
  have hf := h.2 (f d'[i]!)
  rw [hl d' hs, hl d rfl, ht, hd, List.filter_append, List.filter_append, List.filter_append, List.filter_append] at hf
  have hf2 := List.append_cancel_right (List.append_cancel_left hf)
  have hm : d'[i]! ∈ ((d'.toList.drop a).take (b - a)).filter (fun x => f x == f d'[i]!) := by
    rw [List.mem_filter]
    refine ⟨?_, by simp⟩
    rw [List.mem_take_iff_getElem]
    refine ⟨i - a, by simp; omega, ?_⟩
    rw [List.getElem_drop, ← toList_get! d' i (by omega)]
    congr 1; omega
  rw [hf2, List.mem_filter, List.mem_take_iff_getElem] at hm
  obtain ⟨⟨j, hj, hje⟩, hjf⟩ := hm
  rw [List.getElem_drop] at hje
  simp only [List.length_drop, Array.length_toList] at hj
  refine ⟨a + j, by omega, by omega, ?_⟩
  rw [← toList_get! d (a + j) (by omega), hje]

/-- Two sorted halves, the first of lesser ranks, each merged by itself. -/
theorem merge_halves {a mid b : Nat} {d d2 d3 : Array α} (hab : a ≤ mid) (hmb : mid ≤ b) (hb : b ≤ d.size) (h12 : SameBy f d d2) (w12 : Within a mid d d2) (h23 : SameBy f d2 d3) (w23 : Within mid b d2 d3)
    (hs2 : SortedA f a mid d2) (hs3 : SortedA f mid b d3) (hlt : ∀ i j, a ≤ i → i < mid → mid ≤ j → j < b → f d[i]! ≤ f d[j]!) : SortedA f a b d3 := by
  have hz := h12.1
  intro i j h1 h2 h3
  by_cases hj : j < mid
  · rw [w23 i (.inl (by omega)), w23 j (.inl hj)]
    exact hs2 i j h1 h2 hj
  · by_cases hi : mid ≤ i
    · exact hs3 i j hi h2 h3
    · rw [w23 i (.inl (by omega))]
      obtain ⟨i', p1, p2, p3⟩ := h12.seg w12 hab (by omega) i h1 (by omega)
      obtain ⟨j', q1, q2, q3⟩ := h23.seg w23 hmb (by omega) j (by omega) h3
      rw [p3, q3, w12 j' (.inr q1)]
      exact hlt i' j' p1 p2 q1 q2

/-- What the search between the two blocks has found. -/
structure Split (f : α → Int) (a m b mid s : Nat) (d : Array α) : Prop where
  ls : a ≤ s
  sm : s ≤ m
  smid : s ≤ mid
  mid_eq : mid = (a + b) / 2
  me : m ≤ mid + m - s
  eb : mid + m - s ≤ b
  left : s = a ∨ mid + m - s = b ∨ f d[s - 1]! ≤ f d[mid + m - s]!
  right : s = m ∨ mid + m - s = m ∨ f d[mid + m - s - 1]! < f d[s]!

theorem Split.gt {a m b mid s : Nat} {d : Array α} (h : Split f a m b mid s d) (h1 : SortedA f a m d) (h2 : SortedA f m b d) (i j : Nat) (hi : s ≤ i) (him : i < m) (hj : m ≤ j) (hje : j < mid + m - s) : f d[j]! < f d[i]! := by
  have a1 := h.ls; have a3 := h.eb
  rcases h.right with h3 | h3 | h3
  · omega
  · omega
  · have p1 : f d[s]! ≤ f d[i]! := by
      by_cases e : s = i
      · rw [e]; exact Int.le_refl _
      · exact h1 s i a1 (by omega) him
    have p2 : f d[j]! ≤ f d[mid + m - s - 1]! := by
      by_cases e : j = mid + m - s - 1
      · rw [e]; exact Int.le_refl _
      · exact h2 j (mid + m - s - 1) hj (by omega) (by omega)
    omega

/-- Behind the rotation: four sorted parts; the first two of lesser ranks than the others. -/
theorem Split.after {a m b mid s : Nat} {d d1 : Array α} {P U V R : List α} (h : Split f a m b mid s d) (_ : a < m) (hmb : m < b) (hb : b ≤ d.size) (h1 : SortedA f a m d) (h2 : SortedA f m b d)
    (hd : d.toList = P ++ (U ++ (V ++ R))) (hd1 : d1.toList = P ++ (V ++ (U ++ R))) (hP : P.length = s) (hU : U.length = m - s) (hV : V.length = mid - s) :
    SameBy f d d1 ∧ Within a b d d1 ∧ SortedA f a s d1 ∧ SortedA f s mid d1 ∧ SortedA f mid (mid + m - s) d1 ∧ SortedA f (mid + m - s) b d1 ∧ ∀ i j, a ≤ i → i < mid → mid ≤ j → j < b → f d1[i]! ≤ f d1[j]! := by
  have b1 := h.ls; have b2 := h.sm; have b3 := h.smid; have b4 := h.me; have b5 := h.eb
  have hlen : d.size = s + (m - s) + (mid - s) + R.length := by rw [← Array.length_toList, hd]; simp; omega
  have hsz : d1.size = d.size := by rw [← Array.length_toList, ← Array.length_toList, hd, hd1]; simp; omega
  -- where each element of d1 stood
  have e0 : ∀ i, i < s → d1[i]! = d[i]! := fun i hi => by
    rw [get_of_toList hd1 i (by simp; omega), get_of_toList hd i (by simp; omega), List.getElem_append_left (by omega), List.getElem_append_left (by omega)]
  have e3 : ∀ i, mid + m - s ≤ i → d1[i]! = d[i]! := fun i hi => by
    by_cases hlt : i < d.size
    · have q1 : d1.toList[i]? = d.toList[i]? := by
        rw [hd, hd1, List.getElem?_append_right (by omega), List.getElem?_append_right (by omega), List.getElem?_append_right (by omega), List.getElem?_append_right (by omega), List.getElem?_append_right (by omega), List.getElem?_append_right (by omega)]
        congr 1; omega
      rw [List.getElem?_eq_getElem (by simp; omega), List.getElem?_eq_getElem (by simp; omega), toList_get! d1 i (by omega), toList_get! d i hlt] at q1
      exact Option.some.inj q1
    · rw [getElem!_neg d1 i (by omega), getElem!_neg d i (by omega)]
  have e1 : ∀ i, s ≤ i → i < mid → d1[i]! = d[i - s + m]! := fun i hi hm => by
    have q1 : d1.toList[i]? = d.toList[i - s + m]? := by
      rw [hd, hd1, List.getElem?_append_right (by omega), List.getElem?_append_left (by omega), List.getElem?_append_right (by omega), List.getElem?_append_right (by omega), List.getElem?_append_left (by omega)]
      congr 1; omega
    rw [List.getElem?_eq_getElem (by simp; omega), List.getElem?_eq_getElem (by simp; omega), toList_get! d1 i (by omega), toList_get! d _ (by omega)] at q1
    exact Option.some.inj q1
  have e2 : ∀ i, mid ≤ i → i < mid + m - s → d1[i]! = d[i - mid + s]! := fun i hi hm => by
    have q1 : d1.toList[i]? = d.toList[i - mid + s]? := by
      rw [hd, hd1, List.getElem?_append_right (by omega), List.getElem?_append_right (by omega), List.getElem?_append_left (by omega), List.getElem?_append_right (by omega), List.getElem?_append_left (by omega)]
      congr 1; omega
    rw [List.getElem?_eq_getElem (by simp; omega), List.getElem?_eq_getElem (by simp; omega), toList_get! d1 i (by omega), toList_get! d _ (by omega)] at q1
    exact Option.some.inj q1
  have le1 : ∀ i j, a ≤ i → i ≤ j → j < m → f d[i]! ≤ f d[j]! := fun i j p q r => by
    by_cases e : i = j
    · rw [e]; exact Int.le_refl _
    · exact h1 i j p (by omega) r
  have le2 : ∀ i j, m ≤ i → i ≤ j → j < b → f d[i]! ≤ f d[j]! := fun i j p q r => by
    by_cases e : i = j
    · rw [e]; exact Int.le_refl _
    · exact h2 i j p (by omega) r
  refine ⟨sameBy_rot hd hd1 fun x hx y hy => ?_, fun i hi => ?_, fun i j p q r => ?_, fun i j p q r => ?_, fun i j p q r => ?_, fun i j p q r => ?_, fun i j p q r t => ?_⟩
  · obtain ⟨i, hi, rfl⟩ := List.getElem_of_mem hx
    obtain ⟨j, hj, rfl⟩ := List.getElem_of_mem hy
    have g1 : d[s + i]! = U[i] := by
      rw [get_of_toList hd (s + i) (by simp; omega)]
      rw [List.getElem_append_right (by omega), List.getElem_append_left (by omega)]
      congr 1; omega
    have g2 : d[m + j]! = V[j] := by
      rw [get_of_toList hd (m + j) (by simp; omega)]
      rw [List.getElem_append_right (by omega), List.getElem_append_right (by omega), List.getElem_append_left (by omega)]
      congr 1; omega
    rw [← g1, ← g2]
    exact h.gt h1 h2 _ _ (by omega) (by omega) (by omega) (by omega)
  · rcases hi with hi | hi
    · exact e0 i (by omega)
    · exact e3 i (by omega)
  · rw [e0 i (by omega), e0 j (by omega)]; exact le1 i j p (by omega) (by omega)
  · rw [e1 i (by omega) (by omega), e1 j (by omega) (by omega)]; exact le2 _ _ (by omega) (by omega) (by omega)
  · rw [e2 i (by omega) (by omega), e2 j (by omega) (by omega)]; exact le1 _ _ (by omega) (by omega) (by omega)
  · rw [e3 i (by omega), e3 j (by omega)]; exact le2 i j (by omega) (by omega) (by omega)
  · by_cases his : i < s
    · rw [e0 i his]
      by_cases hje : j < mid + m - s
      · rw [e2 j r hje]; exact le1 _ _ p (by omega) (by omega)
      · rw [e3 j (by omega)]
        rcases h.left with h3 | h3 | h3
        · omega
        · omega
        · have q1 := le1 i (s - 1) p (by omega) (by omega)
          have q2 := le2 (mid + m - s) j (by omega) (by omega) t
          omega
    · rw [e1 i (by omega) q]
      by_cases hje : j < mid + m - s
      · rw [e2 j r hje]
        exact Int.le_of_lt (h.gt h1 h2 _ _ (by omega) (by omega) (by omega) (by omega))
      · rw [e3 j (by omega)]; exact le2 _ _ (by omega) (by omega) t

/-! ### One element into a sorted block -/
/-- All but the element at k, as the lesser one of a pair, stand in order. -/
def MovR (f : α → Int) (a b k : Nat) (d : Array α) : Prop := ∀ p q, a ≤ p → p < q → q < b → p ≠ k → f d[p]! ≤ f d[q]!
theorem MovR.start {a b : Nat} {d : Array α} (h : SortedA f (a + 1) b d) : MovR f a b a d := fun p q h1 h2 h3 h4 => h p q (by omega) h2 h3
theorem MovR.stop {a b k : Nat} {d : Array α} (h : MovR f a b k d) (hs : b ≤ k + 1 ∨ f d[k]! ≤ f d[k + 1]!) : SortedA f a b d := by
  intro p q h1 h2 h3
  by_cases hp : p = k
  · subst hp
    rcases hs with hs | hs
    · omega
    · by_cases hq : q = p + 1
      · rw [hq]; exact hs
      · have := h (p + 1) q (by omega) (by omega) h3 (by omega)
        omega
  · exact h p q h1 h2 h3 hp
theorem MovR.step {a b k : Nat} {d : Array α} (h : MovR f a b k d) (_ : a ≤ k) (hk : k + 1 < b) (hb : b ≤ d.size) (hlt : f d[k + 1]! < f d[k]!) : MovR f a b (k + 1) (swp d k (k + 1)) := by
  intro p q h1 h2 h3 h4
  rw [swp_get d (by omega) (by omega), swp_get d (by omega) (by omega), if_neg h4]
  by_cases hp : p = k
  · rw [if_pos hp]
    by_cases hq : q = k + 1
    · rw [if_pos hq]; omega
    · rw [if_neg hq, if_neg (by omega)]
      exact h (k + 1) q (by omega) (by omega) h3 (by omega)
  · rw [if_neg hp]
    by_cases hq : q = k + 1
    · rw [if_pos hq]; exact h p k h1 (by omega) (by omega) hp
    · rw [if_neg hq]
      by_cases hq2 : q = k
      · rw [if_pos hq2]; exact h p (k + 1) h1 (by omega) hk hp
      · rw [if_neg hq2]; exact h p q h1 h2 h3 hp

/-! ### Blocks -/
/-- Each block of s elements is sorted. -/
def Blocks (f : α → Int) (s n : Nat) (d : Array α) : Prop := ∀ q, SortedA f (q * s) (min ((q + 1) * s) n) d
theorem sortedA_stable {d d' : Array α} (h : SortedA f 0 d'.size d') (hs : SameBy f d d') : StableBy f d.toList d'.toList := by
  refine ⟨?_, hs.2⟩
  rw [List.pairwise_iff_getElem]
  intro i j hi hj hij
  rw [toList_get! d' i (by simpa using hi), toList_get! d' j (by simpa using hj)]
  exact h i j (Nat.zero_le _) hij (by simpa using hj)
end
end Go.Proofs.YtnjiomggbafkmaaGreatDoor
