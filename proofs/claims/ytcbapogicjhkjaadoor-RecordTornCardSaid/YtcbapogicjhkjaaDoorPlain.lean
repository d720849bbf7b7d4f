/- Records one behind the other: what is read of them. -/
import Derived.Test.YtcbapogicjhkjaaDoorWalkRec
namespace Go.Proofs.YtcbapogicjhkjaaDoor
open Go.RowKit Go.Lib

/-- The bytes of some records. -/
def encL (g : Nat) (ps : List (List UInt8)) : List UInt8 := ps.flatMap (recL g)
theorem encL_snoc (g : Nat) (ps : List (List UInt8)) (p : List UInt8) : encL g (ps ++ [p]) = encL g ps ++ recL g p := by simp [encL]
theorem encL_cons (g : Nat) (ps : List (List UInt8)) (p : List UInt8) : encL g (p :: ps) = recL g p ++ encL g ps := by simp [encL]
theorem encL_append (g : Nat) (ps qs : List (List UInt8)) : encL g (ps ++ qs) = encL g ps ++ encL g qs := by simp [encL]
theorem encL_length (g : Nat) (ps : List (List UInt8)) : (encL g ps).length = offL ps := by
  induction ps with
  | nil => rfl
  | cons p ps ih => rw [encL_cons, List.length_append, ih, recL_length]; simp [offL]

/-- Where each of some records begins, and the end. -/
def offs (ps : List (List UInt8)) : List Nat := (List.range (ps.length + 1)).map fun k => offL (ps.take k)
theorem offs_length (ps : List (List UInt8)) : (offs ps).length = ps.length + 1 := by simp [offs]
theorem offs_get (ps : List (List UInt8)) (k : Nat) (h : k < (offs ps).length) : (offs ps)[k] = offL (ps.take k) := by simp [offs]
theorem offs_nil : offs [] = [0] := by decide
theorem offs_snoc (ps : List (List UInt8)) (p : List UInt8) : offs (ps ++ [p]) = offs ps ++ [offL (ps ++ [p])] := by
  unfold offs
  rw [List.length_append, List.length_singleton, List.range_succ, List.map_append]
  congr 1
  · refine List.map_congr_left fun k hk => ?_
    rw [List.take_append_of_le_length (by simp at hk; omega)]
  · simp only [List.map_cons, List.map_nil]
    rw [List.take_of_length_le (by simp)]
theorem offL_append (ps qs : List (List UInt8)) : offL (ps ++ qs) = offL ps + offL qs := by simp [offL]
theorem offL_take_succ (ps : List (List UInt8)) (k : Nat) (h : k < ps.length) : offL (ps.take (k + 1)) = offL (ps.take k) + (50 + 2 * ps[k].length) := by
  rw [take_snoc' ps k h, offL_snoc]
theorem offL_take_le (ps : List (List UInt8)) (k : Nat) : offL (ps.take k) ≤ offL ps := by
  have h : offL ps = offL (ps.take k) + offL (ps.drop k) := by
    rw [← offL_append, List.take_append_drop]
  omega
theorem offL_bound (ps : List (List UInt8)) (m : Nat) (h : ∀ p ∈ ps, p.length ≤ m) : offL ps ≤ ps.length * (50 + 2 * m) := by
  induction ps with
  | nil => simp [offL]
  | cons p ps ih =>
    have h1 := ih fun q hq => h q (by simp [hq])
    have h2 := h p (by simp)
    simp only [offL, List.map_cons, List.sum_cons, List.length_cons] at *
    rw [Nat.add_mul]
    omega

/-- A record at the front is read. -/
theorem walkL_rec (g : Nat) (p r : List UInt8) (hp : p.length ≤ 30000) : walkL (recL g p ++ r) g = p :: walkL r g := by
  rw [walkL_some (decL_some.2 ⟨hp, List.prefix_append _ _⟩), drop_app _ _ _ (recL_length g p)]
/-- Records at the front are read. -/
theorem walkL_enc (g : Nat) (ps : List (List UInt8)) (r : List UInt8) (hp : ∀ p ∈ ps, p.length ≤ 30000) : walkL (encL g ps ++ r) g = ps ++ walkL r g := by
  induction ps with
  | nil => rfl
  | cons p ps ih => rw [encL_cons, List.append_assoc, walkL_rec g p _ (hp p (by simp)), ih fun q hq => hp q (by simp [hq])]; rfl
theorem walkL_nil (g : Nat) : walkL [] g = [] := walkL_none (decL_none.2 fun p hp => by have := hp.len; simp at this)
theorem walkL_all (g : Nat) (ps : List (List UInt8)) (hp : ∀ p ∈ ps, p.length ≤ 30000) : walkL (encL g ps) g = ps := by
  have := walkL_enc g ps [] hp
  rwa [List.append_nil, walkL_nil, List.append_nil] at this

/-- Records are none of another generation. -/
theorem not_other {g o : Nat} (ps : List (List UInt8)) (hp : ∀ p ∈ ps, p.length ≤ 30000) (hg : g < 18446744073709551616) (ho : o < 18446744073709551616) (hne : o ≠ g) (q : List UInt8) : ¬ IsRec (encL g ps) o q := by
  intro h
  cases ps with
  | nil => have := h.len; simp [encL] at this
  | cons p ps =>
    have h' : IsRec (encL g (p :: ps)) g p := ⟨hp p (by simp), by rw [encL_cons]; exact List.prefix_append _ _⟩
    exact hne (h.uniqueGen h' ho hg)

/-- A strict front of a record is no record. -/
theorem not_front {g : Nat} {d q : List UInt8} (hd : d <+: recL g q) (hl : d.length < (recL g q).length) (hq : q.length ≤ 30000) (p : List UInt8) : ¬ IsRec d g p := by
  intro h
  have h1 : IsRec (recL g q) g p := ⟨h.1, h.2.trans hd⟩
  have h2 : IsRec (recL g q) g q := ⟨hq, List.prefix_refl _⟩
  have := h1.unique h2
  subst this
  have := h.2.length_le
  omega

/-- A front of records is read as those that lie in it. -/
theorem walkL_cut (g : Nat) (ps : List (List UInt8)) (hp : ∀ p ∈ ps, p.length ≤ 30000) (n k : Nat) (hk : k ≤ ps.length) (h1 : offL (ps.take k) ≤ n) (h2 : ∀ h : k < ps.length, n < offL (ps.take (k + 1))) (hn : n ≤ offL ps) :
    walkL ((encL g ps).take n) g = ps.take k := by
  have h : encL g ps = encL g (ps.take k) ++ encL g (ps.drop k) := by rw [← encL_append, List.take_append_drop]
  rw [h, List.take_append, List.take_of_length_le (by rw [encL_length]; exact h1), encL_length]
  rw [walkL_enc g _ _ fun p hp' => hp p (List.mem_of_mem_take hp')]
  by_cases hlt : k < ps.length
  · rw [List.drop_eq_getElem_cons hlt, encL_cons, walkL_none, List.append_nil]
    refine decL_none.2 fun p => ?_
    have h3 := h2 hlt
    rw [offL_take_succ ps k hlt] at h3
    have h4 := recL_length g ps[k]
    refine not_front (q := ps[k]) ?_ ?_ (hp _ (List.getElem_mem hlt)) p
    · rw [List.take_append_of_le_length (by omega)]
      exact List.take_prefix _ _
    · rw [List.length_take]; omega
  · have h5 : ps.drop k = [] := List.drop_of_length_le (by omega)
    rw [h5]
    simp [encL, walkL_nil]
end Go.Proofs.YtcbapogicjhkjaaDoor
