/- A record written in part over other records: what is read. -/
import Derived.Test.YtcbapogicjhkjaaDoorPlainB
namespace Go.Proofs.YtcbapogicjhkjaaDoor
open Go.RowKit Go.Lib

theorem stN_inj : ∀ (k : Nat) {g h : Nat}, g < 128 ^ k → h < 128 ^ k → stN k g = stN k h → g = h
  | 0, g, h, hg, hh, _ => by simp at hg hh; omega
  | k + 1, g, h, hg, hh, e => by
    simp only [stN, List.cons.injEq] at e
    obtain ⟨e1, e2⟩ := e
    have hk : 0 < 128 ^ k := Nat.pow_pos (by decide)
    have e3 : (128 + g / 128 ^ k % 128).toUInt8.toNat = (128 + h / 128 ^ k % 128).toUInt8.toNat := by rw [e1]
    have b1 := Nat.mod_lt (g / 128 ^ k) (show 0 < 128 by decide)
    have b2 := Nat.mod_lt (h / 128 ^ k) (show 0 < 128 by decide)
    simp only [Nat.toUInt8_eq, UInt8.toNat_ofNat'] at e3
    have c1 : g / 128 ^ k < 128 := Nat.div_lt_of_lt_mul (by rw [Nat.pow_succ] at hg; exact hg)
    have c2 : h / 128 ^ k < 128 := Nat.div_lt_of_lt_mul (by rw [Nat.pow_succ] at hh; exact hh)
    have e4 : g / 128 ^ k = h / 128 ^ k := by
      revert e3 c1 c2
      generalize g / 128 ^ k = X
      generalize h / 128 ^ k = Y
      intro e3 c1 c2
      omega
    have low : ∀ (j n : Nat), stN j n = stN j (n % 128 ^ j) := by
      intro j n
      refine List.ext_getElem (by rw [stN_length, stN_length]) fun i h1 h2 => ?_
      rw [stN_length] at h1
      rw [stN_get n j i h1, stN_get _ j i h1]
      have hd : 128 ^ j = 128 ^ (j - 1 - i) * (128 * 128 ^ i) := by
        rw [← Nat.mul_assoc, ← Nat.pow_succ, ← Nat.pow_add]; congr 1; omega
      rw [hd, Nat.mod_mul_right_div_self, Nat.mod_mul_right_mod]
    have e5 := stN_inj k (Nat.mod_lt g hk) (Nat.mod_lt h hk) (by rw [← low, ← low]; exact e2)
    rw [← Nat.div_add_mod g (128 ^ k), ← Nat.div_add_mod h (128 ^ k), e4, e5]

/-- Records of some generations, one behind the other. -/
def encC (l : List (Nat × List UInt8)) : List UInt8 := l.flatMap fun x => recL x.1 x.2
theorem encC_snoc (l : List (Nat × List UInt8)) (g : Nat) (p : List UInt8) : encC (l ++ [(g, p)]) = encC l ++ recL g p := by simp [encC]
theorem encC_cons (l : List (Nat × List UInt8)) (g : Nat) (p : List UInt8) : encC ((g, p) :: l) = recL g p ++ encC l := by simp [encC]

def noStamp (g : Nat) (L : List UInt8) : Prop := ∀ i, (L.drop i).take 9 ≠ stN 9 g

theorem cells_head (l : List (Nat × List UInt8)) (z : Nat) (h : 0 < (encC l ++ List.replicate z 0).length) : ((encC l ++ List.replicate z 0)[0]).toNat < 128 := by
  cases l with
  | nil =>
    simp only [encC, List.flatMap_nil, List.nil_append] at h ⊢
    rw [List.getElem_replicate]; decide
  | cons x l =>
    obtain ⟨g, p⟩ := x
    have hl := recL_length g p
    have e : (encC ((g, p) :: l) ++ List.replicate z 0)[0]? = (recL g p)[0]? := by
      rw [encC_cons, List.append_assoc, List.getElem?_append_left (by omega)]
    rw [List.getElem?_eq_getElem h, List.getElem?_eq_getElem (by omega)] at e
    rw [Option.some.inj e]
    exact recL_low g p 0 (by omega) (by omega)

theorem window {L S : List UInt8} {i : Nat} (h : (L.drop i).take 9 = S) (hS : S.length = 9) (j : Nat) (hj : j < 9) : ∃ h' : i + j < L.length, L[i + j] = S[j]'(by omega) := by
  have e : S[j]? = L[i + j]? := by rw [← h, List.getElem?_take, if_pos hj, List.getElem?_drop]
  rw [List.getElem?_eq_getElem (by omega)] at e
  have := e.symm
  obtain ⟨h', e'⟩ := List.getElem?_eq_some_iff.1 this
  exact ⟨h', e'⟩

theorem cells_noStamp (g : Nat) (hg : g < 128 ^ 9) (z : Nat) : ∀ (l : List (Nat × List UInt8)), (∀ x ∈ l, x.1 ≠ g ∧ x.1 < 128 ^ 9) → noStamp g (encC l ++ List.replicate z 0)
  | [], _ => by
    intro i h
    obtain ⟨h', e⟩ := window h (stN_length 9 g) 0 (by decide)
    have := stN_high g 0 (by decide)
    rw [← e] at this
    simp [encC] at this
  | (g', p) :: l, hx => by
    have ih := cells_noStamp g hg z l fun x h => hx x (by simp [h])
    have hne := hx (g', p) (by simp)
    intro i h
    rw [encC_cons, List.append_assoc] at h
    have hl := recL_length g' p
    have hw := fun j hj => window h (stN_length 9 g) j hj
    by_cases h1 : i < 41 + 2 * p.length
    · obtain ⟨h', e⟩ := hw 0 (by decide)
      rw [List.getElem_append_left (by omega)] at e
      have a := recL_low g' p (i + 0) (by omega) (by omega)
      have b := stN_high g 0 (by decide)
      rw [← e] at b
      omega
    · by_cases h2 : i = 41 + 2 * p.length
      · subst h2
        refine hne.1 (stN_inj 9 hne.2 hg ?_)
        rw [← h]
        refine List.ext_getElem (by rw [stN_length, List.length_take, List.length_drop, List.length_append]; omega) fun j hj1 hj2 => ?_
        rw [stN_length] at hj1
        obtain ⟨h', e⟩ := hw j hj1
        rw [List.getElem_append_left (by omega), recL_high g' p j hj1] at e
        rw [List.getElem_take, List.getElem_drop, List.getElem_append_left (by omega), recL_high g' p j hj1]
      · by_cases h3 : i < 50 + 2 * p.length
        · obtain ⟨h', e⟩ := hw (50 + 2 * p.length - i) (by omega)
          have b := stN_high g (50 + 2 * p.length - i) (by omega)
          rw [← e, List.getElem_append_right (by omega)] at b
          have hz : i + (50 + 2 * p.length - i) - (recL g' p).length = 0 := by omega
          have a := cells_head l z (by rw [List.length_append] at h'; omega)
          simp only [hz] at b
          omega
        · refine ih (i - (50 + 2 * p.length)) ?_
          rw [List.drop_append, List.drop_of_length_le (by omega), List.nil_append, hl] at h
          exact h

/-- A front of a record over what bears no stamp of its generation: a record stands there only if the whole one does. -/
theorem torn_only (g : Nat) (q C p : List UInt8) (F k : Nat) (hq : q.length ≤ 30000) (hC : noStamp g C) (h : IsRec ((recL g q).take k ++ (C.drop (F + k)).take ((recL g q).length - k)) g p) (hk : k ≤ (recL g q).length) :
    (recL g q).take k ++ (C.drop (F + k)).take ((recL g q).length - k) = recL g q := by
  obtain ⟨hp, hpre⟩ := h
  have hlp := recL_length g p
  have hlq := recL_length g q
  have htk : ((recL g q).take k).length = k := by rw [List.length_take]; omega
  have hle := hpre.length_le
  rw [List.length_append, htk, List.length_take] at hle
  have hpq : p.length ≤ q.length := by omega
  by_cases h1 : k ≤ 41 + 2 * p.length
  · refine absurd ?_ (hC (F + (41 + 2 * p.length)))
    have hb : ∀ j (hj : j < 9), ∃ h' : F + (41 + 2 * p.length) + j < C.length, C[F + (41 + 2 * p.length) + j] = (stN 9 g)[j]'(by rw [stN_length]; exact hj) := by
      intro j hj
      obtain ⟨h', e⟩ := prefix_get hpre (41 + 2 * p.length + j) (by omega)
      rw [List.getElem_append_right (by omega), List.getElem_take, List.getElem_drop, recL_high g p j hj] at e
      rw [List.length_append, htk, List.length_take, List.length_drop] at h'
      have hi : F + k + (41 + 2 * p.length + j - ((recL g q).take k).length) = F + (41 + 2 * p.length) + j := by omega
      simp only [hi] at e
      exact ⟨by omega, e⟩
    obtain ⟨h8, _⟩ := hb 8 (by decide)
    refine List.ext_getElem (by rw [stN_length, List.length_take, List.length_drop]; omega) fun j hj1 hj2 => ?_
    rw [stN_length] at hj2
    obtain ⟨h', e⟩ := hb j hj2
    rw [List.getElem_take, List.getElem_drop]
    exact e
  · have hge : q.length ≤ p.length := by
      refine Nat.le_of_not_lt fun hlt => ?_
      obtain ⟨h', e⟩ := prefix_get hpre (41 + 2 * p.length + 0) (by omega)
      rw [List.getElem_append_left (by omega), List.getElem_take, recL_high g p 0 (by decide)] at e
      have a := recL_low g q (41 + 2 * p.length + 0) (by omega) (by omega)
      have b := stN_high g 0 (by decide)
      rw [e] at a
      omega
    have heq : p.length = q.length := by omega
    have hbody : bodyL g p = bodyL g q := by
      rw [← recL_body, ← recL_body, ← heq]
      refine List.ext_getElem (by rw [List.length_take, List.length_take, List.length_drop, List.length_drop]; omega) fun j hj1 hj2 => ?_
      rw [List.length_take, List.length_drop] at hj1
      rw [List.getElem_take, List.getElem_take, List.getElem_drop, List.getElem_drop]
      obtain ⟨h', e⟩ := prefix_get hpre (17 + j) (by omega)
      rw [← e, List.getElem_append_left (by omega), List.getElem_take]
    have hpq2 : p = q := bodyL_inj hp hq hbody
    subst hpq2
    exact (hpre.eq_of_length (by rw [List.length_append, htk, List.length_take]; omega)).symm

/-- What is read of records with such bytes behind them. -/
theorem walkL_torn (g : Nat) (ps : List (List UInt8)) (q C : List UInt8) (F k : Nat) (hp : ∀ p ∈ ps, p.length ≤ 30000) (hq : q.length ≤ 30000) (hC : noStamp g C) (hk : k ≤ (recL g q).length)
    (D : List UInt8) (hD : D = (recL g q).take k ++ (C.drop (F + k)).take ((recL g q).length - k)) : walkL (encL g ps ++ D) g = ps ++ (if D = recL g q then [q] else []) := by
  rw [walkL_enc g ps D hp]
  congr 1
  by_cases h : D = recL g q
  · rw [if_pos h, h]
    have := walkL_rec g q [] hq
    rwa [List.append_nil, walkL_nil] at this
  · rw [if_neg h]
    refine walkL_none (decL_none.2 fun p hr => h ?_)
    rw [hD] at hr ⊢
    exact torn_only g q C p F k hq hC hr hk
end Go.Proofs.YtcbapogicjhkjaaDoor
