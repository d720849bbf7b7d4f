/- One byte of some records changed: what is read of them. -/
import Derived.Test.YtcbapogicjhkjaaDoorPlain
namespace Go.Proofs.YtcbapogicjhkjaaDoor
open Go.RowKit Go.Lib

set_option maxRecDepth 100000
theorem mul_inj {x y : Nat} (hx : x < 18446744073709551616) (hy : y < 18446744073709551616) (h : (x * 1099511628211) % 18446744073709551616 = (y * 1099511628211) % 18446744073709551616) : x = y := by
  have e : ∀ z : Nat, z < 18446744073709551616 → ((z * 1099511628211) % 18446744073709551616 * 14886173955864302971) % 18446744073709551616 = z := by
    intro z hz
    rw [Nat.mul_mod, Nat.mod_mod, ← Nat.mul_mod, Nat.mul_assoc, show 1099511628211 * 14886173955864302971 = 1 + 18446744073709551616 * 887285111055 from rfl, Nat.mul_add, Nat.mul_one, ← Nat.mul_assoc, Nat.mul_comm z 18446744073709551616, Nat.mul_assoc, Nat.add_mul_mod_self_left, Nat.mod_eq_of_lt hz]
  rw [← e x hx, ← e y hy, h]
theorem xor_byte_lt (h : Nat) (b : UInt8) (hh : h < 18446744073709551616) : h ^^^ b.toNat < 18446744073709551616 := Nat.xor_lt_two_pow (n := 64) hh (by have := b.toNat_lt; omega)
theorem xor_right {a b c : Nat} (h : a ^^^ c = b ^^^ c) : a = b := by
  have := congrArg (· ^^^ c) h
  simpa [Nat.xor_assoc] using this
theorem xor_left {a b c : Nat} (h : c ^^^ a = c ^^^ b) : a = b := xor_right (c := c) (by rw [Nat.xor_comm a, Nat.xor_comm b]; exact h)
theorem fnvStep_inj {h h' : Nat} (b : UInt8) (hh : h < 18446744073709551616) (hh' : h' < 18446744073709551616) (e : fnvStep h b = fnvStep h' b) : h = h' :=
  xor_right (mul_inj (xor_byte_lt h b hh) (xor_byte_lt h' b hh') e)
theorem fnvStep_byte {h : Nat} {b c : UInt8} (hh : h < 18446744073709551616) (e : fnvStep h b = fnvStep h c) : b = c :=
  UInt8.toNat_inj.1 (xor_left (mul_inj (xor_byte_lt h b hh) (xor_byte_lt h c hh) e))
theorem fold_lt (l : List UInt8) (h : Nat) (hh : h < 18446744073709551616) : l.foldl fnvStep h < 18446744073709551616 := by
  induction l generalizing h with
  | nil => exact hh
  | cons b l ih => exact ih _ (fnvStep_lt h b)
theorem fold_inj (l : List UInt8) : ∀ {h h' : Nat}, h < 18446744073709551616 → h' < 18446744073709551616 → l.foldl fnvStep h = l.foldl fnvStep h' → h = h' := by
  induction l with
  | nil => intro h h' _ _ e; exact e
  | cons b l ih => intro h h' hh hh' e; exact fnvStep_inj b hh hh' (ih (fnvStep_lt h b) (fnvStep_lt h' b) e)
theorem fnv_set (l : List UInt8) (j : Nat) (x : UInt8) (hj : j < l.length) (hx : x ≠ l[j]) : fnv (l.set j x) ≠ fnv l := by
  intro e
  have e1 : l.set j x = l.take j ++ x :: l.drop (j + 1) := List.set_eq_take_append_cons_drop.trans (if_pos hj)
  have e2 : l = l.take j ++ l[j] :: l.drop (j + 1) := by rw [← List.drop_eq_getElem_cons hj, List.take_append_drop]
  rw [e1] at e
  conv at e => rhs; rw [e2]
  unfold fnv at e
  rw [List.foldl_append, List.foldl_append, List.foldl_cons, List.foldl_cons] at e
  have hs := fold_lt (l.take j) 14695981039346656037 (by decide)
  exact hx (fnvStep_byte hs (fold_inj _ (fnvStep_lt _ _) (fnvStep_lt _ _) e))

theorem recL_body (g : Nat) (p : List UInt8) : ((recL g p).drop 17).take (24 + 2 * p.length) = bodyL g p := by
  unfold recL
  rw [List.append_assoc, drop_app _ _ 17 (by simp [hexN_length]), take_app _ _ _ (bodyL_length g p)]
theorem recL_sum (g : Nat) (p : List UInt8) : ((recL g p).drop 1).take 16 = hexN 16 (fnv (bodyL g p)) := by
  unfold recL
  rw [List.cons_append, List.cons_append, List.drop_succ_cons, List.drop_zero, List.append_assoc, take_app _ _ _ (hexN_length _ _)]
theorem bodyL_inj {g : Nat} {p q : List UInt8} (hp : p.length ≤ 30000) (hq : q.length ≤ 30000) (h : bodyL g p = bodyL g q) : p = q := by
  have e : recL g p = recL g q := by unfold recL; rw [h]
  exact IsRec.unique (d := recL g p) ⟨hp, List.prefix_refl _⟩ ⟨hq, by rw [← e]; exact List.prefix_refl _⟩
theorem hexN_inj {k m n : Nat} (hm : m < 16 ^ k) (hn : n < 16 ^ k) (h : hexN k m = hexN k n) : m = n := by
  have h1 := numI_hexN_lt k m hm
  rw [h, numI_hexN_lt k n hn] at h1
  simp only [Option.some.injEq] at h1
  omega

theorem fnv_pow (l : List UInt8) : fnv l < 16 ^ 16 := Nat.lt_of_lt_of_eq (fnv_lt l) (by decide +kernel)

/-- What stands ahead of the stamp. -/
def frontL (g : Nat) (p : List UInt8) : List UInt8 := 82 :: hexN 16 (fnv (bodyL g p)) ++ bodyL g p
theorem frontL_length (g : Nat) (p : List UInt8) : (frontL g p).length = 41 + 2 * p.length := by simp only [frontL, List.length_append, List.length_cons, hexN_length, bodyL_length]; omega
theorem recL_front (g : Nat) (p : List UInt8) : recL g p = frontL g p ++ stN 9 g := rfl
theorem frontL_low (g : Nat) (p : List UInt8) (b : UInt8) (h : b ∈ frontL g p) : b.toNat < 128 := by
  simp only [frontL, List.cons_append, List.mem_cons, List.mem_append, bodyL, List.mem_flatMap] at h
  rcases h with h | h | (h | h) | ⟨c, _, h⟩
  · rw [h]; decide
  all_goals exact hexN_lt _ _ _ h

/-- The bytes ahead of the stamp are of ASCII. -/
theorem recL_low (g : Nat) (p : List UInt8) (j : Nat) (hj : j < 41 + 2 * p.length) (h : j < (recL g p).length) : ((recL g p)[j]).toNat < 128 := by
  have hl := frontL_length g p
  have e : (recL g p)[j]? = (frontL g p)[j]? := by rw [recL_front, List.getElem?_append_left (by omega)]
  rw [List.getElem?_eq_getElem h, List.getElem?_eq_getElem (by omega)] at e
  rw [Option.some.inj e]
  exact frontL_low g p _ (List.getElem_mem _)
/-- The stamp's bytes are not. -/
theorem recL_high (g : Nat) (p : List UInt8) (j : Nat) (hj : j < 9) (h : 41 + 2 * p.length + j < (recL g p).length) : (recL g p)[41 + 2 * p.length + j] = (stN 9 g)[j]'(by rw [stN_length]; exact hj) := by
  have hl := frontL_length g p
  have e : (recL g p)[41 + 2 * p.length + j]? = (stN 9 g)[j]? := by
    rw [recL_front, List.getElem?_append_right (by omega), hl, show 41 + 2 * p.length + j - (41 + 2 * p.length) = j by omega]
  rw [List.getElem?_eq_getElem h, List.getElem?_eq_getElem (by rw [stN_length]; exact hj)] at e
  exact Option.some.inj e
theorem stN_high (g j : Nat) (hj : j < 9) : 128 ≤ ((stN 9 g)[j]'(by rw [stN_length]; exact hj)).toNat := by
  rw [stN_get g 9 j hj]
  have := Nat.mod_lt (g / 128 ^ (9 - 1 - j)) (show 0 < 128 by decide)
  simp only [Nat.toUInt8_eq, UInt8.toNat_ofNat']
  omega

theorem prefix_get {a d : List UInt8} (h : a <+: d) (j : Nat) (hj : j < a.length) : ∃ h' : j < d.length, d[j] = a[j] := by
  obtain ⟨t, rfl⟩ := h
  exact ⟨by rw [List.length_append]; omega, List.getElem_append_left hj⟩

/-- A record of which one byte is changed is no record, whatever follows. -/
theorem not_damaged (g : Nat) (q r : List UInt8) (hq : q.length ≤ 30000) (i : Nat) (hi : i < (recL g q).length) (x : UInt8) (hx : x ≠ (recL g q)[i]) (p : List UInt8) : ¬ IsRec ((recL g q).set i x ++ r) g p := by
  intro h
  obtain ⟨hp, hpre⟩ := h
  have hlp := recL_length g p
  have hlq := recL_length g q
  have hD : ∀ (j : Nat) (hj : j < (recL g q).length) (hj2 : j < (recL g p).length), j ≠ i → (recL g q)[j]'hj = (recL g p)[j]'hj2 := by
    intro j hj hj2 hne
    obtain ⟨h', e⟩ := prefix_get hpre j hj2
    rw [← e, List.getElem_append_left (by rw [List.length_set]; exact hj), List.getElem_set_ne (by omega)]
  by_cases hpq : p.length = q.length
  · have he : recL g p = (recL g q).set i x := by
      have h1 := List.prefix_append ((recL g q).set i x) r
      exact (List.prefix_of_prefix_length_le hpre h1 (by rw [List.length_set]; omega)).eq_of_length (by rw [List.length_set]; omega)
    have hbody : bodyL g p = (((recL g q).set i x).drop 17).take (24 + 2 * q.length) := by rw [← he, ← hpq, recL_body]
    have hsum : hexN 16 (fnv (bodyL g p)) = (((recL g q).set i x).drop 1).take 16 := by rw [← he, recL_sum]
    have hsame : ¬ (p = q) := by
      rintro rfl
      have : (recL g p)[i] = x := by
        have h3 : (recL g p)[i]? = ((recL g p).set i x)[i]? := congrArg (·[i]?) he
        rw [List.getElem?_set_self hi, List.getElem?_eq_getElem hi] at h3
        exact Option.some.inj h3
      exact hx this.symm
    by_cases hin : 17 ≤ i ∧ i < 41 + 2 * q.length
    · rw [List.drop_set, if_neg (by omega), List.take_set, recL_body] at hbody
      rw [List.drop_set] at hsum
      rw [if_neg (by omega), List.take_set_of_le (by omega), recL_sum] at hsum
      have hf := hexN_inj (k := 16) (fnv_pow _) (fnv_pow _) hsum
      rw [hbody] at hf
      refine fnv_set (bodyL g q) (i - 17) x (by rw [bodyL_length]; omega) ?_ hf
      have e : (recL g q)[i]? = (bodyL g q)[i - 17]? := by
        rw [← recL_body, List.getElem?_take, if_pos (by omega), List.getElem?_drop, show 17 + (i - 17) = i by omega]
      rw [List.getElem?_eq_getElem hi, List.getElem?_eq_getElem (by rw [bodyL_length]; omega)] at e
      rw [← Option.some.inj e]
      exact hx
    · refine hsame (bodyL_inj (g := g) hp hq ?_)
      rw [hbody]
      by_cases h17 : i < 17
      · rw [List.drop_set, if_pos h17, recL_body]
      · rw [List.drop_set, if_neg h17, List.take_set_of_le (by omega), recL_body]
  · by_cases hlt : p.length < q.length
    · -- the stamp of p lies in the body of q
      by_cases hJ : i = 41 + 2 * p.length
      · have e := hD (41 + 2 * p.length + 1) (by omega) (by omega) (by omega)
        have h1 := recL_low g q (41 + 2 * p.length + 1) (by omega) (by omega)
        rw [e, recL_high g p 1 (by omega)] at h1
        have := stN_high g 1 (by omega)
        omega
      · have e := hD (41 + 2 * p.length + 0) (by omega) (by omega) (by omega)
        have h1 := recL_low g q (41 + 2 * p.length + 0) (by omega) (by omega)
        rw [e, recL_high g p 0 (by omega)] at h1
        have := stN_high g 0 (by omega)
        omega
    · by_cases hJ : i = 41 + 2 * q.length
      · have e := hD (41 + 2 * q.length + 1) (by omega) (by omega) (by omega)
        have h1 := recL_low g p (41 + 2 * q.length + 1) (by omega) (by omega)
        rw [← e, recL_high g q 1 (by omega)] at h1
        have := stN_high g 1 (by omega)
        omega
      · have e := hD (41 + 2 * q.length + 0) (by omega) (by omega) (by omega)
        have h1 := recL_low g p (41 + 2 * q.length + 0) (by omega) (by omega)
        rw [← e, recL_high g q 0 (by omega)] at h1
        have := stN_high g 0 (by omega)
        omega

/-- Exactly the records before the changed one are read. -/
theorem walkL_damage (g : Nat) (ps : List (List UInt8)) (hp : ∀ p ∈ ps, p.length ≤ 30000) (k i : Nat) (hk : k < ps.length) (h1 : offL (ps.take k) ≤ i) (h2 : i < offL (ps.take (k + 1))) (x : UInt8) (hi : i < (encL g ps).length) (hx : x ≠ (encL g ps)[i]) :
    walkL ((encL g ps).set i x) g = ps.take k := by
  have h : encL g ps = encL g (ps.take k) ++ (recL g ps[k] ++ encL g (ps.drop (k + 1))) := by
    rw [← encL_cons, ← List.drop_eq_getElem_cons hk, ← encL_append, List.take_append_drop]
  rw [offL_take_succ ps k hk] at h2
  have h3 := recL_length g ps[k]
  have h4 := encL_length g (ps.take k)
  have hi' : i - offL (ps.take k) < (recL g ps[k]).length := by omega
  have hx' : x ≠ (recL g ps[k])[i - offL (ps.take k)] := by
    have e : (encL g ps)[i]? = (recL g ps[k])[i - offL (ps.take k)]? := by
      rw [h, List.getElem?_append_right (by omega), List.getElem?_append_left (by omega), h4]
    rw [List.getElem?_eq_getElem hi, List.getElem?_eq_getElem hi'] at e
    rw [← Option.some.inj e]
    exact hx
  rw [h, List.set_append_right _ _ (by omega), List.set_append_left _ _ (by omega), h4, walkL_enc g _ _ fun p hp' => hp p (List.mem_of_mem_take hp')]
  rw [walkL_none, List.append_nil]
  exact decL_none.2 fun p => not_damaged g ps[k] _ (hp _ (List.getElem_mem hk)) _ hi' x hx' p
end Go.Proofs.YtcbapogicjhkjaaDoor
