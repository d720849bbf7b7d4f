/- Decimal numbers and fields one behind the other, in plain words. -/
import Derived.Test.YtcbapogicjhkjaaDoorPack
import Derived.Lib.AtoiAll
namespace Go.Proofs.YtcbapogicjhkjaaDoor
open Go.RowKit Go.Lib

/-- The number that decimal digits are. -/
def decV (l : List UInt8) : Nat := l.foldl (fun v c => v * 10 + (c.toNat - 48)) 0
theorem decV_snoc (l : List UInt8) (c : UInt8) : decV (l ++ [c]) = decV l * 10 + (c.toNat - 48) := by simp [decV]

theorem decDigits_step (n : Nat) (h : ¬ n < 10) : decDigits n = decDigits (n / 10) ++ [UInt8.ofNat (48 + n % 10)] := by
  rw [decDigits, dif_neg h]
theorem digit_toNat (k : Nat) (h : k < 10) : (UInt8.ofNat (48 + k)).toNat = 48 + k := by
  rw [UInt8.toNat_ofNat', Nat.mod_eq_of_lt (by omega)]
theorem decDigits_digit (n : Nat) : ∀ b ∈ decDigits n, 48 ≤ b.toNat ∧ b.toNat ≤ 57 := by
  induction n using Nat.strongRecOn with
  | ind n ih =>
    intro b hb
    by_cases h : n < 10
    · rw [decDigits_one h, List.mem_singleton] at hb
      subst hb
      rw [digit_toNat n h]; omega
    · rw [decDigits_step n h, List.mem_append, List.mem_singleton] at hb
      rcases hb with hb | hb
      · exact ih (n / 10) (by omega) b hb
      · subst hb
        rw [digit_toNat _ (by omega)]; omega
theorem decDigits_val (n : Nat) : decV (decDigits n) = n := by
  induction n using Nat.strongRecOn with
  | ind n ih =>
    by_cases h : n < 10
    · rw [decDigits_one h]
      simp only [decV, List.foldl_cons, List.foldl_nil]
      rw [digit_toNat n h]; omega
    · rw [decDigits_step n h, decV_snoc, ih (n / 10) (by omega), digit_toNat _ (by omega)]; omega
theorem decDigits_inj {m n : Nat} (h : decDigits m = decDigits n) : m = n := by rw [← decDigits_val m, ← decDigits_val n, h]
theorem decDigits_ne (n : Nat) : decDigits n ≠ [] := by
  by_cases h : n < 10
  · rw [decDigits_one h]; simp
  · rw [decDigits_step n h]; simp
theorem decDigits_head (n : Nat) (h : 0 < n) : ∀ c r, decDigits n = c :: r → c.toNat ≠ 48 := by
  induction n using Nat.strongRecOn with
  | ind n ih =>
    intro c r e
    by_cases h10 : n < 10
    · rw [decDigits_one h10, List.cons.injEq] at e
      rw [← e.1, digit_toNat n h10]; omega
    · rw [decDigits_step n h10] at e
      cases hd : decDigits (n / 10) with
      | nil => exact absurd hd (decDigits_ne _)
      | cons c' r' =>
        rw [hd, List.cons_append, List.cons.injEq] at e
        exact e.1 ▸ ih (n / 10) (by omega) (by omega) c' r' hd
/-- Digits without a zero at the front are a number's digits. -/
theorem digits_are (l : List UInt8) (h0 : l ≠ []) (hd : ∀ b ∈ l, 48 ≤ b.toNat ∧ b.toNat ≤ 57) (hz : ∀ c r, l = c :: r → r ≠ [] → c.toNat ≠ 48) : l = decDigits (decV l) := by
  suffices all : ∀ (n : Nat) (l : List UInt8), l.length = n → l ≠ [] → (∀ b ∈ l, 48 ≤ b.toNat ∧ b.toNat ≤ 57) → (∀ c r, l = c :: r → r ≠ [] → c.toNat ≠ 48) → l = decDigits (decV l) ∧ (1 < l.length → 0 < decV l) from (all _ l rfl h0 hd hz).1
  intro n
  induction n with
  | zero => intro l hl h0; exact absurd (List.eq_nil_of_length_eq_zero hl) h0
  | succ n ih =>
    intro l hl h0 hd hz
    obtain ⟨q, b, rfl⟩ : ∃ q b, l = q ++ [b] := ⟨l.dropLast, l.getLast h0, (List.dropLast_concat_getLast h0).symm⟩
    have hb := hd b (by simp)
    cases q with
    | nil =>
      have hv : decV ([] ++ [b]) = b.toNat - 48 := by simp [decV]
      rw [hv, decDigits_one (by omega)]
      refine ⟨?_, by simp⟩
      have e : UInt8.ofNat (48 + (b.toNat - 48)) = b := UInt8.toNat_inj.1 (by rw [digit_toNat _ (by omega)]; omega)
      rw [e]; rfl
    | cons c r =>
      obtain ⟨e1, e2⟩ := ih (c :: r) (by simpa using hl) (by simp) (fun x hx => hd x (by simp at hx ⊢; rcases hx with h | h <;> simp [h])) (fun c' r' e hr => by
        simp only [List.cons.injEq] at e
        exact hz c' (r' ++ [b]) (by rw [← e.1, ← e.2]; rfl) (by simp))
      have hpos : 0 < decV (c :: r) := by
        cases r with
        | nil =>
          have h48 := hz c [b] rfl (by simp)
          have hc := hd c (by simp)
          simp only [decV, List.foldl_cons, List.foldl_nil]
          omega
        | cons d r => exact e2 (by simp)
      have hv : decV ((c :: r) ++ [b]) = decV (c :: r) * 10 + (b.toNat - 48) := decV_snoc _ _
      refine ⟨?_, fun _ => by rw [hv]; omega⟩
      rw [hv, decDigits_step _ (by omega), show (decV (c :: r) * 10 + (b.toNat - 48)) / 10 = decV (c :: r) by omega, ← e1, show (decV (c :: r) * 10 + (b.toNat - 48)) % 10 = b.toNat - 48 by omega]
      congr 2
      exact (UInt8.toNat_inj.1 (by rw [digit_toNat _ (by omega)]; omega))

/-- Atoi reads a number's digits. -/
theorem parse_digits : ∀ (l : List UInt8) (acc : Nat), (∀ b ∈ l, 48 ≤ b.toNat ∧ b.toNat ≤ 57) → l.foldl (fun v c => v * 10 + (c.toNat - 48)) acc < 18446744073709551616 → parseUint10 acc l = .ok (l.foldl (fun v c => v * 10 + (c.toNat - 48)) acc)
  | [], acc, _, _ => rfl
  | c :: r, acc, hd, hb => by
    have hc := hd c (by simp)
    have mono : ∀ (r : List UInt8) (a : Nat), a ≤ r.foldl (fun v c => v * 10 + (c.toNat - 48)) a := by
      intro r
      induction r with
      | nil => intro a; exact Nat.le_refl _
      | cons d r ih => intro a; exact Nat.le_trans (by omega) (ih (a * 10 + (d.toNat - 48)))
    rw [List.foldl_cons] at hb ⊢
    have hm := mono r (acc * 10 + (c.toNat - 48))
    rw [parseUint10, if_pos hc, if_neg (by omega), if_neg (by omega)]
    exact parse_digits r _ (fun b h => hd b (by simp [h])) hb
theorem atoi_digits (n : Nat) (hn : n < 9223372036854775808) : atoiAll (decDigits n) = .ok (n : Int) := by
  have hd := decDigits_digit n
  have hv := decDigits_val n
  have hne := decDigits_ne n
  have hp := parse_digits (decDigits n) 0 hd (by have : (decDigits n).foldl (fun v c => v * 10 + (c.toNat - 48)) 0 = n := hv; omega)
  have e0 : (decDigits n).foldl (fun v c => v * 10 + (c.toNat - 48)) 0 = n := hv
  rw [e0] at hp
  cases hl : decDigits n with
  | nil => exact absurd hl hne
  | cons c r =>
    have hc := hd c (by rw [hl]; simp)
    rw [hl] at hp
    unfold atoiAll parseMag
    simp only [show ¬ (c.toNat = 43 ∨ c.toNat = 45) by omega, if_false, reduceCtorEq, hp]
    rw [if_neg (by omega), if_neg (by omega), if_neg (by omega)]

theorem colon_cut {a b x y : List UInt8} (ha : ∀ c ∈ a, c ≠ 58) (hb : ∀ c ∈ b, c ≠ 58) (h : a ++ 58 :: x = b ++ 58 :: y) : a = b ∧ x = y := by
  induction a generalizing b with
  | nil =>
    cases b with
    | nil => simpa using h
    | cons c b => simp only [List.nil_append, List.cons_append, List.cons.injEq] at h; exact absurd h.1.symm (hb c (by simp))
  | cons d a ih =>
    cases b with
    | nil => simp only [List.nil_append, List.cons_append, List.cons.injEq] at h; exact absurd h.1 (ha d (by simp))
    | cons c b =>
      simp only [List.cons_append, List.cons.injEq] at h
      obtain ⟨e1, e2⟩ := ih (fun c hc => ha c (by simp [hc])) (fun c hc => hb c (by simp [hc])) h.2
      exact ⟨by rw [h.1, e1], e2⟩
theorem decDigits_colon (n : Nat) : ∀ c ∈ decDigits n, c ≠ 58 := by
  intro c hc h
  have := decDigits_digit n c hc
  subst h
  simp at this
theorem packF_front {f f' r r' : List UInt8} (h : packF f ++ r = packF f' ++ r') : f = f' ∧ r = r' := by
  unfold packF at h
  rw [List.append_assoc, List.append_assoc, List.cons_append, List.cons_append] at h
  obtain ⟨e1, e2⟩ := colon_cut (decDigits_colon _) (decDigits_colon _) h
  exact List.append_inj e2 (decDigits_inj e1)
theorem packL_cons (f : List UInt8) (fs : List (List UInt8)) : packL (f :: fs) = packF f ++ packL fs := by simp [packL]
theorem packL_append (fs gs : List (List UInt8)) : packL (fs ++ gs) = packL fs ++ packL gs := by simp [packL]
/-- What stands behind some fields in the bytes of fields are the bytes of fields. -/
theorem packL_rest : ∀ (fs gs : List (List UInt8)) (r : List UInt8), packL fs ++ r = packL gs → ∃ hs, gs = fs ++ hs ∧ r = packL hs
  | [], gs, r, h => ⟨gs, rfl, h⟩
  | f :: fs, [], r, h => by
    rw [packL_cons] at h
    have := congrArg List.length h
    rw [List.append_assoc, List.length_append, packF_length] at this
    simp [packL] at this
  | f :: fs, g :: gs, r, h => by
    rw [packL_cons, packL_cons, List.append_assoc] at h
    obtain ⟨rfl, e⟩ := packF_front h
    obtain ⟨hs, rfl, e2⟩ := packL_rest fs gs r e
    exact ⟨hs, rfl, e2⟩
theorem packL_inj {fs gs : List (List UInt8)} (h : packL fs = packL gs) : fs = gs := by
  obtain ⟨hs, e1, e2⟩ := packL_rest fs gs [] (by rw [List.append_nil]; exact h)
  cases hs with
  | nil => rw [e1, List.append_nil]
  | cons x hs =>
    rw [packL_cons] at e2
    have := congrArg List.length e2
    rw [List.length_append, packF_length] at this
    simp at this
    omega
theorem packL_count (fs : List (List UInt8)) : 2 * fs.length ≤ (packL fs).length := by
  induction fs with
  | nil => simp
  | cons f fs ih =>
    have := List.length_pos_iff.2 (decDigits_ne f.length)
    rw [packL_cons, List.length_append, packF_length, List.length_cons]
    omega
end Go.Proofs.YtcbapogicjhkjaaDoor
