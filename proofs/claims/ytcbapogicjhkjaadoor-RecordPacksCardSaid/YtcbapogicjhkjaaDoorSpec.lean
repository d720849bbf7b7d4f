/- The plain law of records: what there is at the front of some bytes. -/
import Derived.Test.YtcbapogicjhkjaaDoorEncode
import Derived.Test.YtcbapogicjhkjaaDoorNum
namespace Go.Proofs.YtcbapogicjhkjaaDoor
open Go.RowKit Go.Lib

theorem drop_app {α : Type} (a b : List α) (n : Nat) (h : a.length = n) : (a ++ b).drop n = b := by subst h; simp
theorem take_app {α : Type} (a b : List α) (n : Nat) (h : a.length = n) : (a ++ b).take n = a := by subst h; simp

theorem hexVal_dig : ∀ d : Fin 16, hexVal ((hexDig d.val).toNat : Int) = some (d.val : Int) := by decide +kernel
theorem hexVal_inv : ∀ c : Fin 256, ∀ d : Fin 16, hexVal (c.val : Int) = some (d.val : Int) → c.val = (hexDig d.val).toNat := by decide +kernel
theorem hexDig_lt : ∀ d : Fin 16, (hexDig d.val).toNat < 128 := by decide +kernel

theorem hexN_lt (k n : Nat) : ∀ b ∈ hexN k n, b.toNat < 128 := by
  induction k with
  | zero => intro b h; cases h
  | succ k ih =>
    intro b h
    rcases List.mem_cons.1 h with h | h
    · rw [h]; exact hexDig_lt ⟨n / 16 ^ k % 16, Nat.mod_lt _ (by decide)⟩
    · exact ih b h

theorem foldl_numStep (l : List UInt8) : ∀ (v : Int), l.foldl numStep (some v) = (numI l).map fun x => v * ((16 ^ l.length : Nat) : Int) + x := by
  induction l with
  | nil => intro v; simp [numI]
  | cons c l ih =>
    intro v
    simp only [numI, List.foldl_cons]
    cases hc : hexVal (c.toNat : Int) with
    | none =>
      have hz : ∀ m : List UInt8, m.foldl numStep none = none := fun m => by
        induction m with
        | nil => rfl
        | cons a m ih => exact ih
      simp only [numStep, Option.bind_some, hc, Option.map_none, hz]
    | some d =>
      simp only [numStep, Option.bind_some, hc, Option.map_some]
      rw [ih, ih]
      cases numI l with
      | none => rfl
      | some x =>
        simp only [Option.map_some, Option.some.injEq, List.length_cons, Nat.pow_succ]
        rw [Int.natCast_mul]
        generalize ((16 ^ l.length : Nat) : Int) = A
        have e0 : (16 * 0 + d : Int) = d := by omega
        have e1 : 16 * v * A = v * (A * ((16 : Nat) : Int)) := by
          rw [Int.mul_comm 16 v, Int.mul_assoc, Int.mul_comm 16 A]; rfl
        rw [e0, Int.add_mul]
        omega

theorem numI_cons (c : UInt8) (l : List UInt8) : numI (c :: l) = (hexVal (c.toNat : Int)).bind fun d => (numI l).map fun x => d * ((16 ^ l.length : Nat) : Int) + x := by
  have h : numI (c :: l) = l.foldl numStep ((hexVal (c.toNat : Int)).map fun d => 16 * 0 + d) := by simp [numI, numStep]
  rw [h]
  cases hexVal (c.toNat : Int) with
  | none =>
    have hz : ∀ m : List UInt8, m.foldl numStep none = none := fun m => by
      induction m with
      | nil => rfl
      | cons a m ih => exact ih
    exact hz l
  | some d =>
    have e : (16 * 0 + d : Int) = d := by omega
    simp only [Option.map_some, Option.bind_some, e]
    exact foldl_numStep l d

theorem numI_hexN (k : Nat) : ∀ n, numI (hexN k n) = some ((n % 16 ^ k : Nat) : Int) := by
  induction k with
  | zero => intro n; simp [hexN, numI, Nat.mod_one]
  | succ k ih =>
    intro n
    have h := hexVal_dig ⟨n / 16 ^ k % 16, Nat.mod_lt _ (by decide)⟩
    simp only at h
    rw [hexN, numI_cons, h, ih, hexN_length]
    simp only [Option.bind_some, Option.map_some, Option.some.injEq]
    have e : n % 16 ^ (k + 1) = (n / 16 ^ k % 16) * 16 ^ k + n % 16 ^ k := by
      rw [Nat.pow_succ, Nat.mod_mul, Nat.mul_comm (16 ^ k), Nat.add_comm]
    rw [e, Int.natCast_add, Int.natCast_mul]

theorem numI_hexN_lt (k n : Nat) (h : n < 16 ^ k) : numI (hexN k n) = some (n : Int) := by rw [numI_hexN, Nat.mod_eq_of_lt h]


/-- There is a record of generation g with the payload p at the front of the bytes d. -/
def IsRec (d : List UInt8) (g : Nat) (p : List UInt8) : Prop := p.length ≤ 30000 ∧ recL g p <+: d

theorem recL_parts (g : Nat) (p rest : List UInt8) : recL g p ++ rest = (82 :: hexN 16 (fnv (bodyL g p))) ++ (hexN 16 g ++ (hexN 8 p.length ++ (p.flatMap (fun b => hexN 2 b.toNat) ++ (stN 9 g ++ rest)))) := by
  simp [recL, bodyL, List.append_assoc]

section
variable {d : List UInt8} {g : Nat} {p : List UInt8}
theorem IsRec.len (h : IsRec d g p) : 50 + 2 * p.length ≤ d.length := by
  have := h.2.length_le
  rwa [recL_length] at this
theorem IsRec.gen (h : IsRec d g p) : (d.drop 17).take 16 = hexN 16 g := by
  obtain ⟨rest, hr⟩ := h.2
  rw [← hr, recL_parts, drop_app _ _ 17 (by simp [hexN_length]), take_app _ _ 16 (by simp [hexN_length])]
theorem IsRec.size (h : IsRec d g p) : (d.drop 33).take 8 = hexN 8 p.length := by
  obtain ⟨rest, hr⟩ := h.2
  have e : d.drop 33 = (d.drop 17).drop 16 := by rw [List.drop_drop]
  rw [e, ← hr, recL_parts, drop_app _ _ 17 (by simp [hexN_length]), drop_app _ _ 16 (by simp [hexN_length]), take_app _ _ 8 (by simp [hexN_length])]
theorem flat_pair (q : List UInt8) (r : List UInt8) : ∀ (i : Nat) (h : i < q.length), ((q.flatMap (fun b => hexN 2 b.toNat) ++ r).drop (2 * i)).take 2 = hexN 2 q[i].toNat := by
  induction q with
  | nil => intro i h; cases h
  | cons b q ih =>
    intro i h
    rw [List.flatMap_cons, List.append_assoc]
    cases i with
    | zero => rw [Nat.mul_zero, List.drop_zero, take_app _ _ 2 (hexN_length _ _)]; rfl
    | succ i =>
      have e : 2 * (i + 1) = 2 + 2 * i := by omega
      rw [e, ← List.drop_drop, drop_app _ _ 2 (hexN_length _ _), ih i (by simpa using h)]
      rfl
theorem IsRec.pair (h : IsRec d g p) (i : Nat) (hi : i < p.length) : (d.drop (41 + 2 * i)).take 2 = hexN 2 p[i].toNat := by
  obtain ⟨rest, hr⟩ := h.2
  have e : d.drop (41 + 2 * i) = (((d.drop 17).drop 16).drop 8).drop (2 * i) := by simp only [List.drop_drop]
  rw [e, ← hr, recL_parts, drop_app _ _ 17 (by simp [hexN_length]), drop_app _ _ 16 (by simp [hexN_length]), drop_app _ _ 8 (by simp [hexN_length]), flat_pair]
theorem IsRec.sizeNum (h : IsRec d g p) : numI ((d.drop 33).take 8) = some (p.length : Int) := by
  rw [h.size, numI_hexN_lt _ _ (by have := h.1; omega)]
theorem IsRec.pairNum (h : IsRec d g p) (i : Nat) (hi : i < p.length) : numI ((d.drop (41 + 2 * i)).take 2) = some (p[i].toNat : Int) := by
  rw [h.pair i hi, numI_hexN_lt _ _ (by have := UInt8.toNat_lt p[i]; omega)]
theorem IsRec.genNum (h : IsRec d g p) (hg : g < 18446744073709551616) : numI ((d.drop 17).take 16) = some (g : Int) := by
  rw [h.gen, numI_hexN_lt _ _ (by omega)]
theorem IsRec.unique {p' : List UInt8} (h : IsRec d g p) (h' : IsRec d g p') : p = p' := by
  have h1 := h.sizeNum
  rw [h'.sizeNum] at h1
  have hl : p'.length = p.length := by simp only [Option.some.injEq] at h1; omega
  refine List.ext_getElem hl.symm fun i h2 h3 => ?_
  have h4 := h.pairNum i h2
  rw [h'.pairNum i h3] at h4
  simp only [Option.some.injEq] at h4
  exact UInt8.toNat_inj.1 (by omega)
theorem IsRec.uniqueGen {g' : Nat} {p' : List UInt8} (h : IsRec d g p) (h' : IsRec d g' p') (hg : g < 18446744073709551616) (hg' : g' < 18446744073709551616) : g = g' := by
  have h1 := h.genNum hg
  rw [h'.genNum hg'] at h1
  simp only [Option.some.injEq] at h1
  omega
end

open Classical in
/-- The payload of the record of a generation at the front of some bytes, if there is one. -/
noncomputable def decL (d : List UInt8) (g : Nat) : Option (List UInt8) := if h : ∃ p, IsRec d g p then some h.choose else none
theorem decL_some {d : List UInt8} {g : Nat} {p : List UInt8} : decL d g = some p ↔ IsRec d g p := by
  unfold decL
  constructor
  · intro h
    split at h
    · rename_i hx
      simp only [Option.some.injEq] at h
      rw [← h]; exact hx.choose_spec
    · cases h
  · intro h
    rw [dif_pos ⟨p, h⟩]
    exact congrArg some (IsRec.unique (Exists.choose_spec (⟨p, h⟩ : ∃ p, IsRec d g p)) h)
theorem decL_none {d : List UInt8} {g : Nat} : decL d g = none ↔ ∀ p, ¬ IsRec d g p := by
  constructor
  · intro h p hp
    rw [decL_some.2 hp] at h
    cases h
  · intro h
    unfold decL
    rw [dif_neg (fun ⟨p, hp⟩ => h p hp)]

end Go.Proofs.YtcbapogicjhkjaaDoor
