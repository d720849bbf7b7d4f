/- Encode of package record returns the bytes of a record. -/
import Derived.Test.YtcbapogicjhkjaaDoorEnc
namespace Go.Proofs.YtcbapogicjhkjaaDoor
open Go.RowKit Go.Lib

theorem grownBy_of_below {w w' : World} (hb : Below w.heap.size w w') (row : Option Nat) : w.grownBy w' row := ⟨hb.os, hb.tape, hb.output, hb.size, fun k hk _ => hb.block k hk⟩
theorem builderAt_old {T e : TypeId} {B b : Nat} {p : Value} {xs : List Value} {w w' : World} (h : Lib.BuilderAt T e B b p xs w) (hb : Below w.heap.size w w') : Lib.BuilderAt T e B b p xs w' := by
  have hlt := h.lt
  obtain ⟨hB, v, hv, ho, hne⟩ := h
  exact ⟨hB, v, (hb.block b hlt).trans hv, ho.kept (grownBy_of_below hb none) (by cases hq : v.ownBlock <;> simp), hne⟩
theorem isBuilder_old {T e : TypeId} {B b : Nat} {xs : List Value} {w w' : World} (h : Lib.IsBuilder T e B b xs w) (hb : Below w.heap.size w w') : Lib.IsBuilder T e B b xs w' :=
  h.elim (fun h => .inl (builderAt_old h hb)) (fun h => .inr (builderAt_old h hb))

theorem builderAtF_old {T e : TypeId} {B b : Nat} {p : Value} {xs : List Value} {w w' : World} (h : Lib.BuilderAtF T e B b p xs w) (hb : Below w.heap.size w w') : Lib.BuilderAtF T e B b p xs w' := by
  have hlt := h.lt
  obtain ⟨hB, v, hv, ho, hne⟩ := h
  refine ⟨hB, v, (hb.block b hlt).trans hv, ⟨ho.1, ?_⟩, hne⟩
  rcases ho.2 with h0 | ⟨g, cap, cur, fz, h1, h2, h3, h4⟩
  · exact .inl h0
  · exact .inr ⟨g, cap, cur, fz, h1, h2, (hb.block g (Array.getElem?_eq_some_iff.1 h3).1).trans h3, h4⟩
theorem isBuilderF_old {T e : TypeId} {B b : Nat} {xs : List Value} {w w' : World} (h : Lib.IsBuilderF T e B b xs w) (hb : Below w.heap.size w w') : Lib.IsBuilderF T e B b xs w' :=
  h.elim (fun h => .inl (builderAtF_old h hb)) (fun h => .inr (builderAtF_old h hb))

/-- The parts of a record that its sum covers. -/
def bodyL (g : Nat) (p : List UInt8) : List UInt8 := hexN 16 g ++ hexN 8 p.length ++ p.flatMap (fun b => hexN 2 b.toNat)
/-- The bytes of a record. -/
def recL (g : Nat) (p : List UInt8) : List UInt8 := (82 :: hexN 16 (fnv (bodyL g p))) ++ bodyL g p ++ stN 9 g

theorem flat_length (p : List UInt8) : (p.flatMap (fun b => hexN 2 b.toNat)).length = 2 * p.length := by
  induction p with
  | nil => rfl
  | cons b p ih => simp only [List.flatMap_cons, List.length_append, hexN_length, ih, List.length_cons]; omega
theorem bodyL_length (g : Nat) (p : List UInt8) : (bodyL g p).length = 24 + 2 * p.length := by simp only [bodyL, List.length_append, hexN_length, flat_length]
theorem recL_length (g : Nat) (p : List UInt8) : (recL g p).length = 50 + 2 * p.length := by simp only [recL, List.length_append, List.length_cons, hexN_length, bodyL_length, stN_length]; omega

/-- What has been written to the body behind k rounds. -/
def bodyAcc (g k : Nat) (p : List UInt8) : List UInt8 := hexN 16 g ++ hexN 8 p.length ++ (p.take k).flatMap (fun b => hexN 2 b.toNat)
theorem bodyAcc_length (g k : Nat) (p : List UInt8) (h : k ≤ p.length) : (bodyAcc g k p).length = 24 + 2 * k := by
  simp only [bodyAcc, List.length_append, hexN_length, flat_length, List.length_take]; omega
theorem bodyAcc_zero (g : Nat) (p : List UInt8) : bodyAcc g 0 p = hexN 16 g ++ hexN 8 p.length := by simp [bodyAcc]
theorem bodyAcc_step (g k : Nat) (p : List UInt8) (h : k < p.length) : bodyAcc g (k + 1) p = bodyAcc g k p ++ hexN 2 p[k].toNat := by
  simp only [bodyAcc]
  rw [take_snoc' p k h, List.flatMap_append]
  simp [List.append_assoc]
theorem bodyAcc_all (g k : Nat) (p : List UInt8) (h : p.length ≤ k) : bodyAcc g k p = bodyL g p := by simp [bodyAcc, bodyL, List.take_of_length_le h]

theorem strCells_str (l : List UInt8) : Lib.strCells (str l) = Lib.byteCells l := by
  rw [Lib.strCells_eq]; exact congrArg Lib.byteCells (bs_str l)

set_option maxHeartbeats 1000000 in
set_option maxRecDepth 100000 in
theorem encode_walk (g : Nat) (p : ByteArray) (w : World) (h1 : 1 ≤ g) (h2 : g ≤ 1099511627776) (hp : p.size ≤ 30000) :
    Calls Tryd.prog 17 #[.int .i64 g, .string p] w fun e w' => e = .returned (.tuple #[.string (str (recL g (bs p))), .int .i64 0]) ∧ Below w.heap.size w w' := by
  have ha : decide (1 ≤ (g : Int) ∧ (g : Int) ≤ 1099511627776) = true := by simp; omega
  have z1 : (str (hexN 16 g)).size = 16 := by rw [str_size, hexN_length]
  have z2 : (str (hexN 8 p.size)).size = 8 := by rw [str_size, hexN_length]
  go_enter Tryd.func17, Tryd.ntmps17
  go_wp2_with (go_at_call 29; refine (allowed_walk _ _).mono ?_; rintro e w' ⟨rfl, rfl⟩; rw [ha])
  refine (digits_int_walk g 16 _ (by omega) (by decide)).mono ?_
  rintro e w1 ⟨rfl, hb1⟩
  go_wp2_with fail
  refine (digits_int_walk p.size 8 _ (by omega) (by decide)).mono ?_
  rintro e w2 ⟨rfl, hb2⟩
  go_wp2_with fail
  rw [str_append]
  have hI := isBuilder_old (isBuilder_old (Lib.fresh_isBuilder 59 5 w) hb1) hb2
  have hb12 : Below w.heap.size w w2 := below_seq (below_seq ((Below.refl _ _).alloc (Nat.le_refl _) _) hb1) hb2
  have hsz := hb12.size
  clear hb1 hb2
  refine (writeString w.heap.size w.heap.size [] _ _ hI (by rw [str_size]; simp [hexN_length]) hsz).mono ?_
  rintro e w3 ⟨rfl, hB3, hb3⟩
  rw [List.nil_append, strCells_str, ← bs_length p, ← bodyAcc_zero] at hB3
  have hB := Lib.hid hB3
  have hb := Lib.hid (hb12.trans hb3)
  clear hI hb12 hsz hB3 hb3 z1 z2
  go_wp2_with fail
  go_loopw [25] (fun v25 wr => ∃ k : Nat, k ≤ p.size ∧ v25 = .int .i64 k ∧ Hid (Lib.IsBuilder 59 5 w.heap.size w.heap.size (Lib.byteCells (bodyAcc g k (bs p))) wr) ∧ Hid (Below w.heap.size w wr)) (fun i _ => p.size - (RowKit.intOf i).toNat)
  case atStart => exact ⟨0, Nat.zero_le _, rfl, Lib.hid (.inr hB.out), hb⟩
  case round =>
    clear hB hb
    obtain ⟨k, hk, rfl, hB, hb⟩ := hrel
    by_cases hlt : k < p.size
    · go_wp2_with fail
      refine (digits_byte_walk p[k].toNat 2 _ (UInt8.toNat_lt _) (by decide)).mono ?_
      rintro e w4 ⟨rfl, hb4⟩
      go_wp2_with fail
      have hb5 := below_seq hb.out hb4
      refine (writeString w.heap.size w.heap.size _ _ _ (isBuilder_old hB.out hb4) (by rw [str_size, Lib.byteCells_length, bodyAcc_length _ _ _ (by rw [bs_length]; omega), hexN_length]; omega) hb5.size).mono ?_
      rintro e w5 ⟨rfl, hB5, hb6⟩
      rw [strCells_str, ← Lib.byteCells_append, ← bs_get p k hlt, ← bodyAcc_step g k (bs p) (by rw [bs_length]; exact hlt)] at hB5
      have hB6 := Lib.hid hB5
      have hb7 := Lib.hid (hb5.trans hb6)
      clear hB hb hb5 hb4 hB5 hb6
      go_wp2_with fail
      exact ⟨⟨k + 1, by omega, by simp, .inr hB6.out, hb7⟩, by simp [RowKit.intOf]; omega⟩
    · have hk2 : p.size ≤ k := by omega
      have hB1 := hB.out
      rw [bodyAcc_all g k (bs p) (by rw [bs_length]; exact hk2)] at hB1
      have hB2 := Lib.hid (Lib.IsBuilderF.of hB1)
      clear hB hB1
      have hp2 : (bodyL g (bs p)).length ≤ 100000 := by rw [bodyL_length, bs_length]; omega
      go_wp2_with fail
      refine (Tryd.Builder_String_any_f w.heap.size w.heap.size (bodyL g (bs p)) _ hB2.out hb.out.size).mono ?_
      rintro e w4 ⟨rfl, hB4, hb4⟩
      have hb5 := hb.out.trans hb4
      clear hB2 hb hb4
      rw [show (⟨(bodyL g (bs p)).toArray⟩ : ByteArray) = str (bodyL g (bs p)) from rfl]
      go_wp2_with fail
      refine (sum_walk _ _ (by rw [str_size]; omega)).mono ?_
      rintro e w' ⟨rfl, rfl⟩
      rw [bs_str]
      go_wp2_with fail
      refine (digits_u64_walk (fnv (bodyL g (bs p))) 16 _ (fnv_lt _) (by decide)).mono ?_
      rintro e w5 ⟨rfl, hb6⟩
      have hB5 := isBuilderF_old hB4 hb6
      have hb7 := below_seq hb5 hb6
      clear hB4 hb5 hb6
      have z3 : (str (hexN 16 (fnv (bodyL g (bs p))))).size = 16 := by rw [str_size, hexN_length]
      go_wp2_with fail
      refine (Tryd.Builder_String_any_f w.heap.size w.heap.size (bodyL g (bs p)) _ hB5 hb7.size).mono ?_
      rintro e w6 ⟨rfl, hB6, hb8⟩
      have hb9 := hb7.trans hb8
      clear hB6 hB5 hb7 hb8
      rw [show (⟨(bodyL g (bs p)).toArray⟩ : ByteArray) = str (bodyL g (bs p)) from rfl]
      have z4 : (str (bodyL g (bs p))).size ≤ 100000 := by rw [str_size]; exact hp2
      go_wp2_with fail
      refine (stamp_walk g _ (by omega)).mono ?_
      rintro e w7 ⟨rfl, hb10⟩
      have hbf := below_seq hb9 hb10
      have z5 : (str (stN 9 g)).size = 9 := by rw [str_size, stN_length]
      go_wp2_with fail
      go_ret2
      refine ⟨?_, hbf⟩
      show Ending.returned (.tuple #[.string ((⟨#[82]⟩ : ByteArray) ++ str (hexN 16 (fnv (bodyL g (bs p)))) ++ str (bodyL g (bs p)) ++ str (stN 9 g)), .int .i64 0]) = _
      rw [show (⟨#[82]⟩ : ByteArray) = str [82] from rfl, str_append, str_append, str_append]
      rfl

set_option maxHeartbeats 400000 in
/-- Encode where there is no record. -/
theorem encode_range (g : Int) (p : ByteArray) (w : World) (h : ¬ (1 ≤ g ∧ g ≤ 1099511627776)) :
    Calls Tryd.prog 17 #[.int .i64 g, .string p] w fun e w' => e = .returned (.tuple #[.string ⟨#[]⟩, .int .i64 2]) ∧ w = w' := by
  have ha : decide (1 ≤ g ∧ g ≤ 1099511627776) = false := by simp only [decide_eq_false_iff_not]; exact h
  clear h
  go_enter Tryd.func17, Tryd.ntmps17
  go_wp2_with (go_at_call 29; refine (allowed_walk _ _).mono ?_; rintro e w' ⟨rfl, rfl⟩; rw [ha])
  go_ret2
  exact ⟨rfl, rfl⟩
set_option maxHeartbeats 400000 in
theorem encode_large (g : Int) (p : ByteArray) (w : World) (h : 1 ≤ g ∧ g ≤ 1099511627776) (hp : 30000 < p.size) :
    Calls Tryd.prog 17 #[.int .i64 g, .string p] w fun e w' => e = .returned (.tuple #[.string ⟨#[]⟩, .int .i64 8]) ∧ w = w' := by
  have ha : decide (1 ≤ g ∧ g ≤ 1099511627776) = true := by simp only [decide_eq_true_eq]; exact h
  clear h
  go_enter Tryd.func17, Tryd.ntmps17
  go_wp2_with (go_at_call 29; refine (allowed_walk _ _).mono ?_; rintro e w' ⟨rfl, rfl⟩; rw [ha])
  go_ret2
  exact ⟨rfl, rfl⟩

end Go.Proofs.YtcbapogicjhkjaaDoor
