/- Names: FormatExpression at a name, and book's isName. -/
import Derived.Test.YtnjiomggbafkmaaGreatDoorNameB
import Derived.Test.YtnjiomggbafkmaaGreatDoorMem2
namespace Go.Proofs.YtnjiomggbafkmaaGreatDoor
open Go.RowKit Go.Lib

/-- The expression that is a name. -/
abbrev exprV (s : List UInt8) : Value := .agg #[.int .i64 2, .string (str s), .int .i64 0, .int .i64 0, .int .i64 0, .slice none 0 0]

set_option maxHeartbeats 1000000 in
set_option maxRecDepth 100000 in
theorem depth_walk (s : List UInt8) (w : World) : Calls Tryz.prog 118 #[exprV s] w fun e w' => e = .returned (.int .i64 1) ∧ Below w.heap.size w w' := by
  go_enter Tryz.func118, Tryz.ntmps118
  go_wp2_with fail
  refine wp_loop_rounds 1 ?_
  rw [rounds_succ]
  go_wp2_with fail
  go_ret
  exact ⟨rfl, (Below.refl _ _).alloc (Nat.le_refl _) _⟩

set_option maxHeartbeats 1000000 in
set_option maxRecDepth 100000 in
theorem right_walk (s : List UInt8) (w : World) (hs : s.length ≤ 9223372036854775806) : Calls Tryz.prog 119 #[exprV s] w fun e w' => e = .returned (.bool (nameB s)) ∧ Below w.heap.size w w' := by
  have heq : ∀ W : World, (binOp .eql 111 (.agg #[.int .i64 0, .int .i64 0]) (.agg #[.int .i64 0, .int .i64 0])).run Tryz.prog W = .ok (.bool true) W := fun W => by kernel_rfl
  cases hn : nameB s with
  | true =>
    have C := name_walk s (w.alloc (.cells #[.int .i64 2, .string (str s), .int .i64 0, .int .i64 0, .int .i64 0, .slice none 0 0] 114)) hs
    rw [hn] at C
    replace C := Lib.hid C
    clear hn
    go_enter Tryz.func119, Tryz.ntmps119
    go_wp2_with fail
    refine C.out.mono ?_
    rintro e w1 ⟨rfl, hb⟩
    obtain ⟨hB, hb⟩ := boxed hb
    have hc := hB.cell
    go_wp2_with fail
    go_ret
    exact ⟨rfl, hb⟩
  | false =>
    have C := name_walk s (w.alloc (.cells #[.int .i64 2, .string (str s), .int .i64 0, .int .i64 0, .int .i64 0, .slice none 0 0] 114)) hs
    rw [hn] at C
    replace C := Lib.hid C
    clear hn
    go_enter Tryz.func119, Tryz.ntmps119
    go_wp2_with fail
    refine C.out.mono ?_
    rintro e w1 ⟨rfl, hb⟩
    have hb := below_seq ((Below.refl _ _).alloc (Nat.le_refl _) _) hb
    go_wp2_with fail
    go_ret
    exact ⟨rfl, hb⟩

set_option maxHeartbeats 1000000 in
set_option maxRecDepth 100000 in
theorem format_walk (s : List UInt8) (w : World) : Calls Tryz.prog 120 #[exprV s] w fun e w' => e = .returned (.string (str s)) ∧ Below w.heap.size w w' := by
  go_enter Tryz.func120, Tryz.ntmps120
  go_wp2_with fail
  go_ret
  exact ⟨rfl, (Below.refl _ _).alloc (Nat.le_refl _) _⟩

theorem nameB_len {s : List UInt8} (h : nameB s = true) : 0 < s.length ∧ s.length ≤ 16 := by
  cases s with
  | nil => cases h
  | cons c r =>
    simp only [nameB, Bool.and_eq_true, decide_eq_true_eq] at h
    exact ⟨by simp, h.1.1.2⟩

/-- The text of a name, or nothing. -/
def nameText (s : List UInt8) : List UInt8 := if nameB s = true then s else []

set_option maxHeartbeats 2000000 in
set_option maxRecDepth 100000 in
theorem formatExpression_walk (s : List UInt8) (w : World) (hs : s.length ≤ 9223372036854775806) : Calls Tryz.prog 100 #[exprV s] w fun e w' => e = .returned (.string (str (nameText s))) ∧ Below w.heap.size w w' := by
  have hz : (str s).size = s.length := str_size s
  cases hn : nameB s with
  | true =>
    have h16 := (nameB_len hn).2
    have H := Lib.hid (show nameText s = s from if_pos hn)
    have C2 := fun W => right_walk s W hs
    simp only [hn] at C2
    replace C2 := fun W => Lib.hid (C2 W)
    clear hn
    go_enter Tryz.func100, Tryz.ntmps100
    go_wp2_with fail
    refine (depth_walk s _).mono ?_
    rintro e w1 ⟨rfl, hb1⟩
    obtain ⟨hB1, hb1⟩ := boxed hb1
    have hc1 := hB1.cell
    go_wp2_with fail
    refine (C2 _).out.mono ?_
    rintro e w2 ⟨rfl, hb2⟩
    have hc2 := (hB1.below hb2).cell
    replace hb2 := below_seq hb1 hb2
    clear hc1 hb1
    go_wp2_with fail
    refine (format_walk s _).mono ?_
    rintro e w3 ⟨rfl, hb3⟩
    go_wp2_with fail
    go_ret
    exact ⟨by rw [H.out]; rfl, below_seq hb2 hb3⟩
  | false =>
    have H := Lib.hid (show nameText s = [] from if_neg (by simp [hn]))
    have C2 := fun W => right_walk s W hs
    simp only [hn] at C2
    replace C2 := fun W => Lib.hid (C2 W)
    clear hn
    go_enter Tryz.func100, Tryz.ntmps100
    go_wp2_with fail
    refine (depth_walk s _).mono ?_
    rintro e w1 ⟨rfl, hb1⟩
    obtain ⟨hB1, hb1⟩ := boxed hb1
    have hc1 := hB1.cell
    go_wp2_with fail
    refine (C2 _).out.mono ?_
    rintro e w2 ⟨rfl, hb2⟩
    go_wp2_with fail
    go_ret
    exact ⟨by rw [H.out]; rfl, below_seq hb1 hb2⟩

set_option maxHeartbeats 1000000 in
set_option maxRecDepth 100000 in
/-- isName: whether a string is a NAME. -/
theorem isName_walk (s : List UInt8) (w : World) (hs : s.length ≤ 9223372036854775806) : Calls Tryz.prog 81 #[.string (str s)] w fun e w' => e = .returned (.bool (nameB s)) ∧ Below w.heap.size w w' := by
  have H : (!(str (nameText s)).toList.isEmpty) = nameB s := by
    rw [toList_bs, bs_str, nameText]
    cases hn : nameB s with
    | true =>
      rw [if_pos rfl]
      have := (nameB_len hn).1
      cases s with
      | nil => cases this
      | cons c r => rfl
    | false => rfl
  generalize hb : nameB s = b at *
  have HB := Lib.hid hb
  clear hb
  go_enter Tryz.func81, Tryz.ntmps81
  go_wp2_with fail
  refine (formatExpression_walk s _ hs).mono ?_
  rintro e w1 ⟨rfl, hb1⟩
  go_wp2_with fail
  go_ret
  exact ⟨rfl, hb1⟩
end Go.Proofs.YtnjiomggbafkmaaGreatDoor
