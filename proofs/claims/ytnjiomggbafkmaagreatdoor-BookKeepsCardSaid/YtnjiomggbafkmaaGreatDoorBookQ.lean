/- Go's '==' and '!=' at the gradebook's structs. -/
import Derived.Test.YtnjiomggbafkmaaGreatDoorBookF
import Derived.Laws.StructEq
import Derived.KernelRfl
namespace Go.Proofs.YtnjiomggbafkmaaGreatDoor
open Go.RowKit Go.Lib

theorem str_eqv (a b : List UInt8) : ((str a).toList = (str b).toList) ↔ a = b := by
  rw [toList_bs, toList_bs, bs_str, bs_str]

set_option maxHeartbeats 2000000 in
set_option maxRecDepth 100000 in
theorem in_key9 (x y : BKey) (w : World) : (Op.equalIn 9999 24 (keyV x) (keyV y)).run Tryz.prog w = .ok (decide (x = y)) w := by
  have u3 := Tryz.underlying3
  have u9 := Tryz.underlying9
  have u4 := Tryz.underlying4
  have hS : Tryz.prog.underlying 24 = some (.struct (Tryz.prog.fieldsOf 24)) := by kernel_rfl
  have hp : Tryz.prog.stoodInHeld 24 = false := by kernel_rfl
  rw [show (9999 : Nat) = 9998 + 1 from rfl, run_equalIn_agg w 9998 24 _ _ hS hp]
  simp only [Program.fieldsOf, Tryz.underlying24]
  go_simp
  obtain ⟨x0, x1, x2⟩ := x
  obtain ⟨y0, y1, y2⟩ := y
  simp only [BKey.mk.injEq, str_eqv]
  try go_simp
  try simp only [str_eqv]
  rcases (Decidable.em (x0 = y0)).symm with h0 | h0
  · simp [h0]
  rw [if_pos h0]
  simp only [h0, decide_true, Bool.true_and]
  rcases (Decidable.em (x1 = y1)).symm with h1 | h1
  · simp [h1]
  rw [if_pos h1]
  simp only [h1, decide_true, Bool.true_and]
  rcases (Decidable.em (x2 = y2)).symm with h2 | h2
  · simp [h2]
  rw [if_pos h2]
  simp only [h2, decide_true]
set_option maxHeartbeats 2000000 in
set_option maxRecDepth 100000 in
theorem in_key (x y : BKey) (w : World) : (Op.equalIn 10000 24 (keyV x) (keyV y)).run Tryz.prog w = .ok (decide (x = y)) w := by
  have u3 := Tryz.underlying3
  have u9 := Tryz.underlying9
  have u4 := Tryz.underlying4
  have hS : Tryz.prog.underlying 24 = some (.struct (Tryz.prog.fieldsOf 24)) := by kernel_rfl
  have hp : Tryz.prog.stoodInHeld 24 = false := by kernel_rfl
  rw [show (10000 : Nat) = 9999 + 1 from rfl, run_equalIn_agg w 9999 24 _ _ hS hp]
  simp only [Program.fieldsOf, Tryz.underlying24]
  go_simp
  obtain ⟨x0, x1, x2⟩ := x
  obtain ⟨y0, y1, y2⟩ := y
  simp only [BKey.mk.injEq, str_eqv]
  try go_simp
  try simp only [str_eqv]
  rcases (Decidable.em (x0 = y0)).symm with h0 | h0
  · simp [h0]
  rw [if_pos h0]
  simp only [h0, decide_true, Bool.true_and]
  rcases (Decidable.em (x1 = y1)).symm with h1 | h1
  · simp [h1]
  rw [if_pos h1]
  simp only [h1, decide_true, Bool.true_and]
  rcases (Decidable.em (x2 = y2)).symm with h2 | h2
  · simp [h2]
  rw [if_pos h2]
  simp only [h2, decide_true]
theorem eq_key (x y : BKey) (w : World) : (binOp .eql 24 (keyV x) (keyV y)).run Tryz.prog w = .ok (.bool (decide (x = y))) w := by
  rw [run_eql_struct, in_key]; rfl
theorem neq_key (x y : BKey) (w : World) : (binOp .neq 24 (keyV x) (keyV y)).run Tryz.prog w = .ok (.bool (!decide (x = y))) w := by
  rw [run_neq_struct, in_key]; rfl
theorem guard_key : Tryz.prog.eqGuardType Tryz.prog.depth 24 = false := by kernel_rfl

set_option maxHeartbeats 2000000 in
set_option maxRecDepth 100000 in
theorem in_ev (x y : BEv) (w : World) : (Op.equalIn 10000 26 (evV x) (evV y)).run Tryz.prog w = .ok (decide (x = y)) w := by
  have u3 := Tryz.underlying3
  have u9 := Tryz.underlying9
  have u4 := Tryz.underlying4
  have hS : Tryz.prog.underlying 26 = some (.struct (Tryz.prog.fieldsOf 26)) := by kernel_rfl
  have hp : Tryz.prog.stoodInHeld 26 = false := by kernel_rfl
  have K := fun (a b : List UInt8) (c : Int) (a' b' : List UInt8) (c' : Int) => in_key9 ⟨a, b, c⟩ ⟨a', b', c'⟩ w
  rw [show (10000 : Nat) = 9999 + 1 from rfl, run_equalIn_agg w 9999 26 _ _ hS hp]
  simp only [Program.fieldsOf, Tryz.underlying26]
  go_simp
  obtain ⟨x0, ⟨x10, x11, x12⟩, x2, x3, x4, x5, x6⟩ := x
  obtain ⟨y0, ⟨y10, y11, y12⟩, y2, y3, y4, y5, y6⟩ := y
  simp only [BEv.mk.injEq, BKey.mk.injEq, str_eqv]
  try go_simp
  try simp only [str_eqv]
  rcases (Decidable.em (x0 = y0)).symm with h0 | h0
  · simp [h0]
  rw [if_pos h0]
  simp only [h0, decide_true, Bool.true_and]
  rcases (Decidable.em (x10 = y10)).symm with h10 | h10
  · simp [h10]
  rw [if_pos h10]
  simp only [h10, decide_true, Bool.true_and]
  rcases (Decidable.em (x11 = y11)).symm with h11 | h11
  · simp [h11]
  rw [if_pos h11]
  simp only [h11, decide_true, Bool.true_and]
  rcases (Decidable.em (x12 = y12)).symm with h12 | h12
  · simp [h12]
  rw [if_pos h12]
  simp only [h12, decide_true, Bool.true_and]
  rcases (Decidable.em (x2 = y2)).symm with h2 | h2
  · simp [h2]
  rw [if_pos h2]
  simp only [h2, decide_true, Bool.true_and]
  rcases (Decidable.em (x3 = y3)).symm with h3 | h3
  · simp [h3]
  rw [if_pos h3]
  simp only [h3, decide_true, Bool.true_and]
  rcases (Decidable.em (x4 = y4)).symm with h4 | h4
  · simp [h4]
  rw [if_pos h4]
  simp only [h4, decide_true, Bool.true_and]
  rcases (Decidable.em (x5 = y5)).symm with h5 | h5
  · simp [h5]
  rw [if_pos h5]
  simp only [h5, decide_true, Bool.true_and]
  rcases (Decidable.em (x6 = y6)).symm with h6 | h6
  · simp [h6]
  rw [if_pos h6]
  simp only [h6, decide_true]
theorem eq_ev (x y : BEv) (w : World) : (binOp .eql 26 (evV x) (evV y)).run Tryz.prog w = .ok (.bool (decide (x = y))) w := by
  rw [run_eql_struct, in_ev]; rfl
theorem neq_ev (x y : BEv) (w : World) : (binOp .neq 26 (evV x) (evV y)).run Tryz.prog w = .ok (.bool (!decide (x = y))) w := by
  rw [run_neq_struct, in_ev]; rfl
theorem guard_ev : Tryz.prog.eqGuardType Tryz.prog.depth 26 = false := by kernel_rfl

set_option maxHeartbeats 2000000 in
set_option maxRecDepth 100000 in
theorem in_gr (x y : BGr) (w : World) : (Op.equalIn 10000 42 (grV x) (grV y)).run Tryz.prog w = .ok (decide (x = y)) w := by
  have u3 := Tryz.underlying3
  have u9 := Tryz.underlying9
  have u4 := Tryz.underlying4
  have hS : Tryz.prog.underlying 42 = some (.struct (Tryz.prog.fieldsOf 42)) := by kernel_rfl
  have hp : Tryz.prog.stoodInHeld 42 = false := by kernel_rfl
  rw [show (10000 : Nat) = 9999 + 1 from rfl, run_equalIn_agg w 9999 42 _ _ hS hp]
  simp only [Program.fieldsOf, Tryz.underlying42]
  go_simp
  obtain ⟨x0, x1, x2, x3⟩ := x
  obtain ⟨y0, y1, y2, y3⟩ := y
  simp only [BGr.mk.injEq, str_eqv]
  try go_simp
  try simp only [str_eqv]
  rcases (Decidable.em (x0 = y0)).symm with h0 | h0
  · simp [h0]
  rw [if_pos h0]
  simp only [h0, decide_true, Bool.true_and]
  rcases (Decidable.em (x1 = y1)).symm with h1 | h1
  · simp [h1]
  rw [if_pos h1]
  simp only [h1, decide_true, Bool.true_and]
  rcases (Decidable.em (x2 = y2)).symm with h2 | h2
  · simp [h2]
  rw [if_pos h2]
  simp only [h2, decide_true, Bool.true_and]
  rcases (Decidable.em (x3 = y3)).symm with h3 | h3
  · simp [h3]
  rw [if_pos h3]
  simp only [h3, decide_true]
theorem eq_gr (x y : BGr) (w : World) : (binOp .eql 42 (grV x) (grV y)).run Tryz.prog w = .ok (.bool (decide (x = y))) w := by
  rw [run_eql_struct, in_gr]; rfl
theorem neq_gr (x y : BGr) (w : World) : (binOp .neq 42 (grV x) (grV y)).run Tryz.prog w = .ok (.bool (!decide (x = y))) w := by
  rw [run_neq_struct, in_gr]; rfl
theorem guard_gr : Tryz.prog.eqGuardType Tryz.prog.depth 42 = false := by kernel_rfl

set_option maxHeartbeats 2000000 in
set_option maxRecDepth 100000 in
theorem in_ap (x y : BAp) (w : World) : (Op.equalIn 10000 44 (apV x) (apV y)).run Tryz.prog w = .ok (decide (x = y)) w := by
  have u3 := Tryz.underlying3
  have u9 := Tryz.underlying9
  have u4 := Tryz.underlying4
  have hS : Tryz.prog.underlying 44 = some (.struct (Tryz.prog.fieldsOf 44)) := by kernel_rfl
  have hp : Tryz.prog.stoodInHeld 44 = false := by kernel_rfl
  rw [show (10000 : Nat) = 9999 + 1 from rfl, run_equalIn_agg w 9999 44 _ _ hS hp]
  simp only [Program.fieldsOf, Tryz.underlying44]
  go_simp
  obtain ⟨x0, x1, x2, x3, x4, x5⟩ := x
  obtain ⟨y0, y1, y2, y3, y4, y5⟩ := y
  simp only [BAp.mk.injEq, str_eqv]
  try go_simp
  try simp only [str_eqv]
  rcases (Decidable.em (x0 = y0)).symm with h0 | h0
  · simp [h0]
  rw [if_pos h0]
  simp only [h0, decide_true, Bool.true_and]
  rcases (Decidable.em (x1 = y1)).symm with h1 | h1
  · simp [h1]
  rw [if_pos h1]
  simp only [h1, decide_true, Bool.true_and]
  rcases (Decidable.em (x2 = y2)).symm with h2 | h2
  · simp [h2]
  rw [if_pos h2]
  simp only [h2, decide_true, Bool.true_and]
  rcases (Decidable.em (x3 = y3)).symm with h3 | h3
  · simp [h3]
  rw [if_pos h3]
  simp only [h3, decide_true, Bool.true_and]
  rcases (Decidable.em (x4 = y4)).symm with h4 | h4
  · simp [h4]
  rw [if_pos h4]
  simp only [h4, decide_true, Bool.true_and]
  rcases (Decidable.em (x5 = y5)).symm with h5 | h5
  · simp [h5]
  rw [if_pos h5]
  simp only [h5, decide_true]
theorem eq_ap (x y : BAp) (w : World) : (binOp .eql 44 (apV x) (apV y)).run Tryz.prog w = .ok (.bool (decide (x = y))) w := by
  rw [run_eql_struct, in_ap]; rfl
theorem neq_ap (x y : BAp) (w : World) : (binOp .neq 44 (apV x) (apV y)).run Tryz.prog w = .ok (.bool (!decide (x = y))) w := by
  rw [run_neq_struct, in_ap]; rfl
theorem guard_ap : Tryz.prog.eqGuardType Tryz.prog.depth 44 = false := by kernel_rfl

end Go.Proofs.YtnjiomggbafkmaaGreatDoor
