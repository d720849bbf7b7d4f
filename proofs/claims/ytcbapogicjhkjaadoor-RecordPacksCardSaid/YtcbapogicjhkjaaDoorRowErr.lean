/- From a law's walk to the law's row, where the row lists strconv's two errors too. -/
import Derived.Test.YtcbapogicjhkjaaDoorRow
import Derived.Test.YtcbapogicjhkjaaDoorSize
import Derived.Stop.LaidErr
import Derived.Deep.DeepWitnessRowRef
namespace Go.Proofs.YtcbapogicjhkjaaDoor
open Go.ChangeShapes Go.WideShapes Go.ChangeAt Go.RowKit Go.ChangeMaps
set_option maxRecDepth 100000
set_option maxHeartbeats 1000000

theorem starErr : "*" ++ "errors.errorString" = "*errors.errorString" := by decide
theorem rowErr (u : TypeId) (h : Tryd.prog.typeName? 3 u = some "*errors.errorString") : u = 123 :=
  typeName_ptr_named (nm := "errors.errorString") (by rw [starErr]; kernel_rfl) (by kernel_rfl) (by decide) u (by rw [starErr]; exact h)

theorem errs_of {x : List UInt8} {y : List UInt8} {w : World} (h : laidMet Tryd.prog [("strconv.ErrRange", .iface "*errors.errorString" (.ptr (.agg [.lit (.string x)]))), ("strconv.ErrSyntax", .iface "*errors.errorString" (.ptr (.agg [.lit (.string y)])))] w) : Errs w := by
  obtain ⟨a0, t0, hv0, _⟩ := laid_sentinel (g := 3) h (by kernel_rfl) (by kernel_rfl) Tryd.underlying61 rowErr Tryd.underlying123 Tryd.underlying125 rfl rfl Tryd.underlying9 (by kernel_rfl) (by kernel_rfl)
  obtain ⟨a1, t1, hv1, _⟩ := laid_sentinel (g := 2) h.tail (by kernel_rfl) (by kernel_rfl) Tryd.underlying61 rowErr Tryd.underlying123 Tryd.underlying125 rfl rfl Tryd.underlying9 (by kernel_rfl) (by kernel_rfl)
  exact ⟨⟨_, _, hv1⟩, _, _, hv0⟩

noncomputable def laidWorldE (os : Os) : World :=
  let N := (World.settled Tryd.prog os).heap.size
  let w0 := World.holding Tryd.prog os ⟨#[.cells #[.string ⟨#[118, 97, 108, 117, 101, 32, 111, 117, 116, 32, 111, 102, 32, 114, 97, 110, 103, 101]⟩] 125, .cells #[.string ⟨#[105, 110, 118, 97, 108, 105, 100, 32, 115, 121, 110, 116, 97, 120]⟩] 125], #[], []⟩
  let l := laidWorld os
  let put (h : Array Obj) (g : Nat) : Array Obj := match l.heap[g]? with
    | some (.cells cs _ _) => h.modify g (setRow cs)
    | _ => h
  { w0 with heap := ((put (put (put w0.heap 1) 4) 5).modify 3 (setRow #[.iface 123 (.pointer (some ⟨N, 0, none⟩))])).modify 2 (setRow #[.iface 123 (.pointer (some ⟨N + 1, 0, none⟩))]) }
end Go.Proofs.YtcbapogicjhkjaaDoor
