/- slices.Equal at events, grades and appeals. Printed by wip/gen/equal.py. -/
import Derived.Test.YtnjiomggbafkmaaGreatDoorBookU
namespace Go.Proofs.YtnjiomggbafkmaaGreatDoor
open Go.RowKit Go.Lib

theorem take_eq_snoc {α : Type} {xs ys : List α} {k : Nat} (hx : k < xs.length) (hy : k < ys.length) (h : xs.take k = ys.take k) (e : xs[k] = ys[k]) : xs.take (k + 1) = ys.take (k + 1) := by
  rw [List.take_succ_eq_append_getElem hx, List.take_succ_eq_append_getElem hy, h, e]
theorem ne_of_get {α : Type} {xs ys : List α} {k : Nat} (hx : k < xs.length) (hy : k < ys.length) (e : ¬ xs[k] = ys[k]) : ¬ xs = ys := by
  intro h; subst h; exact e rfl

set_option maxHeartbeats 2000000 in
set_option maxRecDepth 100000 in
theorem equalEv_some (b off c b' off' c' : Nat) (xs ys : List BEv) (w : World) (hb : b < w.heap.size) (hr : RowsAt evCs 9 w b off xs) (hb' : b' < w.heap.size) (hr' : RowsAt evCs 9 w b' off' ys) (hl : xs.length = ys.length) (hn : xs.length ≤ 1000000000000) :
    Calls Tryz.prog 62 #[.slice (some ⟨b, off, none⟩) xs.length c, .slice (some ⟨b', off', none⟩) xs.length c'] w fun z w' => z = .returned (.bool (decide (xs = ys))) ∧ Below w.heap.size w w' := by
  obtain ⟨β, hβ⟩ : ∃ β, β = decide (xs = ys) := ⟨_, rfl⟩
  rw [← hβ]
  replace hβ := Lib.hid hβ
  have HR := Lib.hid hr
  have HR' := Lib.hid hr'
  obtain ⟨n, hnn⟩ : ∃ n, n = xs.length := ⟨_, rfl⟩
  rw [← hnn] at hl hn ⊢
  clear hr hr'
  replace hnn := Lib.hid hnn
  replace hl := Lib.hid hl
  go_enter Tryz.func62, Tryz.ntmps62
  go_wp2_with fail
  go_loopw [13] (fun v13 wr => ∃ k : Nat, k ≤ n ∧ v13 = .int .i64 k ∧ Hid (xs.take k = ys.take k) ∧ Hid (Below w.heap.size w wr)) (fun i _ => n - (RowKit.intOf i).toNat)
  case atStart => exact ⟨0, Nat.zero_le _, rfl, Lib.hid (by simp), Lib.hid (Below.refl _ _)⟩
  case round =>
    obtain ⟨k, hk, rfl, hT, hB⟩ := hrel
    by_cases hlt : k < n
    · have hx : k < xs.length := by rw [← hnn.out]; exact hlt
      have hy : k < ys.length := by rw [← hl.out]; exact hlt
      obtain ⟨c0, c1, c2, c3, c4, c5, c6, c7, c8⟩ := ev_cells (HR.out.below hB.out hb) k hx
      obtain ⟨d0, d1, d2, d3, d4, d5, d6, d7, d8⟩ := ev_cells (HR'.out.below hB.out hb') k hy
      have k1 : (k : Int) < (n : Int) := by omega
      by_cases he : xs[k] = ys[k]
      · have heq : ∀ W : World, (binOp .neq 26 (evV xs[k]) (evV ys[k])).run Tryz.prog W = .ok (.bool false) W := fun W => by
          rw [neq_ev, decide_eq_true he]; rfl
        have hT2 := Lib.hid (take_eq_snoc hx hy hT.out he)
        clear he
        go_wp2_with fail
        go_quiet (fail)
        have hB' := Lib.hid (below_drewN' hB.out nq)
        clear c0 c1 c2 c3 c4 c5 c6 c7 c8 d0 d1 d2 d3 d4 d5 d6 d7 d8
        go_wp2_with fail
        exact ⟨⟨k + 1, by omega, by go_num, hT2, hB'⟩, by simp [RowKit.intOf]; omega⟩
      · have heq : ∀ W : World, (binOp .neq 26 (evV xs[k]) (evV ys[k])).run Tryz.prog W = .ok (.bool true) W := fun W => by
          rw [neq_ev, decide_eq_false he]; rfl
        have hif := Lib.hid (show β = false from hβ.out.trans (decide_eq_false (ne_of_get hx hy he)))
        clear he
        go_wp2_with fail
        go_quiet (fail)
        have hB' := Lib.hid (below_drewN' hB.out nq)
        clear c0 c1 c2 c3 c4 c5 c6 c7 c8 d0 d1 d2 d3 d4 d5 d6 d7 d8
        go_wp2_with fail
        go_ret
        exact ⟨by rw [hif.out]; rfl, hB'.out⟩
    · have hif := Lib.hid (show β = true from hβ.out.trans (decide_eq_true (by
        have := hT.out
        rw [List.take_of_length_le (by rw [← hnn.out]; omega), List.take_of_length_le (by rw [← hl.out]; omega)] at this
        exact this)))
      go_wp2_with fail
      go_ret
      exact ⟨by rw [hif.out]; rfl, hB.out⟩

set_option maxHeartbeats 1000000 in
set_option maxRecDepth 100000 in
theorem equalEv_none (a a' : Option Addr) (c c' : Nat) (w : World) :
    Calls Tryz.prog 62 #[.slice a 0 c, .slice a' 0 c'] w fun z w' => z = .returned (.bool true) ∧ Below w.heap.size w w' := by
  go_enter Tryz.func62, Tryz.ntmps62
  go_wp2_with fail
  refine wp_loop_rounds 1 ?_
  rw [rounds_succ]
  go_wp2_with fail
  go_ret
  exact ⟨rfl, Below.refl _ _⟩
set_option maxHeartbeats 1000000 in
set_option maxRecDepth 100000 in
theorem equalEv_len (a a' : Option Addr) (n m c c' : Nat) (h : n ≠ m) (w : World) :
    Calls Tryz.prog 62 #[.slice a n c, .slice a' m c'] w fun z w' => z = .returned (.bool false) ∧ Below w.heap.size w w' := by
  have hz : ((n : Int) != (m : Int)) = true := by rw [bne_iff_ne]; omega
  go_enter Tryz.func62, Tryz.ntmps62
  go_wp2_with fail
  go_ret
  exact ⟨rfl, Below.refl _ _⟩
theorem equalEv_walk (v v' : Value) (xs ys : List BEv) (w : World) (h : RowsIn evCs 9 w v xs) (h' : RowsIn evCs 9 w v' ys) (hn : xs.length ≤ 1000000000000) :
    Calls Tryz.prog 62 #[v, v'] w fun z w' => z = .returned (.bool (decide (xs = ys))) ∧ Below w.heap.size w w' := by
  by_cases hl : xs.length = ys.length
  · rcases h.split with ⟨rfl, a, c, rfl⟩ | ⟨b, off, c, rfl, hb, hr⟩
    · obtain rfl : ys = [] := List.length_eq_zero_iff.1 hl.symm
      obtain ⟨a', c', rfl, _, _⟩ := h'
      exact equalEv_none a a' c c' w
    · rcases h'.split with ⟨rfl, a', c', rfl⟩ | ⟨b', off', c', rfl, hb', hr'⟩
      · obtain rfl : xs = [] := List.length_eq_zero_iff.1 hl
        exact equalEv_none _ a' c c' w
      · rw [← hl]
        exact equalEv_some b off c b' off' c' xs ys w hb hr hb' hr' hl hn
  · obtain ⟨a, c, rfl, _, _⟩ := h
    obtain ⟨a', c', rfl, _, _⟩ := h'
    rw [decide_eq_false (fun e => hl (by rw [e]))]
    exact equalEv_len a a' _ _ c c' hl w

set_option maxHeartbeats 2000000 in
set_option maxRecDepth 100000 in
theorem equalGr_some (b off c b' off' c' : Nat) (xs ys : List BGr) (w : World) (hb : b < w.heap.size) (hr : RowsAt grCs 4 w b off xs) (hb' : b' < w.heap.size) (hr' : RowsAt grCs 4 w b' off' ys) (hl : xs.length = ys.length) (hn : xs.length ≤ 1000000000000) :
    Calls Tryz.prog 15 #[.slice (some ⟨b, off, none⟩) xs.length c, .slice (some ⟨b', off', none⟩) xs.length c'] w fun z w' => z = .returned (.bool (decide (xs = ys))) ∧ Below w.heap.size w w' := by
  obtain ⟨β, hβ⟩ : ∃ β, β = decide (xs = ys) := ⟨_, rfl⟩
  rw [← hβ]
  replace hβ := Lib.hid hβ
  have HR := Lib.hid hr
  have HR' := Lib.hid hr'
  obtain ⟨n, hnn⟩ : ∃ n, n = xs.length := ⟨_, rfl⟩
  rw [← hnn] at hl hn ⊢
  clear hr hr'
  replace hnn := Lib.hid hnn
  replace hl := Lib.hid hl
  go_enter Tryz.func15, Tryz.ntmps15
  go_wp2_with fail
  go_loopw [13] (fun v13 wr => ∃ k : Nat, k ≤ n ∧ v13 = .int .i64 k ∧ Hid (xs.take k = ys.take k) ∧ Hid (Below w.heap.size w wr)) (fun i _ => n - (RowKit.intOf i).toNat)
  case atStart => exact ⟨0, Nat.zero_le _, rfl, Lib.hid (by simp), Lib.hid (Below.refl _ _)⟩
  case round =>
    obtain ⟨k, hk, rfl, hT, hB⟩ := hrel
    by_cases hlt : k < n
    · have hx : k < xs.length := by rw [← hnn.out]; exact hlt
      have hy : k < ys.length := by rw [← hl.out]; exact hlt
      obtain ⟨c0, c1, c2, c3⟩ := gr_cells (HR.out.below hB.out hb) k hx
      obtain ⟨d0, d1, d2, d3⟩ := gr_cells (HR'.out.below hB.out hb') k hy
      have k1 : (k : Int) < (n : Int) := by omega
      by_cases he : xs[k] = ys[k]
      · have heq : ∀ W : World, (binOp .neq 42 (grV xs[k]) (grV ys[k])).run Tryz.prog W = .ok (.bool false) W := fun W => by
          rw [neq_gr, decide_eq_true he]; rfl
        have hT2 := Lib.hid (take_eq_snoc hx hy hT.out he)
        clear he
        go_wp2_with fail
        go_quiet (fail)
        have hB' := Lib.hid (below_drewN' hB.out nq)
        clear c0 c1 c2 c3 d0 d1 d2 d3
        go_wp2_with fail
        exact ⟨⟨k + 1, by omega, by go_num, hT2, hB'⟩, by simp [RowKit.intOf]; omega⟩
      · have heq : ∀ W : World, (binOp .neq 42 (grV xs[k]) (grV ys[k])).run Tryz.prog W = .ok (.bool true) W := fun W => by
          rw [neq_gr, decide_eq_false he]; rfl
        have hif := Lib.hid (show β = false from hβ.out.trans (decide_eq_false (ne_of_get hx hy he)))
        clear he
        go_wp2_with fail
        go_quiet (fail)
        have hB' := Lib.hid (below_drewN' hB.out nq)
        clear c0 c1 c2 c3 d0 d1 d2 d3
        go_wp2_with fail
        go_ret
        exact ⟨by rw [hif.out]; rfl, hB'.out⟩
    · have hif := Lib.hid (show β = true from hβ.out.trans (decide_eq_true (by
        have := hT.out
        rw [List.take_of_length_le (by rw [← hnn.out]; omega), List.take_of_length_le (by rw [← hl.out]; omega)] at this
        exact this)))
      go_wp2_with fail
      go_ret
      exact ⟨by rw [hif.out]; rfl, hB.out⟩

set_option maxHeartbeats 1000000 in
set_option maxRecDepth 100000 in
theorem equalGr_none (a a' : Option Addr) (c c' : Nat) (w : World) :
    Calls Tryz.prog 15 #[.slice a 0 c, .slice a' 0 c'] w fun z w' => z = .returned (.bool true) ∧ Below w.heap.size w w' := by
  go_enter Tryz.func15, Tryz.ntmps15
  go_wp2_with fail
  refine wp_loop_rounds 1 ?_
  rw [rounds_succ]
  go_wp2_with fail
  go_ret
  exact ⟨rfl, Below.refl _ _⟩
set_option maxHeartbeats 1000000 in
set_option maxRecDepth 100000 in
theorem equalGr_len (a a' : Option Addr) (n m c c' : Nat) (h : n ≠ m) (w : World) :
    Calls Tryz.prog 15 #[.slice a n c, .slice a' m c'] w fun z w' => z = .returned (.bool false) ∧ Below w.heap.size w w' := by
  have hz : ((n : Int) != (m : Int)) = true := by rw [bne_iff_ne]; omega
  go_enter Tryz.func15, Tryz.ntmps15
  go_wp2_with fail
  go_ret
  exact ⟨rfl, Below.refl _ _⟩
theorem equalGr_walk (v v' : Value) (xs ys : List BGr) (w : World) (h : RowsIn grCs 4 w v xs) (h' : RowsIn grCs 4 w v' ys) (hn : xs.length ≤ 1000000000000) :
    Calls Tryz.prog 15 #[v, v'] w fun z w' => z = .returned (.bool (decide (xs = ys))) ∧ Below w.heap.size w w' := by
  by_cases hl : xs.length = ys.length
  · rcases h.split with ⟨rfl, a, c, rfl⟩ | ⟨b, off, c, rfl, hb, hr⟩
    · obtain rfl : ys = [] := List.length_eq_zero_iff.1 hl.symm
      obtain ⟨a', c', rfl, _, _⟩ := h'
      exact equalGr_none a a' c c' w
    · rcases h'.split with ⟨rfl, a', c', rfl⟩ | ⟨b', off', c', rfl, hb', hr'⟩
      · obtain rfl : xs = [] := List.length_eq_zero_iff.1 hl
        exact equalGr_none _ a' c c' w
      · rw [← hl]
        exact equalGr_some b off c b' off' c' xs ys w hb hr hb' hr' hl hn
  · obtain ⟨a, c, rfl, _, _⟩ := h
    obtain ⟨a', c', rfl, _, _⟩ := h'
    rw [decide_eq_false (fun e => hl (by rw [e]))]
    exact equalGr_len a a' _ _ c c' hl w

set_option maxHeartbeats 2000000 in
set_option maxRecDepth 100000 in
theorem equalAp_some (b off c b' off' c' : Nat) (xs ys : List BAp) (w : World) (hb : b < w.heap.size) (hr : RowsAt apCs 6 w b off xs) (hb' : b' < w.heap.size) (hr' : RowsAt apCs 6 w b' off' ys) (hl : xs.length = ys.length) (hn : xs.length ≤ 1000000000000) :
    Calls Tryz.prog 66 #[.slice (some ⟨b, off, none⟩) xs.length c, .slice (some ⟨b', off', none⟩) xs.length c'] w fun z w' => z = .returned (.bool (decide (xs = ys))) ∧ Below w.heap.size w w' := by
  obtain ⟨β, hβ⟩ : ∃ β, β = decide (xs = ys) := ⟨_, rfl⟩
  rw [← hβ]
  replace hβ := Lib.hid hβ
  have HR := Lib.hid hr
  have HR' := Lib.hid hr'
  obtain ⟨n, hnn⟩ : ∃ n, n = xs.length := ⟨_, rfl⟩
  rw [← hnn] at hl hn ⊢
  clear hr hr'
  replace hnn := Lib.hid hnn
  replace hl := Lib.hid hl
  go_enter Tryz.func66, Tryz.ntmps66
  go_wp2_with fail
  go_loopw [13] (fun v13 wr => ∃ k : Nat, k ≤ n ∧ v13 = .int .i64 k ∧ Hid (xs.take k = ys.take k) ∧ Hid (Below w.heap.size w wr)) (fun i _ => n - (RowKit.intOf i).toNat)
  case atStart => exact ⟨0, Nat.zero_le _, rfl, Lib.hid (by simp), Lib.hid (Below.refl _ _)⟩
  case round =>
    obtain ⟨k, hk, rfl, hT, hB⟩ := hrel
    by_cases hlt : k < n
    · have hx : k < xs.length := by rw [← hnn.out]; exact hlt
      have hy : k < ys.length := by rw [← hl.out]; exact hlt
      obtain ⟨c0, c1, c2, c3, c4, c5⟩ := ap_cells (HR.out.below hB.out hb) k hx
      obtain ⟨d0, d1, d2, d3, d4, d5⟩ := ap_cells (HR'.out.below hB.out hb') k hy
      have k1 : (k : Int) < (n : Int) := by omega
      by_cases he : xs[k] = ys[k]
      · have heq : ∀ W : World, (binOp .neq 44 (apV xs[k]) (apV ys[k])).run Tryz.prog W = .ok (.bool false) W := fun W => by
          rw [neq_ap, decide_eq_true he]; rfl
        have hT2 := Lib.hid (take_eq_snoc hx hy hT.out he)
        clear he
        go_wp2_with fail
        go_quiet (fail)
        have hB' := Lib.hid (below_drewN' hB.out nq)
        clear c0 c1 c2 c3 c4 c5 d0 d1 d2 d3 d4 d5
        go_wp2_with fail
        exact ⟨⟨k + 1, by omega, by go_num, hT2, hB'⟩, by simp [RowKit.intOf]; omega⟩
      · have heq : ∀ W : World, (binOp .neq 44 (apV xs[k]) (apV ys[k])).run Tryz.prog W = .ok (.bool true) W := fun W => by
          rw [neq_ap, decide_eq_false he]; rfl
        have hif := Lib.hid (show β = false from hβ.out.trans (decide_eq_false (ne_of_get hx hy he)))
        clear he
        go_wp2_with fail
        go_quiet (fail)
        have hB' := Lib.hid (below_drewN' hB.out nq)
        clear c0 c1 c2 c3 c4 c5 d0 d1 d2 d3 d4 d5
        go_wp2_with fail
        go_ret
        exact ⟨by rw [hif.out]; rfl, hB'.out⟩
    · have hif := Lib.hid (show β = true from hβ.out.trans (decide_eq_true (by
        have := hT.out
        rw [List.take_of_length_le (by rw [← hnn.out]; omega), List.take_of_length_le (by rw [← hl.out]; omega)] at this
        exact this)))
      go_wp2_with fail
      go_ret
      exact ⟨by rw [hif.out]; rfl, hB.out⟩

set_option maxHeartbeats 1000000 in
set_option maxRecDepth 100000 in
theorem equalAp_none (a a' : Option Addr) (c c' : Nat) (w : World) :
    Calls Tryz.prog 66 #[.slice a 0 c, .slice a' 0 c'] w fun z w' => z = .returned (.bool true) ∧ Below w.heap.size w w' := by
  go_enter Tryz.func66, Tryz.ntmps66
  go_wp2_with fail
  refine wp_loop_rounds 1 ?_
  rw [rounds_succ]
  go_wp2_with fail
  go_ret
  exact ⟨rfl, Below.refl _ _⟩
set_option maxHeartbeats 1000000 in
set_option maxRecDepth 100000 in
theorem equalAp_len (a a' : Option Addr) (n m c c' : Nat) (h : n ≠ m) (w : World) :
    Calls Tryz.prog 66 #[.slice a n c, .slice a' m c'] w fun z w' => z = .returned (.bool false) ∧ Below w.heap.size w w' := by
  have hz : ((n : Int) != (m : Int)) = true := by rw [bne_iff_ne]; omega
  go_enter Tryz.func66, Tryz.ntmps66
  go_wp2_with fail
  go_ret
  exact ⟨rfl, Below.refl _ _⟩
theorem equalAp_walk (v v' : Value) (xs ys : List BAp) (w : World) (h : RowsIn apCs 6 w v xs) (h' : RowsIn apCs 6 w v' ys) (hn : xs.length ≤ 1000000000000) :
    Calls Tryz.prog 66 #[v, v'] w fun z w' => z = .returned (.bool (decide (xs = ys))) ∧ Below w.heap.size w w' := by
  by_cases hl : xs.length = ys.length
  · rcases h.split with ⟨rfl, a, c, rfl⟩ | ⟨b, off, c, rfl, hb, hr⟩
    · obtain rfl : ys = [] := List.length_eq_zero_iff.1 hl.symm
      obtain ⟨a', c', rfl, _, _⟩ := h'
      exact equalAp_none a a' c c' w
    · rcases h'.split with ⟨rfl, a', c', rfl⟩ | ⟨b', off', c', rfl, hb', hr'⟩
      · obtain rfl : xs = [] := List.length_eq_zero_iff.1 hl
        exact equalAp_none _ a' c c' w
      · rw [← hl]
        exact equalAp_some b off c b' off' c' xs ys w hb hr hb' hr' hl hn
  · obtain ⟨a, c, rfl, _, _⟩ := h
    obtain ⟨a', c', rfl, _, _⟩ := h'
    rw [decide_eq_false (fun e => hl (by rw [e]))]
    exact equalAp_len a a' _ _ c c' hl w
end Go.Proofs.YtnjiomggbafkmaaGreatDoor
