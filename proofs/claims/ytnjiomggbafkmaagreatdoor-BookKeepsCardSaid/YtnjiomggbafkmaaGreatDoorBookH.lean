/- slices.Contains at events; Find. -/
import Derived.Test.YtnjiomggbafkmaaGreatDoorBookG
import Derived.Test.YtnjiomggbafkmaaGreatDoorBookQ
import Derived.Test.YtnjiomggbafkmaaGreatDoorBookV
namespace Go.Proofs.YtnjiomggbafkmaaGreatDoor
open Go.RowKit Go.Lib

theorem first_at {α : Type} [DecidableEq α] (l : List α) (x : α) : ∃ n, n ≤ l.length ∧ (∀ k (h : k < l.length), k < n → x ≠ l[k]) ∧ ∀ h : n < l.length, x = l[n] := by
  induction l with
  | nil => exact ⟨0, by simp, fun k h => by (cases h), fun h => by cases h⟩
  | cons p ps ih =>
    by_cases hp : x = p
    · exact ⟨0, by simp, fun k _ h => by (cases h), fun _ => hp⟩
    · obtain ⟨n, h1, h2, h3⟩ := ih
      refine ⟨n + 1, by simpa using h1, fun k h hk => ?_, fun h => h3 (by simpa using h)⟩
      cases k with
      | zero => exact hp
      | succ k => exact h2 k (by simpa using h) (by omega)
theorem first_mem {α : Type} {l : List α} {x : α} {n : Nat} (h1 : n ≤ l.length) (h2 : ∀ k (h : k < l.length), k < n → x ≠ l[k]) (h3 : ∀ h : n < l.length, x = l[n]) : n < l.length ↔ x ∈ l := by
  constructor
  · intro h
    have := h3 h
    rw [this]; exact List.getElem_mem h
  · intro h
    obtain ⟨k, hk, e⟩ := List.getElem_of_mem h
    have : ¬ k < n := fun h' => h2 k hk h' e.symm
    omega

set_option maxHeartbeats 2000000 in
set_option maxRecDepth 100000 in
theorem indexEv_some (b off c : Nat) (es : List BEv) (e : BEv) (w : World) (hb : b < w.heap.size) (hr : RowsAt evCs 9 w b off es) (hn : es.length ≤ 1000000000000) : ∃ r : Int, (0 ≤ r ↔ e ∈ es) ∧
    Calls Tryz.prog 104 #[.slice (some ⟨b, off, none⟩) es.length c, evV e] w fun z w' => z = .returned (.int .i64 r) ∧ Below w.heap.size w w' := by
  obtain ⟨n, h1, h2, h3⟩ := first_at es e
  refine ⟨if n < es.length then n else -1, ?_, ?_⟩
  · rw [← first_mem h1 h2 h3]
    constructor
    · intro h; by_cases hh : n < es.length
      · exact hh
      · rw [if_neg hh] at h; omega
    · intro h; rw [if_pos h]; omega
  obtain ⟨r, hr'⟩ : ∃ r : Int, r = if n < es.length then (n : Int) else -1 := ⟨_, rfl⟩
  rw [← hr']
  replace hr' := Lib.hid hr'
  have HR := Lib.hid hr
  replace h2 := Lib.hid h2
  replace h3 := Lib.hid h3
  clear hr
  go_enter Tryz.func104, Tryz.ntmps104
  go_wp2_with fail
  have hK0 := Lib.hid (Blk.new w 26 #[.int .i64 e.kind, .string (str e.key.st), .string (str e.key.ex), .int .i64 e.key.att, .int .i64 e.tick, .int .i64 e.ver, .int .i64 e.hun, .string (str e.text), .bool e.acc])
  have hB0 := Lib.hid ((Below.refl w.heap.size w).alloc (Nat.le_refl _) (.cells #[.int .i64 e.kind, .string (str e.key.st), .string (str e.key.ex), .int .i64 e.key.att, .int .i64 e.tick, .int .i64 e.ver, .int .i64 e.hun, .string (str e.text), .bool e.acc] 26))
  go_loopw [5, 8] (fun _ v8 wr => ∃ k : Nat, k ≤ n ∧ v8 = .int .i64 k ∧ Hid (Blk wr w.heap.size 26 #[.int .i64 e.kind, .string (str e.key.st), .string (str e.key.ex), .int .i64 e.key.att, .int .i64 e.tick, .int .i64 e.ver, .int .i64 e.hun, .string (str e.text), .bool e.acc]) ∧ Hid (Below w.heap.size w wr)) (fun _ i _ => n - (RowKit.intOf i).toNat)
  case atStart => exact ⟨0, Nat.zero_le _, rfl, hK0, hB0⟩
  case round =>
    clear hK0 hB0
    obtain ⟨k, hk, rfl, hK, hB⟩ := hrel
    by_cases hlt : k < es.length
    · obtain ⟨c0, c1, c2, c3, c4, c5, c6, c7, c8⟩ := ev_cells (HR.out.below hB.out hb) k hlt
      have hkc := hK.out.cell
      have k1 : (k : Int) < (es.length : Int) := by omega
      by_cases hkn : k < n
      · have heq : ∀ W : World, (binOp .eql 26 (evV e) (evV es[k])).run Tryz.prog W = .ok (.bool false) W := fun W => by
          rw [eq_ev, decide_eq_false (h2.out k hlt hkn)]
        go_wp2_with fail
        go_quiet (fail)
        have hK' := Lib.hid (hK.out.drewN nq)
        have hB' := Lib.hid (below_drewN' hB.out nq)
        clear hkc c0 c1 c2 c3 c4 c5 c6 c7 c8
        go_wp2_with fail
        exact ⟨⟨k + 1, by omega, by go_num, hK', hB'⟩, by simp [RowKit.intOf]; omega⟩
      · obtain rfl : k = n := by omega
        have heq : ∀ W : World, (binOp .eql 26 (evV e) (evV es[k])).run Tryz.prog W = .ok (.bool true) W := fun W => by
          rw [eq_ev, decide_eq_true (h3.out hlt)]
        have hif := Lib.hid (show r = k from hr'.out.trans (if_pos hlt))
        go_wp2_with fail
        go_quiet (fail)
        have hB' := Lib.hid (below_drewN' hB.out nq)
        clear hkc c0 c1 c2 c3 c4 c5 c6 c7 c8
        go_wp2_with fail
        go_ret
        exact ⟨by rw [hif.out]; rfl, hB'.out⟩
    · have hif := Lib.hid (show r = -1 from hr'.out.trans (if_neg (by omega)))
      go_wp2_with fail
      go_ret
      exact ⟨by rw [hif.out]; rfl, hB.out⟩

set_option maxHeartbeats 1000000 in
set_option maxRecDepth 100000 in
theorem indexEv_none (a : Option Addr) (c : Nat) (e : BEv) (w : World) :
    Calls Tryz.prog 104 #[.slice a 0 c, evV e] w fun z w' => z = .returned (.int .i64 (-1)) ∧ Below w.heap.size w w' := by
  go_enter Tryz.func104, Tryz.ntmps104
  go_wp2_with fail
  refine wp_loop_rounds 1 ?_
  rw [rounds_succ]
  go_wp2_with fail
  go_ret
  exact ⟨rfl, (Below.refl _ _).alloc (Nat.le_refl _) _⟩

set_option maxHeartbeats 1000000 in
set_option maxRecDepth 100000 in
theorem containsEv_walk (v : Value) (es : List BEv) (e : BEv) (w : World) (h : RowsIn evCs 9 w v es) (hn : es.length ≤ 1000000000000) :
    Calls Tryz.prog 83 #[v, evV e] w fun z w' => z = .returned (.bool (decide (e ∈ es))) ∧ Below w.heap.size w w' := by
  have hb0 := (Below.refl w.heap.size w).alloc (Nat.le_refl _) (.cells #[.int .i64 e.kind, .string (str e.key.st), .string (str e.key.ex), .int .i64 e.key.att, .int .i64 e.tick, .int .i64 e.ver, .int .i64 e.hun, .string (str e.text), .bool e.acc] 26)
  have C : ∃ r : Int, (0 ≤ r ↔ e ∈ es) ∧ Calls Tryz.prog 104 #[v, evV e] (w.alloc (.cells #[.int .i64 e.kind, .string (str e.key.st), .string (str e.key.ex), .int .i64 e.key.att, .int .i64 e.tick, .int .i64 e.ver, .int .i64 e.hun, .string (str e.text), .bool e.acc] 26)) fun z w' => z = .returned (.int .i64 r) ∧ Below w.heap.size w w' := by
    rcases (h.below hb0).split with ⟨rfl, a, c, rfl⟩ | ⟨b, off, c, rfl, hb, hr⟩
    · exact ⟨-1, by simp, (indexEv_none a c e _).mono fun z w' ⟨h1, h2⟩ => ⟨h1, below_seq hb0 h2⟩⟩
    · obtain ⟨r, hr', C⟩ := indexEv_some b off c es e _ hb hr hn
      exact ⟨r, hr', C.mono fun z w' ⟨h1, h2⟩ => ⟨h1, below_seq hb0 h2⟩⟩
  obtain ⟨r, hr, C⟩ := C
  replace C := Lib.hid C
  have H := Lib.hid (show decide (e ∈ es) = decide (0 ≤ r) by simp only [hr])
  clear hr h hb0
  go_enter Tryz.func83, Tryz.ntmps83
  go_wp2_with fail
  refine C.out.mono ?_
  rintro z w' ⟨rfl, hb⟩
  go_wp2_with fail
  go_ret
  exact ⟨by rw [H.out]; rfl, hb⟩

/-! ### Find -/
abbrev enV (r : EnR) : Value := .agg #[.string (str r.y.key.st), .string (str r.y.key.ex), .int .i64 r.y.key.att, .int .i64 r.y.tick, .string (str r.y.text), r.g, r.a]

set_option maxHeartbeats 1000000 in
set_option maxRecDepth 100000 in
theorem isKey_walk (r : EnR) (k : BKey) (kb : Nat) (w : World) (hk : Blk w kb 24 #[.string (str k.st), .string (str k.ex), .int .i64 k.att]) :
    Calls Tryz.prog 52 #[enV r, .pointer (some ⟨kb, 0, none⟩)] w fun z w' => z = .returned (.bool (decide (r.y.key = k))) ∧ Below w.heap.size w w' := by
  have heq : ∀ W : World, (binOp .eql 24 (keyV r.y.key) (keyV k)).run Tryz.prog W = .ok (.bool (decide (r.y.key = k))) W := fun W => eq_key _ _ W
  generalize decide (r.y.key = k) = β at *
  have hkc := (hk.alloc (.cells #[.string (str r.y.key.st), .string (str r.y.key.ex), .int .i64 r.y.key.att, .int .i64 r.y.tick, .string (str r.y.text), r.g, r.a] 39)).cell
  have hlt := hk.lt
  have hne : ¬ kb = w.heap.size := by omega
  clear hk
  go_enter Tryz.func52, Tryz.ntmps52
  go_wp2_with fail
  go_ret
  exact ⟨rfl, (Below.refl _ _).alloc (Nat.le_refl _) _⟩
end Go.Proofs.YtnjiomggbafkmaaGreatDoor
