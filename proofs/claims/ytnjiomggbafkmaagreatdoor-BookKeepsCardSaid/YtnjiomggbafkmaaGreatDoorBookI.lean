/- Find of package book. -/
import Derived.Test.YtnjiomggbafkmaaGreatDoorBookH
namespace Go.Proofs.YtnjiomggbafkmaaGreatDoor
open Go.RowKit Go.Lib

/-- The index of the entry with a key, or -1. -/
def findR (es : List BEn) (k : BKey) : Int := match entryOf es k with
  | some (i, _) => i
  | none => -1
theorem first_key (es : List BEn) (k : BKey) : ∃ n, n ≤ es.length ∧ (∀ j (h : j < es.length), j < n → es[j].key ≠ k) ∧ (∀ h : n < es.length, es[n].key = k) := by
  induction es with
  | nil => exact ⟨0, by simp, fun j h => by (cases h), fun h => by cases h⟩
  | cons y es ih =>
    by_cases hp : y.key = k
    · exact ⟨0, by simp, fun k _ h => by (cases h), fun _ => hp⟩
    · obtain ⟨n, h1, h2, h3⟩ := ih
      refine ⟨n + 1, by simpa using h1, fun j h hj => ?_, fun h => h3 (by simpa using h)⟩
      cases j with
      | zero => exact hp
      | succ j => exact h2 j (by simpa using h) (by omega)
theorem findR_at {es : List BEn} {k : BKey} {n : Nat} (h : n < es.length) (h2 : ∀ j (h : j < es.length), j < n → es[j].key ≠ k) (h3 : es[n].key = k) : findR es k = n := by
  unfold findR
  rw [entryOf_of h h3 h2]
theorem findR_none {es : List BEn} {k : BKey} (h2 : ∀ j (h : j < es.length), es[j].key ≠ k) : findR es k = -1 := by
  unfold findR
  rw [entryOf_none.2 fun z hz => ?_]
  obtain ⟨j, hj, rfl⟩ := List.getElem_of_mem hz
  exact h2 j hj

set_option maxHeartbeats 2000000 in
set_option maxRecDepth 100000 in
theorem indexKey_some (b off c : Nat) (rows : List EnR) (k : BKey) (kb : Nat) (w : World) (hb : b < w.heap.size) (hr : RowsAt enCs 7 w b off rows) (hk : Blk w kb 24 #[.string (str k.st), .string (str k.ex), .int .i64 k.att]) (hn : rows.length ≤ 1000000000000) :
    Calls Tryz.prog 51 #[.slice (some ⟨b, off, none⟩) rows.length c, .func (.func 52) #[] #[.pointer (some ⟨kb, 0, none⟩)]] w fun z w' => z = .returned (.int .i64 (findR (rows.map EnR.y) k)) ∧ Below w.heap.size w w' := by
  obtain ⟨n, h1, h2, h3⟩ := first_key (rows.map EnR.y) k
  obtain ⟨r, hr'⟩ : ∃ r : Int, r = findR (rows.map EnR.y) k := ⟨_, rfl⟩
  rw [← hr']
  have HR := Lib.hid hr
  have HK := Lib.hid hk
  replace h2 := Lib.hid h2
  replace h3 := Lib.hid h3
  rw [List.length_map] at h1
  replace hr' := Lib.hid hr'
  clear hr hk
  go_enter Tryz.func51, Tryz.ntmps51
  go_wp2_with fail
  go_loopw [5, 8] (fun _ v8 wr => ∃ j : Nat, j ≤ n ∧ v8 = .int .i64 j ∧ Hid (Below w.heap.size w wr)) (fun _ i _ => n - (RowKit.intOf i).toNat)
  case atStart => exact ⟨0, Nat.zero_le _, rfl, Lib.hid (Below.refl _ _)⟩
  case round =>
    obtain ⟨j, hj, rfl, hB⟩ := hrel
    by_cases hlt : j < rows.length
    · obtain ⟨c0, c1, c2, c3, c4, c5, c6⟩ := en_cells (HR.out.below hB.out hb) j hlt
      have k1 : (j : Int) < (rows.length : Int) := by omega
      have C := isKey_walk rows[j] k kb wr (HK.out.below' hB.out HK.out.lt)
      by_cases hjn : j < n
      · have hne : ¬ rows[j].y.key = k := by have := h2.out j (by simpa using hlt) hjn; simpa using this
        rw [decide_eq_false hne] at C
        replace C := Lib.hid C
        clear hne
        go_wp2_with fail
        refine C.out.mono ?_
        rintro z w1 ⟨rfl, hb1⟩
        have hB' := Lib.hid (below_then hB.out hb1 hB.out.size)
        clear hb1 c0 c1 c2 c3 c4 c5 c6
        go_wp2_with fail
        exact ⟨⟨j + 1, by omega, by go_num, hB'⟩, by simp [RowKit.intOf]; omega⟩
      · obtain rfl : j = n := by omega
        have hkk : rows[j].y.key = k := by have := h3.out (by simpa using hlt); simpa using this
        have hif := Lib.hid (show r = j from hr'.out.trans (findR_at (by simpa using hlt) h2.out (by simpa using hkk)))
        rw [decide_eq_true hkk] at C
        replace C := Lib.hid C
        clear hkk
        go_wp2_with fail
        refine C.out.mono ?_
        rintro z w1 ⟨rfl, hb1⟩
        have hB' := Lib.hid (below_then hB.out hb1 hB.out.size)
        clear hb1 c0 c1 c2 c3 c4 c5 c6
        go_wp2_with fail
        go_ret
        exact ⟨by rw [hif.out]; rfl, hB'.out⟩
    · have hif := Lib.hid (show r = -1 from hr'.out.trans (findR_none fun q hq => h2.out q hq (by rw [List.length_map] at hq; omega)))
      go_wp2_with fail
      go_ret
      exact ⟨by rw [hif.out]; rfl, hB.out⟩

set_option maxHeartbeats 1000000 in
set_option maxRecDepth 100000 in
theorem indexKey_none (a : Option Addr) (c : Nat) (f : Value) (w : World) :
    Calls Tryz.prog 51 #[.slice a 0 c, f] w fun z w' => z = .returned (.int .i64 (-1)) ∧ Below w.heap.size w w' := by
  go_enter Tryz.func51, Tryz.ntmps51
  go_wp2_with fail
  refine wp_loop_rounds 1 ?_
  rw [rounds_succ]
  go_wp2_with fail
  go_ret
  exact ⟨rfl, Below.refl _ _⟩

set_option maxHeartbeats 1000000 in
set_option maxRecDepth 100000 in
/-- Find: the index of the entry with a key. -/
theorem find_walk (tick : Int) (v : Value) (es : List BEn) (k : BKey) (w : World) (h : EntriesIn w v es) (hn : es.length ≤ 1000000000000) :
    Calls Tryz.prog 22 #[.agg #[.int .i64 tick, v], keyV k] w fun z w' => z = .returned (.int .i64 (findR es k)) ∧ Below w.heap.size w w' := by
  have hb1 := (Below.refl w.heap.size w).alloc (Nat.le_refl _) (.cells #[.int .i64 tick, v] 31)
  have hb2 := hb1.alloc (by simp) (.cells #[.string (str k.st), .string (str k.ex), .int .i64 k.att] 24)
  have hK := Blk.new (w.alloc (.cells #[.int .i64 tick, v] 31)) 24 #[.string (str k.st), .string (str k.ex), .int .i64 k.att]
  have C : Calls Tryz.prog 51 #[v, .func (.func 52) #[] #[.pointer (some ⟨w.heap.size + 1, 0, none⟩)]] ((w.alloc (.cells #[.int .i64 tick, v] 31)).alloc (.cells #[.string (str k.st), .string (str k.ex), .int .i64 k.att] 24)) fun z w' => z = .returned (.int .i64 (findR es k)) ∧ Below w.heap.size w w' := by
    obtain ⟨rows, rfl, h2, h3⟩ := h.below hb2
    rcases h2.split with ⟨rfl, a, c, rfl⟩ | ⟨b, off, c, rfl, hb, hr⟩
    · exact (indexKey_none a c _ _).mono fun z w' ⟨e1, e2⟩ => ⟨e1, below_seq hb2 e2⟩
    · refine (indexKey_some b off c rows k (w.heap.size + 1) _ hb hr (by simpa using hK) (by simpa using hn)).mono fun z w' ⟨e1, e2⟩ => ⟨e1, below_seq hb2 e2⟩
  replace C := Lib.hid C
  generalize findR es k = r at *
  clear hb1 hb2 hK h
  go_enter Tryz.func22, Tryz.ntmps22
  go_wp2_with fail
  refine C.out.mono ?_
  rintro z w' ⟨rfl, hb⟩
  go_wp2_with fail
  go_ret
  exact ⟨rfl, hb⟩
end Go.Proofs.YtnjiomggbafkmaaGreatDoor
