/- slices.EqualFunc at entries; Same of package book. -/
import Derived.Test.YtnjiomggbafkmaaGreatDoorBookY
namespace Go.Proofs.YtnjiomggbafkmaaGreatDoor
open Go.RowKit Go.Lib

abbrev sameV : Value := .func (.func 65) #[] #[]
set_option maxHeartbeats 4000000 in
set_option maxRecDepth 100000 in
theorem equalEn_some (b off c b' off' c' : Nat) (xs ys : List EnR) (w : World) (hb : b < w.heap.size) (hr : RowsAt enCs 7 w b off xs) (hb' : b' < w.heap.size) (hr' : RowsAt enCs 7 w b' off' ys) (hx : ∀ r ∈ xs, EnIn w r) (hy : ∀ r ∈ ys, EnIn w r)
    (hl : xs.length = ys.length) (hn : xs.length ≤ 1000000000000) (hbig : ∀ r ∈ xs, r.y.grades.length ≤ 1000000000000 ∧ r.y.appeals.length ≤ 1000000000000) :
    Calls Tryz.prog 64 #[.slice (some ⟨b, off, none⟩) xs.length c, .slice (some ⟨b', off', none⟩) xs.length c', sameV] w fun z w' => z = .returned (.bool (decide (xs.map EnR.y = ys.map EnR.y))) ∧ Below w.heap.size w w' := by
  obtain ⟨β, hβ⟩ : ∃ β, β = decide (xs.map EnR.y = ys.map EnR.y) := ⟨_, rfl⟩
  rw [← hβ]
  replace hβ := Lib.hid hβ
  have HR := Lib.hid hr
  have HR' := Lib.hid hr'
  have HX := Lib.hid hx
  have HY := Lib.hid hy
  have HG := Lib.hid hbig
  obtain ⟨n, hnn⟩ : ∃ n, n = xs.length := ⟨_, rfl⟩
  rw [← hnn] at hl hn ⊢
  clear hr hr' hx hy hbig
  replace hnn := Lib.hid hnn
  replace hl := Lib.hid hl
  have eg : ∀ args W, (callFunc 65 args).run Tryz.prog W = .ok (.enter 65 args) W := enters_of Tryz.func65 (by kernel_rfl) rfl
  go_enter Tryz.func64, Tryz.ntmps64
  go_wp2_with fail
  go_loopw [17] (fun v17 wr => ∃ k : Nat, k ≤ n ∧ v17 = .int .i64 k ∧ Hid ((xs.map EnR.y).take k = (ys.map EnR.y).take k) ∧ Hid (Below w.heap.size w wr)) (fun i _ => n - (RowKit.intOf i).toNat)
  case atStart => exact ⟨0, Nat.zero_le _, rfl, Lib.hid (by simp), Lib.hid (Below.refl _ _)⟩
  case round =>
    obtain ⟨k, hk, rfl, hT, hB⟩ := hrel
    by_cases hlt : k < n
    · have hx : k < xs.length := by rw [← hnn.out]; exact hlt
      have hy : k < ys.length := by rw [← hl.out]; exact hlt
      obtain ⟨c0, c1, c2, c3, c4, c5, c6⟩ := en_cells (HR.out.below hB.out hb) k hx
      obtain ⟨d0, d1, d2, d3, d4, d5, d6⟩ := en_cells (HR'.out.below hB.out hb') k hy
      have hX := (HX.out _ (List.getElem_mem hx)).below hB.out
      have hY := (HY.out _ (List.getElem_mem hy)).below hB.out
      have hG := HG.out _ (List.getElem_mem hx)
      have hget : (xs.map EnR.y)[k]'(by simpa using hx) = (xs[k]).y ∧ (ys.map EnR.y)[k]'(by simpa using hy) = (ys[k]).y := ⟨by simp, by simp⟩
      obtain ⟨r, hrk⟩ : ∃ r, r = xs[k] := ⟨_, rfl⟩
      obtain ⟨s, hsk⟩ : ∃ s, s = ys[k] := ⟨_, rfl⟩
      rw [← hrk] at c0 c1 c2 c3 c4 c5 c6 hX hG hget
      rw [← hsk] at d0 d1 d2 d3 d4 d5 d6 hY hget
      clear hrk hsk
      obtain ⟨y, g, a⟩ := r
      obtain ⟨y', g', a'⟩ := s
      have hX' := hX
      have hY' := hY
      obtain ⟨⟨ag, cg, e1, _, _⟩, ⟨aa, ca, e2, _, _⟩⟩ := hX'
      obtain ⟨⟨ag', cg', e3, _, _⟩, ⟨aa', ca', e4, _, _⟩⟩ := hY'
      simp only at e1 e2 e3 e4 c0 c1 c2 c3 c4 c5 c6 d0 d1 d2 d3 d4 d5 d6 hG hget
      subst e1 e2 e3 e4
      have hSm := fun W (hW : Below wr.heap.size wr W) => same1_walk _ _ W (hX.below hW) (hY.below hW) hG
      simp only [enV] at hSm
      replace hSm := Lib.hid hSm
      replace hget := Lib.hid hget
      clear hX hY hG
      have k1 : (k : Int) < (n : Int) := by omega
      have hsz := hB.out.size
      have hne1 : ¬ (b' = wr.heap.size) := by omega
      have hlt1 : b' < wr.heap.size := by omega
      have HBB := Lib.hid (((Below.refl wr.heap.size wr).alloc (Nat.le_refl _) (.cells #[.string (str y.key.st), .string (str y.key.ex), .int .i64 y.key.att, .int .i64 y.tick, .string (str y.text), .slice ag y.grades.length cg, .slice aa y.appeals.length ca] 39)).alloc (by simp) (.cells #[.string (str y'.key.st), .string (str y'.key.ex), .int .i64 y'.key.att, .int .i64 y'.tick, .string (str y'.text), .slice ag' y'.grades.length cg', .slice aa' y'.appeals.length ca'] 39))
      go_wp2_with fail
      refine (hSm.out _ HBB.out).mono ?_
      rintro z w1 ⟨rfl, hw1⟩
      have hB2 := Lib.hid (below_seq (below_seq hB.out HBB.out) hw1)
      clear hw1 HBB
      by_cases e : y = y'
      · rw [decide_eq_true e]
        have hT2 := Lib.hid (take_eq_snoc (by simpa using hx) (by simpa using hy) hT.out (by rw [hget.out.1, hget.out.2]; exact e))
        clear e
        go_wp2_with fail
        exact ⟨⟨k + 1, by omega, by go_num, hT2, hB2⟩, by simp [RowKit.intOf]; omega⟩
      · rw [decide_eq_false e]
        have hif := Lib.hid (show β = false from hβ.out.trans (decide_eq_false (ne_of_get (k := k) (by simpa using hx) (by simpa using hy) (by rw [hget.out.1, hget.out.2]; exact e))))
        clear e
        go_wp2_with fail
        go_ret
        exact ⟨by rw [hif.out]; rfl, hB2.out⟩
    · have hif := Lib.hid (show β = true from hβ.out.trans (decide_eq_true (by
        have := hT.out
        rw [List.take_of_length_le (by rw [List.length_map, ← hnn.out]; omega), List.take_of_length_le (by rw [List.length_map, ← hl.out]; omega)] at this
        exact this)))
      go_wp2_with fail
      go_ret
      exact ⟨by rw [hif.out]; rfl, hB.out⟩

set_option maxHeartbeats 1000000 in
set_option maxRecDepth 100000 in
theorem equalEn_none (a a' : Option Addr) (c c' : Nat) (w : World) :
    Calls Tryz.prog 64 #[.slice a 0 c, .slice a' 0 c', sameV] w fun z w' => z = .returned (.bool true) ∧ Below w.heap.size w w' := by
  go_enter Tryz.func64, Tryz.ntmps64
  go_wp2_with fail
  refine wp_loop_rounds 1 ?_
  rw [rounds_succ]
  go_wp2_with fail
  go_ret
  exact ⟨rfl, Below.refl _ _⟩
set_option maxHeartbeats 1000000 in
set_option maxRecDepth 100000 in
theorem equalEn_len (a a' : Option Addr) (n m c c' : Nat) (h : n ≠ m) (w : World) :
    Calls Tryz.prog 64 #[.slice a n c, .slice a' m c', sameV] w fun z w' => z = .returned (.bool false) ∧ Below w.heap.size w w' := by
  have hz : ((n : Int) != (m : Int)) = true := by rw [bne_iff_ne]; omega
  go_enter Tryz.func64, Tryz.ntmps64
  go_wp2_with fail
  go_ret
  exact ⟨rfl, Below.refl _ _⟩
theorem equalEn_walk (v v' : Value) (es es' : List BEn) (w : World) (h : EntriesIn w v es) (h' : EntriesIn w v' es') (hn : es.length ≤ 1000000000000) (hbig : ∀ y ∈ es, y.grades.length ≤ 1000000000000 ∧ y.appeals.length ≤ 1000000000000) :
    Calls Tryz.prog 64 #[v, v', sameV] w fun z w' => z = .returned (.bool (decide (es = es'))) ∧ Below w.heap.size w w' := by
  obtain ⟨xs, rfl, h1, h2⟩ := h
  obtain ⟨ys, rfl, h3, h4⟩ := h'
  rw [List.length_map] at hn
  by_cases hl : xs.length = ys.length
  · rcases h1.split with ⟨rfl, a, c, rfl⟩ | ⟨b, off, c, rfl, hb, hr⟩
    · obtain rfl : ys = [] := List.length_eq_zero_iff.1 hl.symm
      obtain ⟨a', c', rfl, _, _⟩ := h3
      exact equalEn_none a a' c c' w
    · rcases h3.split with ⟨rfl, a', c', rfl⟩ | ⟨b', off', c', rfl, hb', hr'⟩
      · obtain rfl : xs = [] := List.length_eq_zero_iff.1 hl
        exact equalEn_none _ a' c c' w
      · rw [← hl]
        exact equalEn_some b off c b' off' c' xs ys w hb hr hb' hr' h2 h4 hl hn (fun r hr => hbig _ (List.mem_map_of_mem hr))
  · obtain ⟨a, c, rfl, _, _⟩ := h1
    obtain ⟨a', c', rfl, _, _⟩ := h3
    rw [decide_eq_false (fun e => hl (by have := congrArg List.length e; simpa using this))]
    exact equalEn_len a a' _ _ c c' hl w

theorem Bk.eq_iff (x y : Bk) : x = y ↔ x.tick = y.tick ∧ x.entries = y.entries := by
  obtain ⟨a1, a2⟩ := x
  obtain ⟨b1, b2⟩ := y
  simp
set_option maxHeartbeats 2000000 in
set_option maxRecDepth 100000 in
theorem same_walk (t t' : Int) (v v' : Value) (es es' : List BEn) (w : World) (h : EntriesIn w v es) (h' : EntriesIn w v' es') (hn : es.length ≤ 1000000000000) (hbig : ∀ y ∈ es, y.grades.length ≤ 1000000000000 ∧ y.appeals.length ≤ 1000000000000) :
    Calls Tryz.prog 37 #[.agg #[.int .i64 t, v], .agg #[.int .i64 t', v']] w fun z w' => z = .returned (.bool (decide ((⟨t, es⟩ : Bk) = ⟨t', es'⟩))) ∧ Below w.heap.size w w' := by
  have hb2 := (((Below.refl w.heap.size w).alloc (Nat.le_refl _) (.cells #[.int .i64 t, v] 31))).alloc (by simp) (.cells #[.int .i64 t', v'] 31)
  have E := equalEn_walk v v' es es' _ (h.below hb2) (h'.below hb2) hn hbig
  obtain ⟨β, hβ⟩ : ∃ β, β = decide ((⟨t, es⟩ : Bk) = ⟨t', es'⟩) := ⟨_, rfl⟩
  rw [← hβ]
  obtain ⟨γ, hγ⟩ : ∃ γ, γ = decide (es = es') := ⟨_, rfl⟩
  rw [← hγ] at E
  replace hβ := Lib.hid hβ
  replace hγ := Lib.hid hγ
  have HB := Lib.hid hb2
  have e1 : ∃ a n c, v = .slice a n c := by obtain ⟨_, _, ⟨a, c, hv, _⟩, _⟩ := h; exact ⟨_, _, _, hv⟩
  have e2 : ∃ a n c, v' = .slice a n c := by obtain ⟨_, _, ⟨a, c, hv, _⟩, _⟩ := h'; exact ⟨_, _, _, hv⟩
  obtain ⟨a1, n1, c1, rfl⟩ := e1
  obtain ⟨a2, n2, c2, rfl⟩ := e2
  replace E := Lib.hid E
  clear h h' hb2 hn hbig
  go_enter Tryz.func37, Tryz.ntmps37
  by_cases e : t = t'
  · have h1 : (t == t') = true := by rw [beq_iff_eq]; exact e
    have hif := Lib.hid (show β = γ from hβ.out.trans ((decide_eq_decide.2 ⟨fun h => ((Bk.eq_iff _ _).1 h).2, fun h => (Bk.eq_iff _ _).2 ⟨e, h⟩⟩).trans hγ.out.symm))
    clear e
    go_wp2_with fail
    refine E.out.mono ?_
    rintro z w1 ⟨rfl, hw1⟩
    have HF := Lib.hid (below_seq HB.out hw1)
    go_wp2_with fail
    go_ret
    exact ⟨by rw [hif.out]; rfl, HF.out⟩
  · have h1 : (t == t') = false := by rw [beq_eq_false_iff_ne]; exact e
    have hif := Lib.hid (show β = false from hβ.out.trans (decide_eq_false (fun h => e ((Bk.eq_iff _ _).1 h).1)))
    clear e
    go_wp2_with fail
    go_ret
    exact ⟨by rw [hif.out]; rfl, HB.out⟩
end Go.Proofs.YtnjiomggbafkmaaGreatDoor
