/- grade of package book. -/
import Derived.Test.YtnjiomggbafkmaaGreatDoorBookL
import Derived.BigQuiet
namespace Go.Proofs.YtnjiomggbafkmaaGreatDoor
open Go.RowKit Go.Lib

def stepR (es : List BEn) (i : Nat) : Except Int BEn → Except Int (List BEn)
  | .error c => .error c
  | .ok y => .ok (es.set i y)
theorem lastVer_eq {gs : List BGr} {n : Nat} (hn : n = gs.length) (h : n - 1 < gs.length) : lastVer gs = gs[n - 1].ver := by
  subst hn
  unfold lastVer
  rw [List.getLast?_eq_getElem?, List.getElem?_eq_getElem (by omega)]
/-- An entry's cells in the builder's book. -/
theorem OwnEnts.at_ {B : Nat} {w : World} {gE c : Nat} {rows : List EnR} (h : OwnEnts B w (.slice (some ⟨gE, 0, none⟩) rows.length c) rows) (i : Nat) (hi : i < rows.length) :
    w.cell? ⟨gE, i * 7, none⟩ = some (.string (str rows[i].y.key.st)) ∧ w.cell? ⟨gE, i * 7 + 5, none⟩ = some rows[i].g ∧ w.cell? ⟨gE, i * 7 + 6, none⟩ = some rows[i].a ∧ w.frozen? ⟨gE, i * 7 + 5, none⟩ = false ∧ w.frozen? ⟨gE, i * 7 + 6, none⟩ = false := by
  have h7 : i * 7 + 7 ≤ rows.length * 7 := by omega
  refine ⟨?_, ?_, ?_, h.ents.frozenAt _, h.ents.frozenAt _⟩
  · have := flatCs_get enCs_len rows i hi 0 (by simp)
    exact (h.ents.cellAt (i * 7) (by omega)).trans this
  · exact (h.ents.cellAt (i * 7 + 5) (by omega)).trans (flatCs_get enCs_len rows i hi 5 (by simp))
  · exact (h.ents.cellAt (i * 7 + 6) (by omega)).trans (flatCs_get enCs_len rows i hi 6 (by simp))
def grZero : Value := .agg #[.int .i64 0, .int .i64 0, .int .i64 0, .string ⟨#[]⟩]
theorem infoGr : (Tryz.prog.info? 42).map (fun i => (i.zero, i.size, i.bytes)) = some (some grZero, 4, 40) := by kernel_rfl
def newGr (e : BEv) : BGr := ⟨e.ver, e.hun, e.tick, e.text⟩
def EnR.withG (r : EnR) (x : BGr) (v : Value) : EnR := ⟨{ r.y with grades := r.y.grades ++ [x] }, v, r.a⟩
theorem OwnBld.pushG {B G ge gE c : Nat} {w w1 : World} {tick : Int} {rows : List EnR} {i : Nat} {e : BEv} {gg cap : Nat} (h : OwnBld B w G tick (.slice (some ⟨gE, 0, none⟩) rows.length c) rows) (hi : i < rows.length) (hk : BoxEv ge e w) {o : Obj}
    (h1 : w1.ownsRow B 42 4 (.slice (some ⟨gg, 0, none⟩) (rows[i].y.grades.length + 1) cap) (rows[i].y.grades.length + 1) (flatCs grCs rows[i].y.grades ++ grCs (newGr e))) (hg : (w.drew.alloc o).grownBy w1 rows[i].g.ownBlock)
    (hat : rows[i].g.ownBlock = some gg ∨ gg = w.heap.size + 1) {w0 : World} (hB : Frm B w0 w) :
    w1.cell? ⟨gE, i * 7 + 5, none⟩ = some rows[i].g ∧ w1.frozen? ⟨gE, i * 7 + 5, none⟩ = false ∧ BoxEv ge e w1 ∧ BoxEv ge e (w1.setCell ⟨gE, i * 7 + 5, none⟩ (.slice (some ⟨gg, 0, none⟩) (rows[i].y.grades.length + 1) cap)) ∧
    (∃ ev', OwnBld B (w1.setCell ⟨gE, i * 7 + 5, none⟩ (.slice (some ⟨gg, 0, none⟩) (rows[i].y.grades.length + 1) cap)) G tick ev' (rows.set i (rows[i].withG (newGr e) (.slice (some ⟨gg, 0, none⟩) (rows[i].y.grades.length + 1) cap)))) ∧
    Frm B w0 (w1.setCell ⟨gE, i * 7 + 5, none⟩ (.slice (some ⟨gg, 0, none⟩) (rows[i].y.grades.length + 1) cap)) := by
  have h0 := h.drew.alloc o
  have hri := h0.own.each _ (List.getElem_mem hi)
  have hE1 : w1.ownsRow B 39 7 (.slice (some ⟨gE, 0, none⟩) rows.length c) rows.length (flatCs enCs rows) := h0.own.ents.kept hg (own_own_ne h0.own.ents hri.1 (by decide))
  have hk0 : BoxEv ge e (w.drew.alloc o) := hk.drew.alloc o
  have hk1 : BoxEv ge e w1 := Blk.grown hk0 hg (fun e => own_blk_ne hri.1 hk0 (by decide) e.symm)
  have hne : ge ≠ gE := fun e => own_blk_ne hE1 hk1 (by decide) (by rw [e]; rfl)
  have hlt := h.blk.lt
  have hle := h.le
  have hgE := (h.own.ents.lt gE rfl).1
  refine ⟨?_, hE1.frozenAt _, hk1, Blk.far hk1 hne _, ⟨_, h0.replace hi (j := 5) (by decide) (r := rows[i].withG (newGr e) (.slice (some ⟨gg, 0, none⟩) (rows[i].y.grades.length + 1) cap)) rfl hg (.inl rfl) ⟨?_, ?_⟩ ?_ (.inl rfl)⟩, ?_⟩
  · exact (hE1.cellAt (i * 7 + 5) (by omega)).trans (flatCs_get enCs_len rows i hi 5 (by simp))
  · have : (rows[i].withG (newGr e) (.slice (some ⟨gg, 0, none⟩) (rows[i].y.grades.length + 1) cap)).y.grades = rows[i].y.grades ++ [newGr e] := rfl
    rw [this, List.length_append, flatCs_append, flatCs_one]; exact h1
  · exact hri.2.kept hg (own_own_ne hri.2 hri.1 (by decide))
  · rcases hat with e | e
    · exact .inl e.symm
    · exact .inr ⟨gg, rfl, by rw [e]; simp⟩
  · refine hB.step ((((Below.refl B w).drew.alloc (by show B ≤ w.heap.size; omega) o).grown hg (by simp; omega) (fun q hq => (hri.1.lt q hq).1)).setCell hgE _) fun g T cs a1 a2 a3 a4 hb => ?_
    have hb0 : Blk (w.drew.alloc o) g T cs := hb.drew.alloc o
    have hb1 := hb0.grown hg (fun e => own_blk_ne hri.1 hb0 (fun e => a2 e.symm) e.symm)
    exact hb1.far (fun e => own_blk_ne hE1 hb1 (fun e => a1 e.symm) (by rw [e]; rfl)) _

theorem OwnBld.readyG {B G ge gE c : Nat} {w0 w : World} {tick : Int} {rows : List EnR} {i : Nat} {e : BEv} {n gc : Nat} {ga : Option Addr} {xs : List BGr} (h : OwnBld B w G tick (.slice (some ⟨gE, 0, none⟩) rows.length c) rows) (hi : i < rows.length) (hk : BoxEv ge e w) (hB : Frm B w0 w) (hgv : rows[i].g = .slice ga n gc) (hxs : xs = rows[i].y.grades) (hn : n = rows[i].y.grades.length) :
    w.cell? ⟨gE, i * 7 + 5, none⟩ = some (.slice ga n gc) ∧ (∀ o, (w.alloc o).cell? ⟨gE, i * 7 + 5, none⟩ = some (.slice ga n gc)) ∧ B ≤ w.heap.size ∧ (∀ o, (w.drew.alloc o).ownsRow B 42 4 (.slice ga n gc) n (flatCs grCs xs)) ∧
    (∀ o gg cap w1, w1.ownsRow B 42 4 (.slice (some ⟨gg, 0, none⟩) (n + 1) cap) (n + 1) (flatCs grCs xs ++ grCs (newGr e)) → (w.drew.alloc o).grownBy w1 (Value.slice ga n gc).ownBlock → ((Value.slice ga n gc).ownBlock = some gg ∨ gg = w.heap.size + 1) →
      w1.cell? ⟨gE, i * 7 + 5, none⟩ = some (.slice ga n gc) ∧ w1.frozen? ⟨gE, i * 7 + 5, none⟩ = false ∧ BoxEv ge e w1 ∧ BoxEv ge e (w1.setCell ⟨gE, i * 7 + 5, none⟩ (.slice (some ⟨gg, 0, none⟩) (n + 1) cap)) ∧
      (∃ ev', OwnBld B (w1.setCell ⟨gE, i * 7 + 5, none⟩ (.slice (some ⟨gg, 0, none⟩) (n + 1) cap)) G tick ev' (rows.set i (rows[i].withG (newGr e) (.slice (some ⟨gg, 0, none⟩) (n + 1) cap)))) ∧
      Frm B w0 (w1.setCell ⟨gE, i * 7 + 5, none⟩ (.slice (some ⟨gg, 0, none⟩) (n + 1) cap))) := by
  subst hxs
  refine ⟨by rw [← hgv]; exact (h.own.at_ i hi).2.1, fun o => by rw [← hgv]; exact ((h.alloc o).own.at_ i hi).2.1, by have := h.blk.lt; have := h.le; omega, fun o => ?_, fun o gg cap w1 a1 a2 a3 => ?_⟩
  · have := ((h.drew.alloc o).own.each _ (List.getElem_mem hi)).1
    rw [← hn, hgv] at this
    exact this
  · have := h.pushG hi hk (w1 := w1) (gg := gg) (cap := cap) (o := o) (by rw [← hn]; exact a1) (by rw [hgv]; exact a2) (by rw [hgv]; exact a3) hB
    rw [← hn, hgv] at this
    exact this

set_option maxHeartbeats 4000000 in
set_option maxRecDepth 100000 in
theorem grade_walk (B G : Nat) (tick : Int) (gE c : Nat) (rows : List EnR) (e : BEv) (i : Nat) (hi : i < rows.length) (w : World) (h : OwnBld B w G tick (.slice (some ⟨gE, 0, none⟩) rows.length c) rows) (hlen : rows[i].y.grades.length ≤ 1000000000) (hk : e.kind = 1) :
    Calls Tryz.prog 77 #[.pointer (some ⟨G, 0, none⟩), evV e, .pointer (some ⟨gE, i * 7, none⟩)] w (BldPost B G tick w (rows.map EnR.y) (stepR (rows.map EnR.y) i (stepEn rows[i].y e))) := by
  obtain ⟨i0, hi0, hz0, hz1, hz2⟩ := info_parts infoGr
  have hGl := h.blk.lt
  have hle := h.le
  have hB0 : Frm B w (w.alloc (.cells #[.int .i64 e.kind, .string (str e.key.st), .string (str e.key.ex), .int .i64 e.key.att, .int .i64 e.tick, .int .i64 e.ver, .int .i64 e.hun, .string (str e.text), .bool e.acc] 26)) := (Frm.refl (by omega)).alloc _
  have h1 := h.alloc (.cells #[.int .i64 e.kind, .string (str e.key.st), .string (str e.key.ex), .int .i64 e.key.att, .int .i64 e.tick, .int .i64 e.ver, .int .i64 e.hun, .string (str e.text), .bool e.acc] 26)
  have hK : BoxEv w.heap.size e (w.alloc (.cells #[.int .i64 e.kind, .string (str e.key.st), .string (str e.key.ex), .int .i64 e.key.att, .int .i64 e.tick, .int .i64 e.ver, .int .i64 e.hun, .string (str e.text), .bool e.acc] 26)) := Blk.new w 26 #[.int .i64 e.kind, .string (str e.key.st), .string (str e.key.ex), .int .i64 e.key.att, .int .i64 e.tick, .int .i64 e.ver, .int .i64 e.hun, .string (str e.text), .bool e.acc]
  have hr := h1.own.each _ (List.getElem_mem hi)
  obtain ⟨n, hn⟩ : ∃ n, n = rows[i].y.grades.length := ⟨_, rfl⟩
  obtain ⟨R, hR⟩ : ∃ R, R = stepR (rows.map EnR.y) i (stepEn rows[i].y e) := ⟨_, rfl⟩
  rw [← hR]
  have hstep : stepEn rows[i].y e = if rows[i].y.grades ≠ [] ∧ e.ver ≤ lastVer rows[i].y.grades then .error 9 else if 16 ≤ rows[i].y.grades.length then .error 8 else .ok { rows[i].y with grades := rows[i].y.grades ++ [newGr e] } := by
    unfold stepEn; rw [if_pos hk]; rfl
  obtain ⟨ga, gc, hgv⟩ := own_slice' hr.1
  rw [← hn] at hgv
  have hgr : n = 0 ∨ 0 < n ∧ ∃ b off V, ga = some ⟨b, off, none⟩ ∧ (w.alloc (.cells #[.int .i64 e.kind, .string (str e.key.st), .string (str e.key.ex), .int .i64 e.key.att, .int .i64 e.tick, .int .i64 e.ver, .int .i64 e.hun, .string (str e.text), .bool e.acc] 26)).cell? ⟨b, off + (n - 1) * 4, none⟩ = some (.int .i64 V) ∧ lastVer rows[i].y.grades = V := by
    rcases Nat.eq_zero_or_pos n with h0 | hpos
    · exact .inl h0
    · right
      have hI := hr.in_.1
      rw [hgv] at hI
      rcases hI.split with ⟨e0, _⟩ | ⟨b, off, c', e1, _, e2⟩
      · rw [e0] at hn; simp at hn; omega
      · exact ⟨hpos, b, off, _, by injection e1, (gr_cells e2 (n - 1) (by omega)).1, lastVer_eq hn (by omega)⟩
  have hne : rows[i].y.grades ≠ [] ↔ n ≠ 0 := by rw [hn, Ne, Ne, List.length_eq_zero_iff]
  have hset : ∀ v, (rows.map EnR.y).set i { rows[i].y with grades := rows[i].y.grades ++ [newGr e] } = (rows.set i (rows[i].withG (newGr e) v)).map EnR.y := fun v => by rw [List.map_set]; rfl
  have hres : (n ≠ 0 ∧ e.ver ≤ lastVer rows[i].y.grades → R = .error 9) ∧ (¬ (n ≠ 0 ∧ e.ver ≤ lastVer rows[i].y.grades) → 16 ≤ n → R = .error 8) ∧ (¬ (n ≠ 0 ∧ e.ver ≤ lastVer rows[i].y.grades) → ¬ 16 ≤ n → ∀ v, R = .ok ((rows.set i (rows[i].withG (newGr e) v)).map EnR.y)) := by
    rw [hR, hstep, ← hn]
    refine ⟨fun h1 => by rw [if_pos ⟨hne.2 h1.1, h1.2⟩]; rfl, fun h1 h2 => by rw [if_neg (fun h => h1 ⟨hne.1 h.1, h.2⟩), if_pos h2]; rfl, fun h1 h2 v => by rw [if_neg (fun h => h1 ⟨hne.1 h.1, h.2⟩), if_neg h2, ← hset v]; rfl⟩
  obtain ⟨r1, r2, r3⟩ := hres
  obtain ⟨k0, k1, k2, k3, k4, k5, k6, k7, k8⟩ := hK.cells
  have q5 : (w.alloc (.cells #[.int .i64 e.kind, .string (str e.key.st), .string (str e.key.ex), .int .i64 e.key.att, .int .i64 e.tick, .int .i64 e.ver, .int .i64 e.hun, .string (str e.text), .bool e.acc] 26)).cell? ⟨gE, i * 7 + 5, none⟩ = some (.slice ga n gc) := by rw [← hgv]; exact (h1.own.at_ i hi).2.1
  have H1 := Lib.hid h1
  have HB := Lib.hid hB0
  replace r1 := Lib.hid r1
  replace r2 := Lib.hid r2
  replace r3 := Lib.hid r3
  have HKB := Lib.hid hK
  rw [← hn] at hlen
  obtain ⟨Gs, hGs⟩ : ∃ Gs, Gs = rows[i].y.grades := ⟨_, rfl⟩
  rw [← hGs] at r1 r2 r3 hgr
  replace hGs := Lib.hid hGs
  replace hgv := Lib.hid hgv
  replace hn := Lib.hid hn
  clear h h1 hB0 hK hr hR hstep hset hne hk
  go_enter Tryz.func77, Tryz.ntmps77
  go_wp2_with fail
  obtain ⟨ge, hge⟩ : ∃ ge, ge = w.heap.size := ⟨_, rfl⟩
  obtain ⟨W0, hW0⟩ : ∃ W0, W0 = w.alloc (.cells #[.int .i64 e.kind, .string (str e.key.st), .string (str e.key.ex), .int .i64 e.key.att, .int .i64 e.tick, .int .i64 e.ver, .int .i64 e.hun, .string (str e.text), .bool e.acc] 26) := ⟨_, rfl⟩
  rw [← hW0] at k0 k1 k2 k3 k4 k5 k6 k7 k8 q5 H1 HB HKB hgr ⊢
  rw [← hge] at k0 k1 k2 k3 k4 k5 k6 k7 k8 HKB ⊢
  clear hge hW0
  have hl0 : n ≤ 9223372036854775807 := by omega
  by_cases hA : n ≠ 0 ∧ e.ver ≤ lastVer Gs
  · rcases hgr with h0 | ⟨hpos, b, off, V, rfl, hV, hV2⟩
    · exact absurd h0 hA.1
    · have b0 : decide (0 < (n : Int)) = true := by simp; omega
      have b1 : IntKind.i64.wrap ((n : Int) - 1) = (n : Int) - 1 := IntWalk.i64_in _ (by omega)
      have b2 : (0 : Int) ≤ (n : Int) - 1 := by omega
      have b3 : (n : Int) - 1 < (n : Int) := by omega
      have b4 : ((n : Int) - 1).toNat = n - 1 := by omega
      have b5 : decide (e.ver ≤ V) = true := by rw [decide_eq_true_eq, ← hV2]; exact hA.2
      have r1 := Lib.hid (r1.out hA)
      clear r2 r3 hA hV2
      go_quiet (fail)
      go_wp2_with fail
      go_ret
      exact ⟨_, _, by rw [r1.out]; rfl, H1.out.old (below_of_drewN _), by rw [r1.out]; rfl, HB.out.drewN _⟩
  · replace r2 := Lib.hid (r2.out hA)
    replace r3 := Lib.hid (r3.out hA)
    clear r1
    have hcut : (n = 0) ∨ ∃ b off V, 0 < n ∧ ga = some ⟨b, off, none⟩ ∧ W0.cell? ⟨b, off + (n - 1) * 4, none⟩ = some (.int .i64 V) ∧ decide (e.ver ≤ V) = false := by
      rcases hgr with h0 | ⟨hpos, b, off, V, rfl, hV, hV2⟩
      · exact .inl h0
      · exact .inr ⟨b, off, V, hpos, rfl, hV, by rw [decide_eq_false_iff_not, ← hV2]; exact fun h => hA ⟨by omega, h⟩⟩
    clear hA hgr
    go_upto_region 2 with fail
    go_cut [13] (fun v13 wr => v13 = .bool false ∧ Hid (OwnBld B wr G tick (.slice (some ⟨gE, 0, none⟩) rows.length c) rows) ∧ Hid (BoxEv ge e wr) ∧ Hid (Frm B w wr))
    case first =>
      rcases hcut with h0 | ⟨b, off, V, hpos, rfl, hV, b5⟩
      · have b0 : decide (0 < (n : Int)) = false := by simp; omega
        go_quiet (fail)
        go_wp2_with fail
        go_meet
        exact ⟨rfl, H1.out.old (below_of_drewN _), HKB.out.below (below_of_drewN _), HB.out.drewN _⟩
      · have b0 : decide (0 < (n : Int)) = true := by simp; omega
        have b1 : IntKind.i64.wrap ((n : Int) - 1) = (n : Int) - 1 := IntWalk.i64_in _ (by omega)
        have b2 : (0 : Int) ≤ (n : Int) - 1 := by omega
        have b3 : (n : Int) - 1 < (n : Int) := by omega
        have b4 : ((n : Int) - 1).toNat = n - 1 := by omega
        go_quiet (fail)
        go_wp2_with fail
        go_meet
        exact ⟨rfl, H1.out.old (below_of_drewN _), HKB.out.below (below_of_drewN _), HB.out.drewN _⟩
    case rest =>
    obtain ⟨rfl, hO, hE, hBw⟩ := hcut
    obtain ⟨j5, hGa, hszr, HO, step⟩ := hO.out.readyG hi hE.out hBw.out hgv.out hGs.out hn.out
    have jf := hO.out.own.at_ i hi
    obtain ⟨_, _, _, jf, _⟩ := jf
    by_cases h16 : 16 ≤ n
    · have hR2 := Lib.hid (r2.out h16)
      clear r2 r3
      go_wp2_with fail
      go_ret
      exact ⟨_, _, by rw [hR2.out]; rfl, hO.out, by rw [hR2.out]; rfl, hBw.out⟩
    · have hR2 := Lib.hid (r3.out h16)
      clear r2 r3 k0 k1 k2 k3 k4 k5 k6 k7 k8 q5
      go_wp2_with fail
      obtain ⟨c0, c1, c2, c3, c4, c5, c6, c7, c8⟩ := BoxEv.rules ge e
      replace step := Lib.hid (step (.cells #[.int .i64 e.ver, .int .i64 e.hun, .int .i64 e.tick, .string (str e.text)] 42))
      replace HO := Lib.hid HO
      refine wp_region_noPanic ?_
      refine wp_region_held_drew (S := BoxEv ge e) (by kernel_rfl) (hE.out.drew) (fun hHeld => ?_)
      refine wpAnyH_take (i := 0) (v := ?_) (by (simp only [List.getElem?_toArray, List.getElem?_cons_zero]); try rfl) (by kernel_rfl) (by kernel_rfl) (by kernel_rfl) (fun _ _ _ h => h) (Or.inl ⟨by rfl, ?_⟩) (by assumption) ?_
      rotate_left
      · (intro w hSw; (try dsimp only at hSw); go_simp); try with_reducible rfl
      try simp only [Act.put, List.setIfInBounds_toArray, List.set_cons_zero, List.set_cons_succ]
      refine wpAnyH_take (i := 1) (v := ?_) (by (simp only [List.getElem?_toArray, List.getElem?_cons_succ, List.getElem?_cons_zero]); try rfl) (by kernel_rfl) (by kernel_rfl) (by kernel_rfl) (fun _ _ _ h => h) (Or.inl ⟨by rfl, ?_⟩) (by assumption) ?_
      rotate_left
      · (intro w hSw; (try dsimp only at hSw); go_simp); try with_reducible rfl
      try simp only [Act.put, List.setIfInBounds_toArray, List.set_cons_zero, List.set_cons_succ]
      refine wpAnyH_take (i := 2) (v := ?_) (by (simp only [List.getElem?_toArray, List.getElem?_cons_succ, List.getElem?_cons_zero]); try rfl) (by kernel_rfl) (by kernel_rfl) (by kernel_rfl) (fun _ _ _ h => h) (Or.inl ⟨by rfl, ?_⟩) (by assumption) ?_
      rotate_left
      · (intro w hSw; (try dsimp only at hSw); go_simp); try with_reducible rfl
      try simp only [Act.put, List.setIfInBounds_toArray, List.set_cons_zero, List.set_cons_succ]
      refine wpAnyH_take (i := 3) (v := ?_) (by (simp only [List.getElem?_toArray, List.getElem?_cons_succ, List.getElem?_cons_zero]); try rfl) (by kernel_rfl) (by kernel_rfl) (by kernel_rfl) (fun _ _ _ h => h) (Or.inl ⟨by rfl, ?_⟩) (by assumption) ?_
      rotate_left
      · (intro w hSw; (try dsimp only at hSw); go_simp); try with_reducible rfl
      try simp only [Act.put, List.setIfInBounds_toArray, List.set_cons_zero, List.set_cons_succ]
      refine wpAnyH_take (i := 5) (v := ?_) (by (simp only [List.getElem?_toArray, List.getElem?_cons_succ, List.getElem?_cons_zero]); try rfl) (by kernel_rfl) (by kernel_rfl) (by kernel_rfl) (fun _ _ _ h => h) (Or.inl ⟨by rfl, ?_⟩) (by assumption) ?_
      rotate_left
      · (intro w hSw; (try dsimp only at hSw); go_simp); try with_reducible rfl
      try simp only [Act.put, List.setIfInBounds_toArray, List.set_cons_zero, List.set_cons_succ]
      refine wpAnyH_take (i := 6) (v := ?_) (by (simp only [List.getElem?_toArray, List.getElem?_cons_succ, List.getElem?_cons_zero]); try rfl) (by kernel_rfl) (by kernel_rfl) (by kernel_rfl) (fun _ _ _ h => h) (Or.inl ⟨by rfl, ?_⟩) (by assumption) ?_
      rotate_left
      · (intro w hSw; (try dsimp only at hSw); go_simp); try with_reducible rfl
      try simp only [Act.put, List.setIfInBounds_toArray, List.set_cons_zero, List.set_cons_succ]
      refine wpAnyH_take (i := 7) (v := ?_) (by (simp only [List.getElem?_toArray, List.getElem?_cons_succ, List.getElem?_cons_zero]); try rfl) (by kernel_rfl) (by kernel_rfl) (by kernel_rfl) (fun _ _ _ h => h) (Or.inl ⟨by rfl, ?_⟩) (by assumption) ?_
      rotate_left
      · (intro w hSw; (try dsimp only at hSw); go_simp); try with_reducible rfl
      try simp only [Act.put, List.setIfInBounds_toArray, List.set_cons_zero, List.set_cons_succ]
      refine wpAnyH_take (i := 8) (v := ?_) (by (simp only [List.getElem?_toArray, List.getElem?_cons_succ, List.getElem?_cons_zero]); try rfl) (by kernel_rfl) (by kernel_rfl) (by kernel_rfl) (fun _ _ _ h => h) (Or.inl ⟨by rfl, ?_⟩) (by assumption) ?_
      rotate_left
      · (intro w hSw; (try dsimp only at hSw); go_simp); try with_reducible rfl
      try simp only [Act.put, List.setIfInBounds_toArray, List.set_cons_zero, List.set_cons_succ]
      refine wpAnyH_take (i := 9) (v := ?_) (by (simp only [List.getElem?_toArray, List.getElem?_cons_succ, List.getElem?_cons_zero]); try rfl) (by kernel_rfl) (by kernel_rfl) (by kernel_rfl) (fun _ _ _ h => h) (Or.inl ⟨by rfl, ?_⟩) (by assumption) ?_
      rotate_left
      · (intro w hSw; (try dsimp only at hSw); go_simp); try with_reducible rfl
      try simp only [Act.put, List.setIfInBounds_toArray, List.set_cons_zero, List.set_cons_succ]
      refine wpAnyH_take (i := 10) (v := ?_) (by (simp only [List.getElem?_toArray, List.getElem?_cons_succ, List.getElem?_cons_zero]); try rfl) (by kernel_rfl) (by kernel_rfl) (by kernel_rfl) (fun _ _ _ h => h) (Or.inl ⟨by rfl, ?_⟩) (by assumption) ?_
      rotate_left
      · (intro w hSw; (try dsimp only at hSw); go_simp); try with_reducible rfl
      try simp only [Act.put, List.setIfInBounds_toArray, List.set_cons_zero, List.set_cons_succ]
      refine wpAnyH_take (i := 11) (v := ?_) (by (simp only [List.getElem?_toArray, List.getElem?_cons_succ, List.getElem?_cons_zero]); try rfl) (by kernel_rfl) (by kernel_rfl) (by kernel_rfl) (fun _ _ _ h => h) (Or.inl ⟨by rfl, ?_⟩) (by assumption) ?_
      rotate_left
      · (intro w hSw; (try dsimp only at hSw); go_simp); try with_reducible rfl
      try simp only [Act.put, List.setIfInBounds_toArray, List.set_cons_zero, List.set_cons_succ]
      refine wpAnyH_take (i := 12) (v := ?_) (by (simp only [List.getElem?_toArray, List.getElem?_cons_succ, List.getElem?_cons_zero]); try rfl) (by kernel_rfl) (by kernel_rfl) (by kernel_rfl) (fun _ _ _ h => h) (Or.inl ⟨by rfl, ?_⟩) (by assumption) ?_
      rotate_left
      · (intro w hSw; (try dsimp only at hSw); go_simp); try with_reducible rfl
      try simp only [Act.put, List.setIfInBounds_toArray, List.set_cons_zero, List.set_cons_succ]
      refine wpAnyH_take (i := 13) (v := ?_) (by (simp only [List.getElem?_toArray, List.getElem?_cons_succ, List.getElem?_cons_zero]); try rfl) (by kernel_rfl) (by kernel_rfl) (by kernel_rfl) (fun _ _ _ h => h) (Or.inl ⟨by rfl, ?_⟩) (by assumption) ?_
      rotate_left
      · (intro w hSw; (try dsimp only at hSw); go_simp); try with_reducible rfl
      try simp only [Act.put, List.setIfInBounds_toArray, List.set_cons_zero, List.set_cons_succ]
      refine wpAnyH_ready (rs := [4, 14]) (by kernel_rfl) (by simp) ?_
      refine AllReadyH.cons (by (simp only [List.getElem?_toArray, List.getElem?_cons_succ, List.getElem?_cons_zero]); try rfl) (fun K hK => ?_) ?_
      · go_simp
        refine hK.out _ _ ?_ (fun hHeld => ?_)
        · (first | exact hE.out.drew | exact BoxEv.alloc hE.out.drew _ | exact s3 | exact s4)
        clear hK K
        try simp only [Act.put, List.setIfInBounds_toArray, List.set_cons_zero, List.set_cons_succ]
        refine wpAnyH_ready (rs := [14]) (by kernel_rfl) (by simp) ?_
        refine AllReadyH.cons (by (simp only [List.getElem?_toArray, List.getElem?_cons_succ, List.getElem?_cons_zero]); try rfl) (fun K hK => ?_) ?_
        · go_simp
          refine hK.out _ _ ?_ (fun hHeld => ?_)
          · (first | exact hE.out.drew | exact BoxEv.alloc hE.out.drew _ | exact s3 | exact s4)
          clear hK K
          try simp only [Act.put, List.setIfInBounds_toArray, List.set_cons_zero, List.set_cons_succ]
          refine wpAnyH_ready (rs := [15]) (by kernel_rfl) (by simp) ?_
          refine AllReadyH.cons (by (simp only [List.getElem?_toArray, List.getElem?_cons_succ, List.getElem?_cons_zero]); try rfl) (fun K hK => ?_) ?_
          · (refine step_append_lies _ (by rfl) _ _ _ (by rfl) B 42 i0 grZero 4 40 Tryz.underlying36 hi0 hz0 hz1 hz2 rfl (by decide) (.slice ga n gc) n (flatCs grCs Gs) (by rfl) (HO.out _)
              ⟨wc.heap.size, 0, none⟩ 1 1 (grCs (newGr e)) (by rfl) (by rfl) (World.news_of_block (cs := (grCs (newGr e)).toArray) (t := 42) (fr := (0, 0)) (heap_alloc_new wc.drew _)) (by simp [Value.oneCell', newGr])
              (by omega) (by unfold maxLen; omega) (by omega) (by simp; omega) (wc.heap.size + 1) (by simp) ?_; intro gg cap w1 hown1 hgrow hat hlt'; obtain ⟨s1, s2, s3, s4, s5, s6⟩ := step.out _ _ _ hown1 hgrow hat)
            refine hK.out _ _ ?_ (fun hHeld => ?_)
            · (first | exact hE.out.drew | exact BoxEv.alloc hE.out.drew _ | exact s3 | exact s4)
            clear hK K
            try simp only [Act.put, List.setIfInBounds_toArray, List.set_cons_zero, List.set_cons_succ]
            refine wpAnyH_take (i := 16) (v := ?_) (by (simp only [List.getElem?_toArray, List.getElem?_cons_succ, List.getElem?_cons_zero]); try rfl) (by kernel_rfl) (by kernel_rfl) (by kernel_rfl) (fun _ _ _ h => h) (Or.inl ⟨by rfl, ?_⟩) (by assumption) ?_
            rotate_left
            · (intro w hSw; (try dsimp only at hSw); go_simp); try with_reducible rfl
            try simp only [Act.put, List.setIfInBounds_toArray, List.set_cons_zero, List.set_cons_succ]
            refine wpAnyH_take (i := 17) (v := ?_) (by (simp only [List.getElem?_toArray, List.getElem?_cons_succ, List.getElem?_cons_zero]); try rfl) (by kernel_rfl) (by kernel_rfl) (by kernel_rfl) (fun _ _ _ h => h) (Or.inl ⟨by rfl, ?_⟩) (by assumption) ?_
            rotate_left
            · (intro w hSw; (try dsimp only at hSw); go_simp); try with_reducible rfl
            try simp only [Act.put, List.setIfInBounds_toArray, List.set_cons_zero, List.set_cons_succ]
            refine wpAnyH_ready (rs := [18]) (by kernel_rfl) (by simp) ?_
            refine AllReadyH.cons (by (simp only [List.getElem?_toArray, List.getElem?_cons_succ, List.getElem?_cons_zero]); try rfl) (fun K hK => ?_) ?_
            · go_simp
              refine hK.out _ _ ?_ (fun hHeld => ?_)
              · (first | exact hE.out.drew | exact BoxEv.alloc hE.out.drew _ | exact s3 | exact s4)
              clear hK K
              try simp only [Act.put, List.setIfInBounds_toArray, List.set_cons_zero, List.set_cons_succ]
              refine wpAnyH_done (by kernel_rfl) ?_ _
              refine NoPanic.normal ?_
              go_wp2_with fail
              go_ret
              obtain ⟨ev', s5⟩ := s5
              exact ⟨_, _, by rw [hR2.out (.int .i64 0)]; rfl, s5, by rw [hR2.out (.slice (some ⟨gg, 0, none⟩) (n + 1) cap)]; rfl, s6⟩
            exact AllReadyH.nil
          exact AllReadyH.nil
        exact AllReadyH.nil
      refine AllReadyH.cons (by (simp only [List.getElem?_toArray, List.getElem?_cons_succ, List.getElem?_cons_zero]); try rfl) (fun K hK => ?_) ?_
      · go_simp
        refine hK.out _ _ ?_ (fun hHeld => ?_)
        · (first | exact hE.out.drew | exact BoxEv.alloc hE.out.drew _ | exact s3 | exact s4)
        clear hK K
        try simp only [Act.put, List.setIfInBounds_toArray, List.set_cons_zero, List.set_cons_succ]
        refine wpAnyH_ready (rs := [4]) (by kernel_rfl) (by simp) ?_
        refine AllReadyH.cons (by (simp only [List.getElem?_toArray, List.getElem?_cons_succ, List.getElem?_cons_zero]); try rfl) (fun K hK => ?_) ?_
        · go_simp
          refine hK.out _ _ ?_ (fun hHeld => ?_)
          · (first | exact hE.out.drew | exact BoxEv.alloc hE.out.drew _ | exact s3 | exact s4)
          clear hK K
          try simp only [Act.put, List.setIfInBounds_toArray, List.set_cons_zero, List.set_cons_succ]
          refine wpAnyH_ready (rs := [15]) (by kernel_rfl) (by simp) ?_
          refine AllReadyH.cons (by (simp only [List.getElem?_toArray, List.getElem?_cons_succ, List.getElem?_cons_zero]); try rfl) (fun K hK => ?_) ?_
          · (refine step_append_lies _ (by rfl) _ _ _ (by rfl) B 42 i0 grZero 4 40 Tryz.underlying36 hi0 hz0 hz1 hz2 rfl (by decide) (.slice ga n gc) n (flatCs grCs Gs) (by rfl) (HO.out _)
              ⟨wc.heap.size, 0, none⟩ 1 1 (grCs (newGr e)) (by rfl) (by rfl) (World.news_of_block (cs := (grCs (newGr e)).toArray) (t := 42) (fr := (0, 0)) (heap_alloc_new wc.drew _)) (by simp [Value.oneCell', newGr])
              (by omega) (by unfold maxLen; omega) (by omega) (by simp; omega) (wc.heap.size + 1) (by simp) ?_; intro gg cap w1 hown1 hgrow hat hlt'; obtain ⟨s1, s2, s3, s4, s5, s6⟩ := step.out _ _ _ hown1 hgrow hat)
            refine hK.out _ _ ?_ (fun hHeld => ?_)
            · (first | exact hE.out.drew | exact BoxEv.alloc hE.out.drew _ | exact s3 | exact s4)
            clear hK K
            try simp only [Act.put, List.setIfInBounds_toArray, List.set_cons_zero, List.set_cons_succ]
            refine wpAnyH_take (i := 16) (v := ?_) (by (simp only [List.getElem?_toArray, List.getElem?_cons_succ, List.getElem?_cons_zero]); try rfl) (by kernel_rfl) (by kernel_rfl) (by kernel_rfl) (fun _ _ _ h => h) (Or.inl ⟨by rfl, ?_⟩) (by assumption) ?_
            rotate_left
            · (intro w hSw; (try dsimp only at hSw); go_simp); try with_reducible rfl
            try simp only [Act.put, List.setIfInBounds_toArray, List.set_cons_zero, List.set_cons_succ]
            refine wpAnyH_take (i := 17) (v := ?_) (by (simp only [List.getElem?_toArray, List.getElem?_cons_succ, List.getElem?_cons_zero]); try rfl) (by kernel_rfl) (by kernel_rfl) (by kernel_rfl) (fun _ _ _ h => h) (Or.inl ⟨by rfl, ?_⟩) (by assumption) ?_
            rotate_left
            · (intro w hSw; (try dsimp only at hSw); go_simp); try with_reducible rfl
            try simp only [Act.put, List.setIfInBounds_toArray, List.set_cons_zero, List.set_cons_succ]
            refine wpAnyH_ready (rs := [18]) (by kernel_rfl) (by simp) ?_
            refine AllReadyH.cons (by (simp only [List.getElem?_toArray, List.getElem?_cons_succ, List.getElem?_cons_zero]); try rfl) (fun K hK => ?_) ?_
            · go_simp
              refine hK.out _ _ ?_ (fun hHeld => ?_)
              · (first | exact hE.out.drew | exact BoxEv.alloc hE.out.drew _ | exact s3 | exact s4)
              clear hK K
              try simp only [Act.put, List.setIfInBounds_toArray, List.set_cons_zero, List.set_cons_succ]
              refine wpAnyH_done (by kernel_rfl) ?_ _
              refine NoPanic.normal ?_
              go_wp2_with fail
              go_ret
              obtain ⟨ev', s5⟩ := s5
              exact ⟨_, _, by rw [hR2.out (.int .i64 0)]; rfl, s5, by rw [hR2.out (.slice (some ⟨gg, 0, none⟩) (n + 1) cap)]; rfl, s6⟩
            exact AllReadyH.nil
          exact AllReadyH.nil
        exact AllReadyH.nil
      exact AllReadyH.nil
end Go.Proofs.YtnjiomggbafkmaaGreatDoor
