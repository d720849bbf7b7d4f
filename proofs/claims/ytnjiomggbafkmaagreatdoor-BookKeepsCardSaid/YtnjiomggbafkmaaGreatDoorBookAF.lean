/- Apply of package book. -/
import Derived.Test.YtnjiomggbafkmaaGreatDoorBookAE
import Derived.Laws.ResultCell
namespace Go.Proofs.YtnjiomggbafkmaaGreatDoor
open Go.RowKit Go.Lib

/-- The value is this book, all of it the call's own. -/
def OwnBook (B : Nat) (w : World) (v : Value) (b : Bk) : Prop := ∃ ev rows, v = .agg #[.int .i64 b.tick, ev] ∧ OwnEnts B w ev rows ∧ rows.map EnR.y = b.entries
theorem OwnBook.in_ {B : Nat} {w : World} {v : Value} {b : Bk} (h : OwnBook B w v b) : BookIn w v b := by
  obtain ⟨ev, rows, rfl, ho, hm⟩ := h
  exact ⟨ev, rfl, by rw [← hm]; exact ho.in_⟩
theorem OwnBook.zero (B : Nat) (w : World) : OwnBook B w (.agg #[.int .i64 0, .slice none 0 0]) Bk.empty := ⟨_, [], rfl, ⟨World.ownsRow_nil _ _ _ _, by simp, fun i j hi => by cases hi⟩, rfl⟩
theorem OwnEnts.mono {B B' : Nat} {w : World} {ev : Value} {rows : List EnR} (h : OwnEnts B w ev rows) (hb : B' ≤ B) : OwnEnts B' w ev rows := ⟨World.ownsRow.mono h.ents hb, fun r hr => ⟨World.ownsRow.mono (h.each r hr).1 hb, World.ownsRow.mono (h.each r hr).2 hb⟩, h.apart⟩
theorem OwnEnts.keep {B : Nat} {w w' : World} {ev : Value} {rows : List EnR} (h : OwnEnts B w ev rows) (hb : Below w.heap.size w w') : OwnEnts B w' ev rows := h.old hb
/-- What Apply keeps in hand. -/
def ApS (gb ge gr : Nat) (t : Int) (v : Value) (e : BEv) (w0 W : World) : Prop := Blk W gb 31 #[.int .i64 t, v] ∧ BoxEv ge e W ∧ Blk W gr 31 #[.int .i64 0, .slice none 0 0] ∧ Below w0.heap.size w0 W
theorem ApS.below {gb ge gr : Nat} {t : Int} {v : Value} {e : BEv} {w0 W W' : World} (h : ApS gb ge gr t v e w0 W) (hb : Below W.heap.size W W') : ApS gb ge gr t v e w0 W' := ⟨h.1.below hb, h.2.1.below hb, h.2.2.1.below hb, below_seq h.2.2.2 hb⟩

set_option maxHeartbeats 4000000 in
set_option maxRecDepth 100000 in
theorem Apply_walk (t : Int) (v : Value) (es : List BEn) (e : BEv) (w : World) (h : EntriesIn w v es) (hn : (rawEvs es).length ≤ 100000000) (hs : StrsOk es) (h1 : e.key.st.length ≤ 9223372036854775806) (h2 : e.key.ex.length ≤ 9223372036854775806) (h3 : e.text.length ≤ 9223372036854775806) :
    Calls Tryz.prog 14 #[.agg #[.int .i64 t, v], evV e] w fun z w' => ∃ vb, z = .returned (.tuple #[vb, .int .i64 (codeOf (applyR ⟨t, es⟩ e))]) ∧ OwnBook w.heap.size w' vb (outOf Bk.empty (applyR ⟨t, es⟩ e)) ∧ Below w.heap.size w w' := by
  obtain ⟨R, hR⟩ : ∃ R, R = applyR ⟨t, es⟩ e := ⟨_, rfl⟩
  rw [← hR]
  obtain ⟨a, c, rfl⟩ := h.form
  obtain ⟨n, hnl⟩ : ∃ n, n = es.length := ⟨_, rfl⟩
  rw [← hnl] at h ⊢
  have hA : ApS w.heap.size (w.heap.size + 1) (w.heap.size + 2) t (.slice a n c) e w (((w.alloc (.cells #[.int .i64 t, .slice a n c] 31)).alloc (.cells #[.int .i64 e.kind, .string (str e.key.st), .string (str e.key.ex), .int .i64 e.key.att, .int .i64 e.tick, .int .i64 e.ver, .int .i64 e.hun, .string (str e.text), .bool e.acc] 26)).alloc (.cells #[.int .i64 0, .slice none 0 0] 31)) := by
    have k1 := ((Blk.new w 31 #[.int .i64 t, .slice a n c]).alloc (.cells #[.int .i64 e.kind, .string (str e.key.st), .string (str e.key.ex), .int .i64 e.key.att, .int .i64 e.tick, .int .i64 e.ver, .int .i64 e.hun, .string (str e.text), .bool e.acc] 26)).alloc (.cells #[.int .i64 0, .slice none 0 0] 31)
    have k2 := (Blk.new (w.alloc (.cells #[.int .i64 t, .slice a n c] 31)) 26 #[.int .i64 e.kind, .string (str e.key.st), .string (str e.key.ex), .int .i64 e.key.att, .int .i64 e.tick, .int .i64 e.ver, .int .i64 e.hun, .string (str e.text), .bool e.acc]).alloc (.cells #[.int .i64 0, .slice none 0 0] 31)
    have k3 := Blk.new ((w.alloc (.cells #[.int .i64 t, .slice a n c] 31)).alloc (.cells #[.int .i64 e.kind, .string (str e.key.st), .string (str e.key.ex), .int .i64 e.key.att, .int .i64 e.tick, .int .i64 e.ver, .int .i64 e.hun, .string (str e.text), .bool e.acc] 26)) 31 #[.int .i64 0, .slice none 0 0]
    simp only [World.size_alloc] at k2 k3
    exact ⟨k1, k2, k3, (((Below.refl _ _).alloc (Nat.le_refl _) _).alloc (by simp) _).alloc (by simp; omega) _⟩
  have V := fun W (hW : Below w.heap.size w W) => valid_walk t (.slice a n c) es W (h.below hW) hn hs
  have VE := fun W => validEvent_walk e W h1 h2 h3
  obtain ⟨β, hβ⟩ : ∃ β, β = validB ⟨t, es⟩ := ⟨_, rfl⟩
  rw [← hβ] at V
  have H := Lib.hid h
  have HA := Lib.hid hA
  replace V := Lib.hid V
  replace VE := Lib.hid VE
  replace hR := Lib.hid hR
  replace hnl := Lib.hid hnl
  clear h hA
  obtain ⟨γ, hγ⟩ : ∃ γ, γ = evB e := ⟨_, rfl⟩
  rw [← hγ] at VE
  replace hγ := Lib.hid hγ
  replace hβ := Lib.hid hβ
  go_enter Tryz.func14, Tryz.ntmps14
  go_wp2_with fail
  refine (V.out _ HA.out.2.2.2).mono ?_
  rintro z w1 ⟨rfl, hb1⟩
  have hA1 := HA.out.below hb1
  clear HA hb1
  obtain ⟨B, hB⟩ : ∃ B, B = w.heap.size := ⟨_, rfl⟩
  rw [← hB] at hA1 ⊢
  replace hB := Lib.hid hB
  have q1 := hA1.1.cell
  have q2 := hA1.2.1.cells
  obtain ⟨e0, e1, e2, e3, e4, e5, e6, e7, e8⟩ := q2
  have q3 := hA1.2.2.1.cell
  have q4 := hA1.2.2.1.free
  have HA1 := Lib.hid hA1
  clear hA1
  cases β with
  | false =>
    have hRR := Lib.hid (show R = .error 1 by rw [hR.out]; unfold applyR; rw [if_neg (by rw [← hβ.out]; simp)])
    go_wp2_with fail
    have kf : Blk ((w1.setCell ⟨B + 1 + 1, 0, none⟩ (.int .i64 0)).setCell ⟨B + 1 + 1, 1, none⟩ (.slice none 0 0)) (B + 1 + 1) 31 #[.int .i64 0, .slice none 0 0] := by
      simpa using (HA1.out.2.2.1.set_ 0 (.int .i64 0)).set_ 1 (.slice none 0 0)
    have kc := kf.cell
    have hfb := Lib.hid ((HA1.out.2.2.2.setCell (show w.heap.size ≤ B + 1 + 1 by rw [hB.out]; omega) (.int .i64 0) (p := ⟨B + 1 + 1, 0, none⟩)).setCell (show w.heap.size ≤ B + 1 + 1 by rw [hB.out]; omega) (.slice none 0 0) (p := ⟨B + 1 + 1, 1, none⟩))
    refine bodyPost_ret (v := .tuple #[.agg #[.int .i64 0, .slice none 0 0], .int .i64 1]) (by rw [results_cell_tmp rfl]; go_simp) rfl ⟨_, by rw [hRR.out]; rfl, by rw [hRR.out]; exact OwnBook.zero _ _, hfb.out⟩
  | true =>
    go_wp2_with fail
    refine (VE.out _).mono ?_
    rintro z w2 ⟨rfl, hb2⟩
    have hA2 := HA1.out.below hb2
    clear q1 e0 e1 e2 e3 e4 e5 e6 e7 e8 q3 q4 hb2 HA1
    have q1 := hA2.1.cell
    obtain ⟨e0, e1, e2, e3, e4, e5, e6, e7, e8⟩ := hA2.2.1.cells
    have q3 := hA2.2.2.1.cell
    have q4 := hA2.2.2.1.free
    have HA2 := Lib.hid hA2
    clear hA2
    cases γ with
    | false =>
      have hRR := Lib.hid (show R = .error 1 by rw [hR.out]; unfold applyR; rw [if_neg (by rw [← hγ.out]; simp)])
      go_wp2_with fail
      have kf : Blk ((w2.setCell ⟨B + 1 + 1, 0, none⟩ (.int .i64 0)).setCell ⟨B + 1 + 1, 1, none⟩ (.slice none 0 0)) (B + 1 + 1) 31 #[.int .i64 0, .slice none 0 0] := by
        simpa using (HA2.out.2.2.1.set_ 0 (.int .i64 0)).set_ 1 (.slice none 0 0)
      have kc := kf.cell
      have hfb := Lib.hid ((HA2.out.2.2.2.setCell (show w.heap.size ≤ B + 1 + 1 by rw [hB.out]; omega) (.int .i64 0) (p := ⟨B + 1 + 1, 0, none⟩)).setCell (show w.heap.size ≤ B + 1 + 1 by rw [hB.out]; omega) (.slice none 0 0) (p := ⟨B + 1 + 1, 1, none⟩))
      refine bodyPost_ret (v := .tuple #[.agg #[.int .i64 0, .slice none 0 0], .int .i64 1]) (by rw [results_cell_tmp rfl]; go_simp) rfl ⟨_, by rw [hRR.out]; rfl, by rw [hRR.out]; exact OwnBook.zero _ _, hfb.out⟩
    | true =>
      have hRR := Lib.hid (show R = applyE ⟨t, es⟩ e by rw [hR.out]; unfold applyR; rw [if_pos ⟨hβ.out.symm, hγ.out.symm⟩])
      have hI := valid_inv hβ.out.symm
      have hkd : 0 ≤ e.kind ∧ e.kind ≤ 3 := by
        have h := hγ.out.symm
        unfold evB at h
        simp only [Bool.and_eq_true, decide_eq_true_eq] at h
        exact ⟨h.1.1.1.1.1.1, h.1.1.1.1.1.2⟩
      have hil : es.length ≤ 256 := hI.len
      have hiv : ∀ y ∈ es, y.grades.length ≤ 16 ∧ y.appeals.length ≤ 16 := hI.lens
      have hir : (rawEvs es).length ≤ 12544 := inv_raw hI
      have CL := clone_walk t (.slice a n c) es w2 (H.out.below HA2.out.2.2.2) (by omega) (fun y hy => by have := hiv y hy; omega)
      have HIV := Lib.hid hiv
      replace CL := Lib.hid CL
      clear hI hiv
      go_wp2_with fail
      refine CL.out.mono ?_
      rintro z w3 ⟨ev, rows, rfl, ho, hm, hb3⟩
      obtain ⟨a', c', rfl⟩ := own_slice' ho.ents
      have hA3 := HA2.out.below hb3
      have hA3b := hA3.below ((Below.refl _ _).alloc (Nat.le_refl _) (.cells #[.int .i64 t, .slice a' rows.length c'] 76))
      have hbld : OwnBld w2.heap.size (w3.alloc (.cells #[.int .i64 t, .slice a' rows.length c'] 76)) w3.heap.size t (.slice a' rows.length c') rows :=
        ⟨Blk.new w3 _ _, hb3.size, ho.old ((Below.refl _ _).alloc (Nat.le_refl _) _)⟩
      have hlt : B + 1 + 1 < w2.heap.size := HA2.out.2.2.1.lt
      have AP := apply_walk w2.heap.size w3.heap.size t (.slice a' rows.length c') rows e _ hbld (by rw [← List.length_map (f := EnR.y), hm]; exact hil) (fun r hr => by have := HIV.out r.y (by rw [← hm]; exact List.mem_map_of_mem hr); omega) (by rw [hm]; omega) hkd
      rw [hm] at AP
      obtain ⟨κ, hκ⟩ : ∃ κ, κ = codeOf R := ⟨_, rfl⟩
      rw [← hRR.out] at AP
      rw [← hκ] at AP
      replace hκ := Lib.hid hκ
      replace AP := Lib.hid AP
      clear q1 e0 e1 e2 e3 e4 e5 e6 e7 e8 q3 q4 HA2 hA3 hbld ho hm hb3
      obtain ⟨e0, e1, e2, e3, e4, e5, e6, e7, e8⟩ := hA3b.2.1.cells
      have HA3 := Lib.hid hA3b
      clear hA3b CL
      go_wp2_with fail
      refine AP.out.mono ?_
      rintro z w4 ⟨ev', rows', tick', rfl, ho', hm', hf'⟩
      have hA4 : ApS B (B + 1) (B + 1 + 1) t (.slice a n c) e w w4 := ⟨HA3.out.1.below' hf'.far (by omega), Blk.below' HA3.out.2.1 hf'.far (by omega), HA3.out.2.2.1.below' hf'.far hlt, HA3.out.2.2.2.trans (hf'.far.mono (show w.heap.size ≤ w2.heap.size by rw [← hB.out]; omega))⟩
      clear e0 e1 e2 e3 e4 e5 e6 e7 e8
      have q3 := hA4.2.2.1.cell
      have q4 := hA4.2.2.1.free
      have HA4 := Lib.hid hA4
      clear hA4
      cases R with
      | error q =>
        have hq : κ = q := hκ.out
        have hqp := applyE_pos hRR.out.symm
        have hne : (κ != 0) = true := by rw [bne_iff_ne, hq]; omega
        replace hq := Lib.hid hq
        clear ho' hm' hf'
        go_wp2_with fail
        have kf : Blk ((w4.setCell ⟨B + 1 + 1, 0, none⟩ (.int .i64 0)).setCell ⟨B + 1 + 1, 1, none⟩ (.slice none 0 0)) (B + 1 + 1) 31 #[.int .i64 0, .slice none 0 0] := by
          simpa using (HA4.out.2.2.1.set_ 0 (.int .i64 0)).set_ 1 (.slice none 0 0)
        have kc := kf.cell
        have hfb := Lib.hid ((HA4.out.2.2.2.setCell (show w.heap.size ≤ B + 1 + 1 by rw [hB.out]; omega) (.int .i64 0) (p := ⟨B + 1 + 1, 0, none⟩)).setCell (show w.heap.size ≤ B + 1 + 1 by rw [hB.out]; omega) (.slice none 0 0) (p := ⟨B + 1 + 1, 1, none⟩))
        refine bodyPost_ret (v := .tuple #[.agg #[.int .i64 0, .slice none 0 0], .int .i64 κ]) (by rw [results_cell_tmp rfl]; go_simp) rfl ⟨_, by rw [hq.out]; rfl, by exact OwnBook.zero _ _, hfb.out⟩
      | ok m2 =>
        have hq : κ = 0 := hκ.out
        subst hq
        have hm2 : (⟨tick', rows'.map EnR.y⟩ : Bk) = m2 := hm'
        subst hm2
        obtain ⟨a2, c2, rfl⟩ := own_slice' ho'.own.ents
        have g0 := ho'.blk.cell
        have HO := Lib.hid ho'
        clear ho' hm' hf'
        go_wp2_with fail
        have kf : Blk ((w4.setCell ⟨B + 1 + 1, 0, none⟩ (.int .i64 tick')).setCell ⟨B + 1 + 1, 1, none⟩ (.slice (a2) rows'.length c2)) (B + 1 + 1) 31 #[.int .i64 tick', .slice a2 rows'.length c2] := by
          simpa using (HA4.out.2.2.1.set_ 0 (.int .i64 tick')).set_ 1 (.slice a2 rows'.length c2)
        have kc := kf.cell
        have hfb := Lib.hid ((HA4.out.2.2.2.setCell (show w.heap.size ≤ B + 1 + 1 by rw [hB.out]; omega) (.int .i64 tick') (p := ⟨B + 1 + 1, 0, none⟩)).setCell (show w.heap.size ≤ B + 1 + 1 by rw [hB.out]; omega) (.slice a2 rows'.length c2) (p := ⟨B + 1 + 1, 1, none⟩))
        have hfo := Lib.hid (((HO.out.own.mono (show w.heap.size ≤ w2.heap.size by rw [← hB.out]; omega)).boxset HA4.out.2.2.1 (by decide) (by decide) (by decide) 0 (.int .i64 tick')).boxset (HA4.out.2.2.1.set_ 0 (.int .i64 tick')) (by decide) (by decide) (by decide) 1 (.slice a2 rows'.length c2))
        refine bodyPost_ret (v := .tuple #[.agg #[.int .i64 tick', .slice a2 rows'.length c2], .int .i64 0]) (by rw [results_cell_tmp rfl]; go_simp) rfl ⟨_, rfl, ⟨_, rows', rfl, hfo.out, rfl⟩, hfb.out⟩
end Go.Proofs.YtnjiomggbafkmaaGreatDoor
