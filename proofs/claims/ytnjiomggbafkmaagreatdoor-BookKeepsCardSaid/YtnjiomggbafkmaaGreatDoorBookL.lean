/- submit of package book. -/
import Derived.Test.YtnjiomggbafkmaaGreatDoorBookK
namespace Go.Proofs.YtnjiomggbafkmaaGreatDoor
open Go.RowKit Go.Lib

def codeOf {α : Type} : Except Int α → Int
  | .error c => c
  | .ok _ => 0
def outOf {α : Type} (x : α) : Except Int α → α
  | .error _ => x
  | .ok y => y
def submitR (es : List BEn) (e : BEv) : Except Int (List BEn) :=
  if e.key.att ≠ (countE es e.key : Int) + 1 then .error 9 else if 256 ≤ es.length then .error 8 else .ok (es ++ [⟨e.key, e.tick, e.text, [], []⟩])
/-- What a step of the builder leaves. -/
def BldPost (B G : Nat) (tick : Int) (w : World) (es : List BEn) (r : Except Int (List BEn)) (z : Ending) (w' : World) : Prop :=
  ∃ ev' rows', z = .returned (.int .i64 (codeOf r)) ∧ OwnBld B w' G tick ev' rows' ∧ rows'.map EnR.y = outOf es r ∧ Frm B w w'
theorem str_ne {a b : List UInt8} (h : a ≠ b) : ((str a).toList == (str b).toList) = false := by
  rw [beq_eq_false_iff_ne, toList_bs, toList_bs, bs_str, bs_str]; exact h
theorem countE_le (es : List BEn) (k : BKey) : countE es k ≤ es.length := List.countP_le_length
theorem countE_take {rows : List EnR} {k : Nat} (h : k < rows.length) (key : BKey) : countE ((rows.take (k + 1)).map EnR.y) key = countE ((rows.take k).map EnR.y) key + if decide (rows[k].y.key.st = key.st) && decide (rows[k].y.key.ex = key.ex) then 1 else 0 := by
  rw [take_snoc' rows k h, List.map_append]
  unfold countE
  rw [List.countP_append]
  simp [List.countP_cons]
/-- Block g is an event's box. -/
def BoxEv (g : Nat) (e : BEv) (W : World) : Prop := Blk W g 26 #[.int .i64 e.kind, .string (str e.key.st), .string (str e.key.ex), .int .i64 e.key.att, .int .i64 e.tick, .int .i64 e.ver, .int .i64 e.hun, .string (str e.text), .bool e.acc]
theorem BoxEv.below {g : Nat} {e : BEv} {W W' : World} (h : BoxEv g e W) (hb : Below W.heap.size W W') : BoxEv g e W' := Blk.below h hb
theorem BoxEv.drew {g : Nat} {e : BEv} {W : World} (h : BoxEv g e W) : BoxEv g e W.drew := h
theorem BoxEv.alloc {g : Nat} {e : BEv} {W : World} (h : BoxEv g e W) (o : Obj) : BoxEv g e (W.alloc o) := Blk.alloc h o
theorem BoxEv.lt {g : Nat} {e : BEv} {W : World} (h : BoxEv g e W) : g < W.heap.size := Blk.lt h
theorem BoxEv.cells {g : Nat} {e : BEv} {W : World} (h : BoxEv g e W) : W.cell? ⟨g, 0, none⟩ = some (.int .i64 e.kind) ∧ W.cell? ⟨g, 1, none⟩ = some (.string (str e.key.st)) ∧ W.cell? ⟨g, 2, none⟩ = some (.string (str e.key.ex)) ∧ W.cell? ⟨g, 3, none⟩ = some (.int .i64 e.key.att) ∧
    W.cell? ⟨g, 4, none⟩ = some (.int .i64 e.tick) ∧ W.cell? ⟨g, 5, none⟩ = some (.int .i64 e.ver) ∧ W.cell? ⟨g, 6, none⟩ = some (.int .i64 e.hun) ∧ W.cell? ⟨g, 7, none⟩ = some (.string (str e.text)) ∧ W.cell? ⟨g, 8, none⟩ = some (.bool e.acc) :=
  ⟨Blk.cell h 0, Blk.cell h 1, Blk.cell h 2, Blk.cell h 3, Blk.cell h 4, Blk.cell h 5, Blk.cell h 6, Blk.cell h 7, Blk.cell h 8⟩
theorem BoxEv.rules (g : Nat) (e : BEv) : (∀ W, BoxEv g e W → W.cell? ⟨g, 0, none⟩ = some (.int .i64 e.kind)) ∧ (∀ W, BoxEv g e W → W.cell? ⟨g, 1, none⟩ = some (.string (str e.key.st))) ∧ (∀ W, BoxEv g e W → W.cell? ⟨g, 2, none⟩ = some (.string (str e.key.ex))) ∧ (∀ W, BoxEv g e W → W.cell? ⟨g, 3, none⟩ = some (.int .i64 e.key.att)) ∧
    (∀ W, BoxEv g e W → W.cell? ⟨g, 4, none⟩ = some (.int .i64 e.tick)) ∧ (∀ W, BoxEv g e W → W.cell? ⟨g, 5, none⟩ = some (.int .i64 e.ver)) ∧ (∀ W, BoxEv g e W → W.cell? ⟨g, 6, none⟩ = some (.int .i64 e.hun)) ∧ (∀ W, BoxEv g e W → W.cell? ⟨g, 7, none⟩ = some (.string (str e.text))) ∧ (∀ W, BoxEv g e W → W.cell? ⟨g, 8, none⟩ = some (.bool e.acc)) :=
  ⟨fun _ h => h.cells.1, fun _ h => h.cells.2.1, fun _ h => h.cells.2.2.1, fun _ h => h.cells.2.2.2.1, fun _ h => h.cells.2.2.2.2.1, fun _ h => h.cells.2.2.2.2.2.1, fun _ h => h.cells.2.2.2.2.2.2.1, fun _ h => h.cells.2.2.2.2.2.2.2.1, fun _ h => h.cells.2.2.2.2.2.2.2.2⟩

def enZero : Value := .agg #[.string ⟨#[]⟩, .string ⟨#[]⟩, .int .i64 0, .int .i64 0, .string ⟨#[]⟩, .slice none 0 0, .slice none 0 0]
theorem infoEn : (Tryz.prog.info? 39).map (fun i => (i.zero, i.size, i.bytes)) = some (some enZero, 7, 112) := by kernel_rfl
/-- The row of what a submission puts in. -/
def newEn (e : BEv) : EnR := ⟨⟨e.key, e.tick, e.text, [], []⟩, .slice none 0 0, .slice none 0 0⟩
theorem OwnBld.pushW {B G ge c : Nat} {w w1 : World} {tick : Int} {a : Option Addr} {rows : List EnR} {e : BEv} {gg cap : Nat} (h : OwnBld B w G tick (.slice a rows.length c) rows) (hk : BoxEv ge e w) {o : Obj}
    (h1 : w1.ownsRow B 39 7 (.slice (some ⟨gg, 0, none⟩) (rows.length + 1) cap) (rows.length + 1) (flatCs enCs rows ++ enCs (newEn e))) (hg : (w.drew.alloc o).grownBy w1 (Value.slice a rows.length c).ownBlock) {w0 : World} (hB : Frm B w0 w) :
    w1.cell? ⟨G, 1, none⟩ = some (.slice a rows.length c) ∧ w1.frozen? ⟨G, 1, none⟩ = false ∧ BoxEv ge e w1 ∧ BoxEv ge e (w1.setCell ⟨G, 1, none⟩ (.slice (some ⟨gg, 0, none⟩) (rows.length + 1) cap)) ∧
    OwnBld B (w1.setCell ⟨G, 1, none⟩ (.slice (some ⟨gg, 0, none⟩) (rows.length + 1) cap)) G tick (.slice (some ⟨gg, 0, none⟩) (rows.length + 1) cap) (rows ++ [newEn e]) ∧ Frm B w0 (w1.setCell ⟨G, 1, none⟩ (.slice (some ⟨gg, 0, none⟩) (rows.length + 1) cap)) := by
  have h0 := h.drew.alloc o
  have hblk := h0.blk.grown hg (fun e => own_blk_ne h0.own.ents h0.blk (by decide) e.symm)
  have hE0 : BoxEv ge e (w.drew.alloc o) := hk.drew.alloc o
  have hE1 : BoxEv ge e w1 := Blk.grown hE0 hg (fun e => own_blk_ne h0.own.ents hE0 (by decide) e.symm)
  have hne : ge ≠ G := Blk.ne_ hE1 hblk (by decide)
  have hBG := h.le
  have hGl := h.blk.lt
  refine ⟨hblk.cell 1, hblk.free 1, hE1, Blk.far hE1 hne _, h0.push h1 hg ⟨rfl, rfl, rfl, rfl⟩, ?_⟩
  refine hB.step ((((Below.refl B w).drew.alloc (by show B ≤ w.heap.size; omega) o).grown hg (by simp; omega) (fun q hq => (h.own.ents.lt q hq).1)).setCell hBG _) fun g T cs a1 a2 a3 a4 hb => ?_
  have hb0 : Blk (w.drew.alloc o) g T cs := hb.drew.alloc o
  have hb1 := hb0.grown hg (fun e => own_blk_ne h0.own.ents hb0 (fun e => a1 e.symm) e.symm)
  exact hb1.far (fun e => Blk.ne_ hb1 hblk a4 e) _
set_option maxHeartbeats 4000000 in
set_option maxRecDepth 100000 in
theorem submit_walk (B G : Nat) (tick : Int) (ev : Value) (rows : List EnR) (e : BEv) (p : Value) (w : World) (h : OwnBld B w G tick ev rows) (hlen : rows.length ≤ 256) :
    Calls Tryz.prog 76 #[.pointer (some ⟨G, 0, none⟩), evV e, p] w (BldPost B G tick w (rows.map EnR.y) (submitR (rows.map EnR.y) e)) := by
  obtain ⟨i0, hi, hz0, hz1, hz2⟩ := info_parts infoEn
  have hGl := h.blk.lt
  have hin := (RowsIn.of_own enCs_len (by decide) h.own.ents).1
  obtain ⟨a, c, rfl⟩ := own_slice' h.own.ents
  have h1 := h.alloc (.cells #[.int .i64 e.kind, .string (str e.key.st), .string (str e.key.ex), .int .i64 e.key.att, .int .i64 e.tick, .int .i64 e.ver, .int .i64 e.hun, .string (str e.text), .bool e.acc] 26)
  have hK := Blk.new w 26 #[.int .i64 e.kind, .string (str e.key.st), .string (str e.key.ex), .int .i64 e.key.att, .int .i64 e.tick, .int .i64 e.ver, .int .i64 e.hun, .string (str e.text), .bool e.acc]
  have hG1 := h1.blk.cell
  have hf1 := h1.blk.free
  have hB0 : Frm B w (w.alloc (.cells #[.int .i64 e.kind, .string (str e.key.st), .string (str e.key.ex), .int .i64 e.key.att, .int .i64 e.tick, .int .i64 e.ver, .int .i64 e.hun, .string (str e.text), .bool e.acc] 26)) := (Frm.refl (by have := h.le; omega)).alloc _
  obtain ⟨N, hN⟩ : ∃ N, N = countE (rows.map EnR.y) e.key := ⟨_, rfl⟩
  have hNle : N ≤ 256 := by rw [hN]; exact Nat.le_trans (countE_le _ _) (by rw [List.length_map]; exact hlen)
  obtain ⟨R, hR⟩ : ∃ R, R = submitR (rows.map EnR.y) e := ⟨_, rfl⟩
  rw [← hR]
  replace hR := Lib.hid hR
  replace hN := Lib.hid hN
  have H1 := Lib.hid h1
  have HK := Lib.hid hK
  have HI := Lib.hid hin
  have HB0 := Lib.hid hB0
  clear h h1 hK hin hB0
  go_enter Tryz.func76, Tryz.ntmps76
  go_wp2_with fail
  obtain ⟨ge, hge⟩ : ∃ ge, ge = w.heap.size := ⟨_, rfl⟩
  obtain ⟨W0, hW0⟩ : ∃ W0, W0 = w.alloc (.cells #[.int .i64 e.kind, .string (str e.key.st), .string (str e.key.ex), .int .i64 e.key.att, .int .i64 e.tick, .int .i64 e.ver, .int .i64 e.hun, .string (str e.text), .bool e.acc] 26) := ⟨_, rfl⟩
  rw [← hW0] at H1 HK HB0 hG1 hf1 ⊢
  rw [← hge] at HK hGl ⊢
  clear hge hW0
  have HI : Hid (RowsIn enCs 7 W0 (.slice a rows.length c) rows) := Lib.hid (RowsIn.of_own enCs_len (by decide) H1.out.own.ents).1
  go_loopw [7, 16] (fun v7 v16 wr => ∃ k : Nat, k ≤ rows.length ∧ v16 = .int .i64 k ∧ v7 = .int .i64 (countE ((rows.take k).map EnR.y) e.key) ∧ Hid (Below W0.heap.size W0 wr)) (fun _ i _ => rows.length - (RowKit.intOf i).toNat)
  case atStart => exact ⟨0, Nat.zero_le _, rfl, rfl, Lib.hid (Below.refl _ _)⟩
  case round =>
    obtain ⟨k, hk, rfl, rfl, hB⟩ := hrel
    have hKr := (HK.out.below hB.out).cell
    have hKl := (HK.out.below hB.out).lt
    by_cases hlt : k < rows.length
    · obtain ⟨b, off, rfl, hb, hr⟩ := (show ∃ b off, a = some ⟨b, off, none⟩ ∧ b < W0.heap.size ∧ RowsAt enCs 7 W0 b off rows by
        obtain ⟨a', c', e1, _, e2⟩ := HI.out
        obtain ⟨b, off, e3, e4, e5⟩ := e2 (by intro e0; rw [e0] at hlt; cases hlt)
        have : a = a' := by injection e1
        exact ⟨b, off, this.trans e3, e4, e5⟩)
      obtain ⟨c0, c1, c2, c3, c4, c5, c6⟩ := en_cells (hr.below hB.out hb) k hlt
      have hcnt := countE_take hlt e.key
      have hcl : countE ((rows.take k).map EnR.y) e.key ≤ 256 := by refine Nat.le_trans (countE_le _ _) ?_; rw [List.length_map, List.length_take]; omega
      obtain ⟨ga, gc, hgv⟩ := own_slice' (H1.out.own.each _ (List.getElem_mem hlt)).1
      obtain ⟨aa, ac, hav⟩ := own_slice' (H1.out.own.each _ (List.getElem_mem hlt)).2
      rw [hgv] at c5
      rw [hav] at c6
      clear hgv hav
      obtain ⟨q, hq⟩ : ∃ q, q = countE ((rows.take k).map EnR.y) e.key := ⟨_, rfl⟩
      rw [← hq] at hcnt hcl ⊢
      obtain ⟨r, hrk⟩ : ∃ r, r = rows[k] := ⟨_, rfl⟩
      rw [← hrk] at c0 c1 c2 c3 c4 c5 c6 hcnt
      obtain ⟨gl, hgl⟩ : ∃ gl, gl = r.y.grades.length := ⟨_, rfl⟩
      obtain ⟨al, hal⟩ : ∃ al, al = r.y.appeals.length := ⟨_, rfl⟩
      rw [← hgl] at c5
      rw [← hal] at c6
      clear hgl hal
      replace hcnt := Lib.hid hcnt
      clear hrk hr hq
      have hB2 := Lib.hid (below_seq hB.out ((Below.refl _ _).alloc (Nat.le_refl _) (.cells #[.string (str r.y.key.st), .string (str r.y.key.ex), .int .i64 r.y.key.att, .int .i64 r.y.tick, .string (str r.y.text), .slice ga gl gc, .slice aa al ac] 39)))
      have hne : ¬ (ge = wr.heap.size) := by omega
      by_cases hst : r.y.key.st = e.key.st
      · by_cases hex : r.y.key.ex = e.key.ex
        · have hc2 := hcnt.out
          rw [if_pos (by simp [hst, hex])] at hc2
          replace hc2 := Lib.hid hc2
          rw [hst, hex] at hB2
          rw [hst] at c0
          rw [hex] at c1
          clear hst hex
          go_wp2_with fail
          exact ⟨⟨k + 1, by omega, by go_num, by rw [hc2.out]; rfl, hB2⟩, by simp [RowKit.intOf]; omega⟩
        · have hc2 := hcnt.out
          rw [if_neg (by simp [hex])] at hc2
          replace hc2 := Lib.hid hc2
          rw [hst] at hB2 c0
          have b1 := str_ne hex
          clear hst
          go_wp2_with fail
          exact ⟨⟨k + 1, by omega, by go_num, by rw [hc2.out]; rfl, hB2⟩, by simp [RowKit.intOf]; omega⟩
      · have hc2 := hcnt.out
        rw [if_neg (by simp [hst])] at hc2
        replace hc2 := Lib.hid hc2
        have b1 := str_ne hst
        go_wp2_with fail
        exact ⟨⟨k + 1, by omega, by go_num, by rw [hc2.out]; rfl, hB2⟩, by simp [RowKit.intOf]; omega⟩
    · have hkk : k = rows.length := by omega
      subst hkk
      rw [List.take_length, ← hN.out]
      clear hlt
      have HW := Lib.hid (H1.out.old hB.out)
      have hGw := HW.out.blk.cell
      have hFw := HW.out.blk.free
      have HBw := Lib.hid (HB0.out.below hB.out)
      clear hG1 hf1
      by_cases hatt : e.key.att = (N : Int) + 1
      · by_cases hl : 256 ≤ rows.length
        · have hR2 : R = .error 8 := by rw [hR.out]; unfold submitR; rw [if_neg (by rw [← hN.out]; exact fun h => h hatt), if_pos (by rw [List.length_map]; exact hl)]
          replace hR2 := Lib.hid hR2
          go_wp2_with fail
          go_ret
          exact ⟨_, _, by rw [hR2.out]; rfl, HW.out, by rw [hR2.out]; rfl, HBw.out⟩
        · have hR2 : R = .ok (rows.map EnR.y ++ [⟨e.key, e.tick, e.text, [], []⟩]) := by rw [hR.out]; unfold submitR; rw [if_neg (by rw [← hN.out]; exact fun h => h hatt), if_neg (by rw [List.length_map]; exact hl)]
          replace hR2 := Lib.hid hR2
          have hKB : Hid (BoxEv ge e wr) := Lib.hid (HK.out.below hB.out)
          have hdn : (e.key.att != (N : Int) + 1) = false := by rw [bne_eq_false_iff_eq]; exact hatt
          clear hatt
          go_wp2_with fail
          clear hKr
          obtain ⟨c0, c1, c2, c3, c4, c5, c6, c7, c8⟩ := BoxEv.rules ge e
          have step := fun gg cap w1 h1 hg => HW.out.pushW (w1 := w1) (gg := gg) (cap := cap) hKB.out (o := .cells #[.string (str e.key.st), .string (str e.key.ex), .int .i64 e.key.att, .int .i64 e.tick, .string (str e.text), .slice none 0 0, .slice none 0 0] 39) h1 hg HBw.out
          replace step := Lib.hid step
          have hszr : B ≤ wr.heap.size := by have := HW.out.blk.lt; have := HW.out.le; omega
          have hGa : ∀ o, (wr.alloc o).cell? ⟨G, 1, none⟩ = some (.slice a rows.length c) := fun o => (HW.out.alloc o).blk.cell 1
          refine wp_region_noPanic ?_
          refine wp_region_held_drew (S := BoxEv ge e) (by kernel_rfl) (hKB.out.drew) (fun hHeld => ?_)
          refine wpAnyH_take (i := 0) (v := ?_) (by (simp only [List.getElem?_toArray, List.getElem?_cons_zero]); try rfl) (by kernel_rfl) (by kernel_rfl) (by kernel_rfl) (fun _ _ _ h => h) (Or.inl ⟨by rfl, ?_⟩) (by assumption) ?_
          rotate_left
          · (intro w hSw; (try dsimp only at hSw); go_simp); try with_reducible rfl
          try simp only [Act.put, List.setIfInBounds_toArray, List.set_cons_zero, List.set_cons_succ]
          refine wpAnyH_take (i := 1) (v := ?_) (by (simp only [List.getElem?_toArray, List.getElem?_cons_succ, List.getElem?_cons_zero]); try rfl) (by kernel_rfl) (by kernel_rfl) (by kernel_rfl) (fun _ _ _ h => h) (Or.inl ⟨by rfl, ?_⟩) (by assumption) ?_
          rotate_left
          · (intro w hSw; (try dsimp only at hSw); go_simp); try with_reducible rfl
          try simp only [Act.put, List.setIfInBounds_toArray, List.set_cons_zero, List.set_cons_succ]
          refine wpAnyH_take (i := 2) (v := ?_) (by (simp only [List.getElem?_toArray, List.getElem?_cons_succ, List.getElem?_cons_zero]); try rfl) (by kernel_rfl) (by kernel_rfl) (by kernel_rfl) (fun _ _ _ h => h) (Or.inl ⟨by rfl, ?_⟩) (by assumption) ?_
          rotate_left
          · (intro w hSw; (try dsimp only at hSw); go_simp); try with_reducible rfl
          try simp only [Act.put, List.setIfInBounds_toArray, List.set_cons_zero, List.set_cons_succ]
          refine wpAnyH_take (i := 3) (v := ?_) (by (simp only [List.getElem?_toArray, List.getElem?_cons_succ, List.getElem?_cons_zero]); try rfl) (by kernel_rfl) (by kernel_rfl) (by kernel_rfl) (fun _ _ _ h => h) (Or.inl ⟨by rfl, ?_⟩) (by assumption) ?_
          rotate_left
          · (intro w hSw; (try dsimp only at hSw); go_simp); try with_reducible rfl
          try simp only [Act.put, List.setIfInBounds_toArray, List.set_cons_zero, List.set_cons_succ]
          refine wpAnyH_take (i := 4) (v := ?_) (by (simp only [List.getElem?_toArray, List.getElem?_cons_succ, List.getElem?_cons_zero]); try rfl) (by kernel_rfl) (by kernel_rfl) (by kernel_rfl) (fun _ _ _ h => h) (Or.inl ⟨by rfl, ?_⟩) (by assumption) ?_
          rotate_left
          · (intro w hSw; (try dsimp only at hSw); go_simp); try with_reducible rfl
          try simp only [Act.put, List.setIfInBounds_toArray, List.set_cons_zero, List.set_cons_succ]
          refine wpAnyH_take (i := 6) (v := ?_) (by (simp only [List.getElem?_toArray, List.getElem?_cons_succ, List.getElem?_cons_zero]); try rfl) (by kernel_rfl) (by kernel_rfl) (by kernel_rfl) (fun _ _ _ h => h) (Or.inl ⟨by rfl, ?_⟩) (by assumption) ?_
          rotate_left
          · (intro w hSw; (try dsimp only at hSw); go_simp); try with_reducible rfl
          try simp only [Act.put, List.setIfInBounds_toArray, List.set_cons_zero, List.set_cons_succ]
          refine wpAnyH_take (i := 7) (v := ?_) (by (simp only [List.getElem?_toArray, List.getElem?_cons_succ, List.getElem?_cons_zero]); try rfl) (by kernel_rfl) (by kernel_rfl) (by kernel_rfl) (fun _ _ _ h => h) (Or.inl ⟨by rfl, ?_⟩) (by assumption) ?_
          rotate_left
          · (intro w hSw; (try dsimp only at hSw); go_simp); try with_reducible rfl
          try simp only [Act.put, List.setIfInBounds_toArray, List.set_cons_zero, List.set_cons_succ]
          refine wpAnyH_take (i := 8) (v := ?_) (by (simp only [List.getElem?_toArray, List.getElem?_cons_succ, List.getElem?_cons_zero]); try rfl) (by kernel_rfl) (by kernel_rfl) (by kernel_rfl) (fun _ _ _ h => h) (Or.inl ⟨by rfl, ?_⟩) (by assumption) ?_
          rotate_left
          · (intro w hSw; (try dsimp only at hSw); go_simp); try with_reducible rfl
          try simp only [Act.put, List.setIfInBounds_toArray, List.set_cons_zero, List.set_cons_succ]
          refine wpAnyH_take (i := 9) (v := ?_) (by (simp only [List.getElem?_toArray, List.getElem?_cons_succ, List.getElem?_cons_zero]); try rfl) (by kernel_rfl) (by kernel_rfl) (by kernel_rfl) (fun _ _ _ h => h) (Or.inl ⟨by rfl, ?_⟩) (by assumption) ?_
          rotate_left
          · (intro w hSw; (try dsimp only at hSw); go_simp); try with_reducible rfl
          try simp only [Act.put, List.setIfInBounds_toArray, List.set_cons_zero, List.set_cons_succ]
          refine wpAnyH_take (i := 10) (v := ?_) (by (simp only [List.getElem?_toArray, List.getElem?_cons_succ, List.getElem?_cons_zero]); try rfl) (by kernel_rfl) (by kernel_rfl) (by kernel_rfl) (fun _ _ _ h => h) (Or.inl ⟨by rfl, ?_⟩) (by assumption) ?_
          rotate_left
          · (intro w hSw; (try dsimp only at hSw); go_simp); try with_reducible rfl
          try simp only [Act.put, List.setIfInBounds_toArray, List.set_cons_zero, List.set_cons_succ]
          refine wpAnyH_take (i := 11) (v := ?_) (by (simp only [List.getElem?_toArray, List.getElem?_cons_succ, List.getElem?_cons_zero]); try rfl) (by kernel_rfl) (by kernel_rfl) (by kernel_rfl) (fun _ _ _ h => h) (Or.inl ⟨by rfl, ?_⟩) (by assumption) ?_
          rotate_left
          · (intro w hSw; (try dsimp only at hSw); go_simp); try with_reducible rfl
          try simp only [Act.put, List.setIfInBounds_toArray, List.set_cons_zero, List.set_cons_succ]
          refine wpAnyH_take (i := 12) (v := ?_) (by (simp only [List.getElem?_toArray, List.getElem?_cons_succ, List.getElem?_cons_zero]); try rfl) (by kernel_rfl) (by kernel_rfl) (by kernel_rfl) (fun _ _ _ h => h) (Or.inl ⟨by rfl, ?_⟩) (by assumption) ?_
          rotate_left
          · (intro w hSw; (try dsimp only at hSw); go_simp); try with_reducible rfl
          try simp only [Act.put, List.setIfInBounds_toArray, List.set_cons_zero, List.set_cons_succ]
          refine wpAnyH_ready (rs := [5, 13]) (by kernel_rfl) (by simp) ?_
          refine AllReadyH.cons (by (simp only [List.getElem?_toArray, List.getElem?_cons_succ, List.getElem?_cons_zero]); try rfl) (fun K hK => ?_) ?_
          · go_simp
            refine hK.out _ _ ?_ (fun hHeld => ?_)
            · (first | exact hKB.out.drew | exact BoxEv.alloc hKB.out.drew _ | exact s3 | exact s4)
            clear hK K
            try simp only [Act.put, List.setIfInBounds_toArray, List.set_cons_zero, List.set_cons_succ]
            refine wpAnyH_ready (rs := [13]) (by kernel_rfl) (by simp) ?_
            refine AllReadyH.cons (by (simp only [List.getElem?_toArray, List.getElem?_cons_succ, List.getElem?_cons_zero]); try rfl) (fun K hK => ?_) AllReadyH.nil
            go_simp
            refine hK.out _ _ ?_ (fun hHeld => ?_)
            · (first | exact hKB.out.drew | exact BoxEv.alloc hKB.out.drew _ | exact s3 | exact s4)
            clear hK K
            try simp only [Act.put, List.setIfInBounds_toArray, List.set_cons_zero, List.set_cons_succ]
            refine wpAnyH_ready (rs := [14]) (by kernel_rfl) (by simp) ?_
            refine AllReadyH.cons (by (simp only [List.getElem?_toArray, List.getElem?_cons_succ, List.getElem?_cons_zero]); try rfl) (fun K hK => ?_) AllReadyH.nil
            (refine step_append_lies _ (by rfl) _ _ _ (by rfl) B 39 i0 enZero 7 112 Tryz.underlying29 hi hz0 hz1 hz2 rfl (by decide) (.slice a rows.length c) rows.length (flatCs enCs rows) (by rfl) (HW.out.drew.alloc _).own.ents
              ⟨wr.heap.size, 0, none⟩ 1 1 (enCs (newEn e)) (by rfl) (by rfl) (World.news_of_block (cs := (enCs (newEn e)).toArray) (t := 39) (fr := (0, 0)) (heap_alloc_new wr.drew _)) (by simp [Value.oneCell', newEn])
              (by omega) (by unfold maxLen; omega) (by omega) (by simp; omega) (wr.heap.size + 1) (by simp) ?_; intro gg cap w1 hown1 hgrow hat hlt'; obtain ⟨s1, s2, s3, s4, s5, s6⟩ := step.out _ _ _ hown1 hgrow)
            refine hK.out _ _ ?_ (fun hHeld => ?_)
            · (first | exact hKB.out.drew | exact BoxEv.alloc hKB.out.drew _ | exact s3 | exact s4)
            clear hK K
            try simp only [Act.put, List.setIfInBounds_toArray, List.set_cons_zero, List.set_cons_succ]
            refine wpAnyH_take (i := 15) (v := ?_) (by (simp only [List.getElem?_toArray, List.getElem?_cons_succ, List.getElem?_cons_zero]); try rfl) (by kernel_rfl) (by kernel_rfl) (by kernel_rfl) (fun _ _ _ h => h) (Or.inl ⟨by rfl, ?_⟩) (by assumption) ?_
            rotate_left
            · (intro w hSw; (try dsimp only at hSw); go_simp); try with_reducible rfl
            try simp only [Act.put, List.setIfInBounds_toArray, List.set_cons_zero, List.set_cons_succ]
            refine wpAnyH_take (i := 16) (v := ?_) (by (simp only [List.getElem?_toArray, List.getElem?_cons_succ, List.getElem?_cons_zero]); try rfl) (by kernel_rfl) (by kernel_rfl) (by kernel_rfl) (fun _ _ _ h => h) (Or.inl ⟨by rfl, ?_⟩) (by assumption) ?_
            rotate_left
            · (intro w hSw; (try dsimp only at hSw); go_simp); try with_reducible rfl
            try simp only [Act.put, List.setIfInBounds_toArray, List.set_cons_zero, List.set_cons_succ]
            refine wpAnyH_take (i := 17) (v := ?_) (by (simp only [List.getElem?_toArray, List.getElem?_cons_succ, List.getElem?_cons_zero]); try rfl) (by kernel_rfl) (by kernel_rfl) (by kernel_rfl) (fun _ _ _ h => h) (Or.inl ⟨by rfl, ?_⟩) (by assumption) ?_
            rotate_left
            · (intro w hSw; (try dsimp only at hSw); go_simp); try with_reducible rfl
            try simp only [Act.put, List.setIfInBounds_toArray, List.set_cons_zero, List.set_cons_succ]
            refine wpAnyH_ready (rs := [18]) (by kernel_rfl) (by simp) ?_
            refine AllReadyH.cons (by (simp only [List.getElem?_toArray, List.getElem?_cons_succ, List.getElem?_cons_zero]); try rfl) (fun K hK => ?_) AllReadyH.nil
            go_simp
            refine hK.out _ _ ?_ (fun hHeld => ?_)
            · (first | exact hKB.out.drew | exact BoxEv.alloc hKB.out.drew _ | exact s3 | exact s4)
            clear hK K
            try simp only [Act.put, List.setIfInBounds_toArray, List.set_cons_zero, List.set_cons_succ]
            refine wpAnyH_done (by kernel_rfl) ?_ _
            refine NoPanic.normal ?_
            go_wp2_with fail
            go_ret
            exact ⟨_, _, by rw [hR2.out]; rfl, s5, by rw [hR2.out, List.map_append]; rfl, s6⟩
          refine AllReadyH.cons (by (simp only [List.getElem?_toArray, List.getElem?_cons_succ, List.getElem?_cons_zero]); try rfl) (fun K hK => ?_) AllReadyH.nil
          go_simp
          refine hK.out _ _ ?_ (fun hHeld => ?_)
          · (first | exact hKB.out.drew | exact BoxEv.alloc hKB.out.drew _ | exact s3 | exact s4)
          clear hK K
          try simp only [Act.put, List.setIfInBounds_toArray, List.set_cons_zero, List.set_cons_succ]
          refine wpAnyH_ready (rs := [5]) (by kernel_rfl) (by simp) ?_
          refine AllReadyH.cons (by (simp only [List.getElem?_toArray, List.getElem?_cons_succ, List.getElem?_cons_zero]); try rfl) (fun K hK => ?_) AllReadyH.nil
          go_simp
          refine hK.out _ _ ?_ (fun hHeld => ?_)
          · (first | exact hKB.out.drew | exact BoxEv.alloc hKB.out.drew _ | exact s3 | exact s4)
          clear hK K
          try simp only [Act.put, List.setIfInBounds_toArray, List.set_cons_zero, List.set_cons_succ]
          refine wpAnyH_ready (rs := [14]) (by kernel_rfl) (by simp) ?_
          refine AllReadyH.cons (by (simp only [List.getElem?_toArray, List.getElem?_cons_succ, List.getElem?_cons_zero]); try rfl) (fun K hK => ?_) AllReadyH.nil
          (refine step_append_lies _ (by rfl) _ _ _ (by rfl) B 39 i0 enZero 7 112 Tryz.underlying29 hi hz0 hz1 hz2 rfl (by decide) (.slice a rows.length c) rows.length (flatCs enCs rows) (by rfl) (HW.out.drew.alloc _).own.ents
            ⟨wr.heap.size, 0, none⟩ 1 1 (enCs (newEn e)) (by rfl) (by rfl) (World.news_of_block (cs := (enCs (newEn e)).toArray) (t := 39) (fr := (0, 0)) (heap_alloc_new wr.drew _)) (by simp [Value.oneCell', newEn])
            (by omega) (by unfold maxLen; omega) (by omega) (by simp; omega) (wr.heap.size + 1) (by simp) ?_; intro gg cap w1 hown1 hgrow hat hlt'; obtain ⟨s1, s2, s3, s4, s5, s6⟩ := step.out _ _ _ hown1 hgrow)
          refine hK.out _ _ ?_ (fun hHeld => ?_)
          · (first | exact hKB.out.drew | exact BoxEv.alloc hKB.out.drew _ | exact s3 | exact s4)
          clear hK K
          try simp only [Act.put, List.setIfInBounds_toArray, List.set_cons_zero, List.set_cons_succ]
          refine wpAnyH_take (i := 15) (v := ?_) (by (simp only [List.getElem?_toArray, List.getElem?_cons_succ, List.getElem?_cons_zero]); try rfl) (by kernel_rfl) (by kernel_rfl) (by kernel_rfl) (fun _ _ _ h => h) (Or.inl ⟨by rfl, ?_⟩) (by assumption) ?_
          rotate_left
          · (intro w hSw; (try dsimp only at hSw); go_simp); try with_reducible rfl
          try simp only [Act.put, List.setIfInBounds_toArray, List.set_cons_zero, List.set_cons_succ]
          refine wpAnyH_take (i := 16) (v := ?_) (by (simp only [List.getElem?_toArray, List.getElem?_cons_succ, List.getElem?_cons_zero]); try rfl) (by kernel_rfl) (by kernel_rfl) (by kernel_rfl) (fun _ _ _ h => h) (Or.inl ⟨by rfl, ?_⟩) (by assumption) ?_
          rotate_left
          · (intro w hSw; (try dsimp only at hSw); go_simp); try with_reducible rfl
          try simp only [Act.put, List.setIfInBounds_toArray, List.set_cons_zero, List.set_cons_succ]
          refine wpAnyH_take (i := 17) (v := ?_) (by (simp only [List.getElem?_toArray, List.getElem?_cons_succ, List.getElem?_cons_zero]); try rfl) (by kernel_rfl) (by kernel_rfl) (by kernel_rfl) (fun _ _ _ h => h) (Or.inl ⟨by rfl, ?_⟩) (by assumption) ?_
          rotate_left
          · (intro w hSw; (try dsimp only at hSw); go_simp); try with_reducible rfl
          try simp only [Act.put, List.setIfInBounds_toArray, List.set_cons_zero, List.set_cons_succ]
          refine wpAnyH_ready (rs := [18]) (by kernel_rfl) (by simp) ?_
          refine AllReadyH.cons (by (simp only [List.getElem?_toArray, List.getElem?_cons_succ, List.getElem?_cons_zero]); try rfl) (fun K hK => ?_) AllReadyH.nil
          go_simp
          refine hK.out _ _ ?_ (fun hHeld => ?_)
          · (first | exact hKB.out.drew | exact BoxEv.alloc hKB.out.drew _ | exact s3 | exact s4)
          clear hK K
          try simp only [Act.put, List.setIfInBounds_toArray, List.set_cons_zero, List.set_cons_succ]
          refine wpAnyH_done (by kernel_rfl) ?_ _
          refine NoPanic.normal ?_
          go_wp2_with fail
          go_ret
          exact ⟨_, _, by rw [hR2.out]; rfl, s5, by rw [hR2.out, List.map_append]; rfl, s6⟩
      · have hR2 : R = .error 9 := by rw [hR.out]; unfold submitR; rw [if_pos (by rw [← hN.out]; exact hatt)]
        have hdn : (e.key.att != (N : Int) + 1) = true := by rw [bne_iff_ne]; exact hatt
        replace hR2 := Lib.hid hR2
        go_wp2_with fail
        go_ret
        exact ⟨_, _, by rw [hR2.out]; rfl, HW.out, by rw [hR2.out]; rfl, HBw.out⟩
end Go.Proofs.YtnjiomggbafkmaaGreatDoor
