/- clone of package book. -/
import Derived.Test.YtnjiomggbafkmaaGreatDoorBookAC
namespace Go.Proofs.YtnjiomggbafkmaaGreatDoor
open Go.RowKit Go.Lib

theorem map_set_y {rs : List EnR} {k : Nat} (hk : k < rs.length) (r : EnR) (h : r.y = rs[k].y) : (rs.set k r).map EnR.y = rs.map EnR.y := by
  apply List.ext_getElem (by simp)
  intro j h1 h2
  simp only [List.getElem_map, List.getElem_set]
  split
  · rename_i e; subst e; exact h
  · rfl
theorem OwnEnts.boxset {B g : Nat} {T : TypeId} {W : World} {ev : Value} {rows : List EnR} {cs : Array Value} (h : OwnEnts B W ev rows) (hb : Blk W g T cs) (h1 : T ≠ 39) (h2 : T ≠ 42) (h3 : T ≠ 44) (i : Nat) (u : Value) : OwnEnts B (W.setCell ⟨g, i, none⟩ u) ev rows :=
  ⟨ownsRow_setCell_other h.ents (own_blk_ne h.ents hb (fun e => h1 e.symm)) _, fun r hr => (h.each r hr).set_ (own_blk_ne (h.each r hr).1 hb (fun e => h2 e.symm)) (own_blk_ne (h.each r hr).2 hb (fun e => h3 e.symm)) _, h.apart⟩
theorem enCs_one {r : EnR} (hg : r.g.oneCell' = true) (ha : r.a.oneCell' = true) : ∀ u ∈ enCs r, u.oneCell' = true := by
  intro u hu
  simp only [enCs, List.mem_cons, List.not_mem_nil, or_false] at hu
  rcases hu with rfl | rfl | rfl | rfl | rfl | rfl | rfl <;> first | rfl | assumption
theorem EnIn.one {w : World} {r : EnR} (h : EnIn w r) : r.g.oneCell' = true ∧ r.a.oneCell' = true := by
  obtain ⟨⟨a, c, e1, _⟩, ⟨a', c', e2, _⟩⟩ := h
  rw [e1, e2]; exact ⟨rfl, rfl⟩
/-- What the clone's loop keeps besides: the book's box, the result's. -/
def CloB (gb gr g n : Nat) (t : Int) (W : World) : Prop := Blk W gb 31 #[.int .i64 t, .slice (some ⟨g, 0, none⟩) n n] ∧ Blk W gr 31 #[.int .i64 0, .slice none 0 0]
theorem CloB.below {gb gr g n : Nat} {t : Int} {W W' : World} (h : CloB gb gr g n t W) (hb : Below W.heap.size W W') : CloB gb gr g n t W' := ⟨h.1.below hb, h.2.below hb⟩
theorem CloB.far {gb gr g n : Nat} {t : Int} {W : World} (h : CloB gb gr g n t W) {T : TypeId} {B k c : Nat} {xs : List Value} (ho : W.ownsRow B T k (.slice (some ⟨g, 0, none⟩) n c) n xs) (hT : T ≠ 31) (i : Nat) (u : Value) : CloB gb gr g n t (W.setCell ⟨g, i, none⟩ u) :=
  ⟨h.1.far (fun e => own_blk_ne ho h.1 hT (by rw [e]; rfl)) _, h.2.far (fun e => own_blk_ne ho h.2 hT (by rw [e]; rfl)) _⟩

set_option maxHeartbeats 4000000 in
set_option maxRecDepth 100000 in
theorem clone_some (t : Int) (b off c : Nat) (rows : List EnR) (w : World) (hb : b < w.heap.size) (hr : RowsAt enCs 7 w b off rows) (hin : ∀ r ∈ rows, EnIn w r) (hl : rows.length ≤ 1000000) (hlen : ∀ r ∈ rows, r.y.grades.length ≤ 1000000000 ∧ r.y.appeals.length ≤ 1000000000) :
    Calls Tryz.prog 44 #[.agg #[.int .i64 t, .slice (some ⟨b, off, none⟩) rows.length c]] w fun z w' => ∃ ev rows', z = .returned (.agg #[.int .i64 t, ev]) ∧ OwnEnts w.heap.size w' ev rows' ∧ rows'.map EnR.y = rows.map EnR.y ∧ Below w.heap.size w w' := by
  obtain ⟨i0, hi, hz0, hz1, hz2⟩ := info_parts infoEn
  have hsz7 : (Tryz.prog.info? 39).map (·.size) = some 7 := by rw [hi]; simp [hz1]
  have hcs := rowsAt_flat enCs_len (by decide) hr
  have hone : ∀ u ∈ flatCs enCs rows, u.oneCell' = true := by
    intro u hu
    obtain ⟨r, hr, hx⟩ := List.mem_flatMap.1 hu
    exact enCs_one (hin r hr).one.1 (hin r hr).one.2 u hx
  have hfl : (flatCs enCs rows).length = rows.length * 7 := flatCs_length enCs_len rows
  obtain ⟨n, hn⟩ : ∃ n, n = rows.length := ⟨_, rfl⟩
  obtain ⟨cs, hcsd⟩ : ∃ cs, cs = flatCs enCs rows := ⟨_, rfl⟩
  rw [← hcsd] at hcs hone hfl
  rw [← hn] at hl hfl ⊢
  have hb1 := ((Below.refl w.heap.size w).alloc (Nat.le_refl _) (.cells #[.int .i64 t, .slice (some ⟨b, off, none⟩) n c] 31)).alloc (by simp) (.cells #[.int .i64 0, .slice none 0 0] 31)
  have hk1 := (Blk.new w 31 #[.int .i64 t, .slice (some ⟨b, off, none⟩) n c]).alloc (.cells #[.int .i64 0, .slice none 0 0] 31)
  have hk2 := Blk.new (w.alloc (.cells #[.int .i64 t, .slice (some ⟨b, off, none⟩) n c] 31)) 31 #[.int .i64 0, .slice none 0 0]
  simp only [World.size_alloc] at hk2
  have HB1 := Lib.hid hb1
  have HK1 := Lib.hid hk1
  have HK2 := Lib.hid hk2
  have HR := Lib.hid hr
  have HCS := Lib.hid hcs
  have HI := Lib.hid hin
  have HL := Lib.hid hlen
  replace hone := Lib.hid hone
  replace hfl := Lib.hid hfl
  replace hcsd := Lib.hid hcsd
  replace hn := Lib.hid hn
  clear hr hin hlen hb1 hk1 hk2 hcs
  go_enter Tryz.func44, Tryz.ntmps44
  have MK : Hid (∀ w2 zs, w2.ownsRow w.heap.size 39 7 (.slice (some ⟨w.heap.size + 2, 0, none⟩) n n) n zs → ((w.alloc (.cells #[.int .i64 t, .slice (some ⟨b, off, none⟩) n c] 31)).alloc (.cells #[.int .i64 0, .slice none 0 0] 31)).grownBy w2 none →
      w2.cell? ⟨w.heap.size, 0, none⟩ = some (.int .i64 t) ∧ w2.cell? ⟨w.heap.size, 1, none⟩ = some (.slice (some ⟨b, off, none⟩) n c) ∧ Hid (Blk w2 w.heap.size 31 #[.int .i64 t, .slice (some ⟨b, off, none⟩) n c]) ∧ Hid (Blk w2 (w.heap.size + 1) 31 #[.int .i64 0, .slice none 0 0]) ∧ Hid (Below w.heap.size w w2) ∧ ∃ cur, Hid (w2.heap[w.heap.size + 2]? = some (.cells cur 39 (0, 0)) ∧ cur.size = n * 7)) := by
    refine Lib.hid fun w2 zs h1 h2 => ?_
    have k1 := HK1.out.grown h2 (by simp)
    have k2 := HK2.out.grown h2 (by simp)
    refine ⟨k1.cell 0, k1.cell 1, Lib.hid k1, Lib.hid k2, Lib.hid (HB1.out.grown h2 (by simp; omega) (by simp)), ?_⟩
    rcases h1.2 with ⟨e, _⟩ | ⟨g, cap, cur, e, _, hg, _, _, hs, _⟩
    · cases e
    · injection e with e1 _ e3
      injection e1 with e1
      injection e1 with e1 _ _
      subst e1 e3
      exact ⟨cur, Lib.hid ⟨hg, hs⟩⟩
  have CP : Hid (∀ w2 w3 cur, w2.heap[w.heap.size + 2]? = some (.cells cur 39 (0, 0)) → Blk w2 w.heap.size 31 #[.int .i64 t, .slice (some ⟨b, off, none⟩) n c] → Blk w2 (w.heap.size + 1) 31 #[.int .i64 0, .slice none 0 0] → Below w.heap.size w w2 → w3 = w2.setRow (w.heap.size + 2) cs.toArray →
      w3.cell? ⟨w.heap.size, 0, none⟩ = some (.int .i64 t) ∧ w3.cell? ⟨w.heap.size, 1, none⟩ = some (.slice (some ⟨b, off, none⟩) n c) ∧ w3.frozen? ⟨w.heap.size, 1, none⟩ = false ∧ Hid (CloB w.heap.size (w.heap.size + 1) (w.heap.size + 2) n t (w3.setCell ⟨w.heap.size, 1, none⟩ (.slice (some ⟨w.heap.size + 2, 0, none⟩) n n))) ∧ Hid (Below w.heap.size w (w3.setCell ⟨w.heap.size, 1, none⟩ (.slice (some ⟨w.heap.size + 2, 0, none⟩) n n))) ∧ Hid (CloS w.heap.size w 0 0 (w.heap.size + 2) n (w3.setCell ⟨w.heap.size, 1, none⟩ (.slice (some ⟨w.heap.size + 2, 0, none⟩) n n)) rows)) := by
    refine Lib.hid fun w2 w3 cur hg h1 h2 h3 e => ?_
    subst e
    have k1 : Blk (w2.setRow (w.heap.size + 2) cs.toArray) w.heap.size 31 #[.int .i64 t, .slice (some ⟨b, off, none⟩) n c] := (setRow_other w2 _ _ _ (by omega)).trans h1
    have k2 : Blk (w2.setRow (w.heap.size + 2) cs.toArray) (w.heap.size + 1) 31 #[.int .i64 0, .slice none 0 0] := (setRow_other w2 _ _ _ (by omega)).trans h2
    have hb3 := below_setRow h3 (show w.heap.size ≤ w.heap.size + 2 by omega) cs.toArray
    have hb4 : Below w.heap.size w ((w2.setRow (w.heap.size + 2) cs.toArray).setCell ⟨w.heap.size, 1, none⟩ (.slice (some ⟨w.heap.size + 2, 0, none⟩) n n)) := hb3.setCell (Nat.le_refl _) _
    have hown : (w2.setRow (w.heap.size + 2) cs.toArray).ownsRow w.heap.size 39 7 (.slice (some ⟨w.heap.size + 2, 0, none⟩) n n) n (flatCs enCs rows) :=
      ⟨by rw [← hcsd.out]; exact hfl.out, .inr ⟨w.heap.size + 2, n, cs.toArray, rfl, by omega, setRow_heap w2 _ _ _ _ _ hg, Nat.le_refl _, by unfold maxLen; omega, by simp [hfl.out], by rw [← hcsd.out]; simp [hfl.out, List.take_of_length_le]⟩⟩
    refine ⟨k1.cell 0, k1.cell 1, k1.free 1, Lib.hid ⟨by simpa using k1.set_ 1 (.slice (some ⟨w.heap.size + 2, 0, none⟩) n n), k2.far (by show w.heap.size + 1 ≠ w.heap.size; omega) _⟩, Lib.hid hb4, Lib.hid ?_⟩
    exact ⟨hn.out.symm, hb4.size, ownsRow_setCell_other hown (by simp [Value.ownBlock]) _, fun j hj hp => by omega, fun j hj hp => (HI.out _ (List.getElem_mem hj)).1, fun j k hj hk hp => by omega, fun j hj hp => by omega, fun j hj hp => (HI.out _ (List.getElem_mem hj)).2, fun j k hj hk hp => by omega⟩
  go_wp2_with (first
    | (refine wpList_make_full _ rfl _ _ 29 rfl w.heap.size 39 i0 enZero 7 Tryz.underlying29 hi hz0 hz1 .i64 .i64 _ _ n rfl rfl rfl rfl (by rw [hz2]; omega) (by unfold maxLen; omega) (by simp; omega) ?_; intro w2 hown hgr; simp only [World.size_alloc, Nat.add_assoc, Nat.reduceAdd] at hown ⊢; obtain ⟨m1, m2, m3, m4, m5, cur, m6⟩ := MK.out _ _ hown hgr; clear hown hgr)
    | (refine wpList_copyK rfl _ _ 29 29 rfl 39 Tryz.underlying29 7 hsz7 (w.heap.size + 2) n n c ⟨b, off, none⟩ rfl rfl cur 39 m6.out.1 cs hfl.out (fun j u h => (m5.out.cell (by rw [Addr.add_mid]; exact hb)).trans (HCS.out j u h)) (by rw [hfl.out]; exact m6.out.2) hone.out ?_; obtain ⟨w3, hw3⟩ : ∃ w3, w3 = w2.setRow (w.heap.size + 2) cs.toArray := ⟨_, rfl⟩; rw [← hw3]; obtain ⟨p1, p2, p3, p4, p5, p6⟩ := CP.out _ _ _ m6.out.1 m3.out m4.out m5.out hw3; clear hw3 m1 m2 m3 m4 m5 m6))
  obtain ⟨B, hBB⟩ : ∃ B, B = w.heap.size := ⟨_, rfl⟩
  rw [← hBB] at p4 p5 p6 ⊢
  replace hBB := Lib.hid hBB
  have HLr0 := HL
  clear HB1 HK1 HK2 HCS hone hfl hcsd MK CP HR p1 p2 p3 hi hz0 hz1 hz2 hsz7 HI cur
  obtain ⟨W0, hW0⟩ : ∃ W0, W0 = w3.setCell ⟨B, 1, none⟩ (.slice (some ⟨B + 2, 0, none⟩) n n) := ⟨_, rfl⟩
  rw [← hW0] at p4 p5 p6 ⊢
  clear hW0
  have cb0 : ∀ W, CloB B (B + 1) (B + 2) n t W → W.cell? ⟨B, 0, none⟩ = some (.int .i64 t) := fun W h => h.1.cell 0
  have cb1 : ∀ W, CloB B (B + 1) (B + 2) n t W → W.cell? ⟨B, 1, none⟩ = some (.slice (some ⟨B + 2, 0, none⟩) n n) := fun W h => h.1.cell 1
  go_loopw [18] (fun v18 wr => ∃ (k : Nat) (rs : List EnR), k ≤ n ∧ v18 = .int .i64 k ∧ Hid (rs.map EnR.y = rows.map EnR.y) ∧ Hid (CloS B w k k (B + 2) n wr rs) ∧ Hid (CloB B (B + 1) (B + 2) n t wr) ∧ Hid (Below B w wr)) (fun i _ => n - (RowKit.intOf i).toNat)
  case atStart => exact ⟨0, rows, Nat.zero_le _, rfl, Lib.hid rfl, p6, p4, p5⟩
  case round =>
    clear p4 p5 p6
    obtain ⟨k, rs, hk, rfl, hm, hS, hC, hBl⟩ := hrel
    have hBw : Below w.heap.size w wr := by have := hBl.out; rw [hBB.out] at this; exact this
    by_cases hlt : k < n
    · have hkr : k < rs.length := by rw [hS.out.len]; exact hlt
      have HLr : Hid (∀ r ∈ rs, r.y.grades.length ≤ 1000000000 ∧ r.y.appeals.length ≤ 1000000000) := Lib.hid fun r hr => by
        have h1 : r.y ∈ rows.map EnR.y := by rw [← hm.out]; exact List.mem_map_of_mem hr
        obtain ⟨r0, h2, h3⟩ := List.mem_map.1 h1
        rw [← h3]; exact HL.out r0 h2
      have k1 : (k : Int) < (n : Int) := by omega
      have hbb : CloB B (B + 1) (B + 2) n t wr := hC.out
      go_wp2_with fail

      obtain ⟨ga, gc, hgv⟩ : ∃ ga gc, rs[k].g = .slice ga rs[k].y.grades.length gc := by
        obtain ⟨ga, gc, e, _⟩ := hS.out.gin k hkr (Nat.le_refl _)
        exact ⟨ga, gc, e⟩
      have hq := (hS.out.at_ k hkr).1
      have hfz := (hS.out.at_ k hkr).2.2.1
      rw [hgv] at hq
      obtain ⟨gl, hgl⟩ : ∃ gl, gl = rs[k].y.grades.length := ⟨_, rfl⟩
      have CG := cloneGr_walk rs[k].g rs[k].y.grades wr.drew ((hS.out.gin k hkr (Nat.le_refl _)).below' hBw (Below.refl _ _).drew) (HLr.out _ (List.getElem_mem hkr)).1
      rw [hgv, ← hgl] at CG
      rw [← hgl] at hq
      have STEP : Hid (∀ av cv w4, w4.ownsRow wr.drew.heap.size 42 4 (.slice av gl cv) gl (flatCs grCs rs[k].y.grades) → Below wr.drew.heap.size wr.drew w4 →
          w4.cell? ⟨B + 2, k * 7 + 5, none⟩ = some (.slice ga gl gc) ∧ w4.frozen? ⟨B + 2, k * 7 + 5, none⟩ = false ∧ CloB B (B + 1) (B + 2) n t w4 ∧ CloB B (B + 1) (B + 2) n t (w4.setCell ⟨B + 2, k * 7 + 5, none⟩ (.slice av gl cv)) ∧
          Hid (CloS B w (k + 1) k (B + 2) n (w4.setCell ⟨B + 2, k * 7 + 5, none⟩ (.slice av gl cv)) (rs.set k ⟨rs[k].y, .slice av gl cv, rs[k].a⟩)) ∧ Hid (Below B w (w4.setCell ⟨B + 2, k * 7 + 5, none⟩ (.slice av gl cv)))) := by
        refine Lib.hid fun av cv w4 h1 h2 => ?_
        have h3 : Below wr.heap.size wr w4 := below_seq ((Below.refl _ _).drew) h2
        have hC4 := hC.out.below h3
        have hS4 := hS.out.below h3
        have hq4 := (hS4.at_ k hkr).1
        have hf4 := (hS4.at_ k hkr).2.2.1
        rw [hgv, ← hgl] at hq4
        refine ⟨hq4, hf4, hC4, hC4.far hS4.ents (by decide) _ _, Lib.hid (hS.out.putG hkr h3 (by rw [← hgl]; exact h1)), Lib.hid ((below_then hBl.out h3 hS.out.le).setCell (by show B ≤ B + 2; omega) _)⟩
      replace CG := Lib.hid CG
      replace hgv := Lib.hid hgv
      replace hgl := Lib.hid hgl
      refine wp_region_noPanic ?_
      refine wp_region_held_drew (S := CloB B (B + 1) (B + 2) n t) (by kernel_rfl) (hC.out.below (Below.refl _ _).drew) (fun hHeld => ?_)
      refine wpAnyH_take (i := 0) (v := ?_) (by (simp only [List.getElem?_toArray, List.getElem?_cons_zero]); try rfl) (by kernel_rfl) (by kernel_rfl) (by kernel_rfl) (fun _ _ _ h => h) (Or.inl ⟨by rfl, ?_⟩) (by assumption) ?_
      rotate_left
      · (intro w hSw; (try dsimp only at hSw); go_simp); try with_reducible rfl
      try simp only [Act.put, List.setIfInBounds_toArray, List.set_cons_zero, List.set_cons_succ]
      refine wpAnyH_take (i := 1) (v := ?_) (by (simp only [List.getElem?_toArray, List.getElem?_cons_succ, List.getElem?_cons_zero]); try rfl) (by kernel_rfl) (by kernel_rfl) (by kernel_rfl) (fun _ _ _ h => h) (Or.inl ⟨by rfl, ?_⟩) (by assumption) ?_
      rotate_left
      · (intro w hSw; (try dsimp only at hSw); go_simp); try with_reducible rfl
      try simp only [Act.put, List.setIfInBounds_toArray, List.set_cons_zero, List.set_cons_succ]
      refine wpAnyH_take (i := 2) (v := ?_) (by (simp only [List.getElem?_toArray, List.getElem?_cons_succ, List.getElem?_cons_zero]); try rfl) (by kernel_rfl) (by kernel_rfl) (by kernel_rfl) (fun _ _ _ h => h) (Or.inl ⟨by rfl, ?_⟩) (by assumption) ?_
      rotate_left
      · (intro w hSw; (try dsimp only at hSw); go_simp); try with_reducible rfl
      try simp only [Act.put, List.setIfInBounds_toArray, List.set_cons_zero, List.set_cons_succ]
      refine wpAnyH_take (i := 3) (v := ?_) (by (simp only [List.getElem?_toArray, List.getElem?_cons_succ, List.getElem?_cons_zero]); try rfl) (by kernel_rfl) (by kernel_rfl) (by kernel_rfl) (fun _ _ _ h => h) (Or.inl ⟨by rfl, ?_⟩) (by assumption) ?_
      rotate_left
      · (intro w hSw; (try dsimp only at hSw); go_simp); try with_reducible rfl
      try simp only [Act.put, List.setIfInBounds_toArray, List.set_cons_zero, List.set_cons_succ]
      refine wpAnyH_take (i := 4) (v := ?_) (by (simp only [List.getElem?_toArray, List.getElem?_cons_succ, List.getElem?_cons_zero]); try rfl) (by kernel_rfl) (by kernel_rfl) (by kernel_rfl) (fun _ _ _ h => h) (Or.inl ⟨by rfl, ?_⟩) (by assumption) ?_
      rotate_left
      · (intro w hSw; (try dsimp only at hSw); go_simp); try with_reducible rfl
      try simp only [Act.put, List.setIfInBounds_toArray, List.set_cons_zero, List.set_cons_succ]
      refine wpAnyH_take (i := 5) (v := ?_) (by (simp only [List.getElem?_toArray, List.getElem?_cons_succ, List.getElem?_cons_zero]); try rfl) (by kernel_rfl) (by kernel_rfl) (by kernel_rfl) (fun _ _ _ h => h) (Or.inl ⟨by rfl, ?_⟩) (by assumption) ?_
      rotate_left
      · (intro w hSw; (try dsimp only at hSw); go_simp); try with_reducible rfl
      try simp only [Act.put, List.setIfInBounds_toArray, List.set_cons_zero, List.set_cons_succ]
      refine wpAnyH_take (i := 6) (v := ?_) (by (simp only [List.getElem?_toArray, List.getElem?_cons_succ, List.getElem?_cons_zero]); try rfl) (by kernel_rfl) (by kernel_rfl) (by kernel_rfl) (fun _ _ _ h => h) (Or.inl ⟨by rfl, ?_⟩) (by assumption) ?_
      rotate_left
      · (intro w hSw; (try dsimp only at hSw); go_simp); try with_reducible rfl
      try simp only [Act.put, List.setIfInBounds_toArray, List.set_cons_zero, List.set_cons_succ]
      refine wpAnyH_take (i := 7) (v := ?_) (by (simp only [List.getElem?_toArray, List.getElem?_cons_succ, List.getElem?_cons_zero]); try rfl) (by kernel_rfl) (by kernel_rfl) (by kernel_rfl) (fun _ _ _ h => h) (Or.inl ⟨by rfl, ?_⟩) (by assumption) ?_
      rotate_left
      · (intro w hSw; (try dsimp only at hSw); go_simp); try with_reducible rfl
      try simp only [Act.put, List.setIfInBounds_toArray, List.set_cons_zero, List.set_cons_succ]
      refine wpAnyH_ready (rs := [8]) (by kernel_rfl) (by simp) ?_
      refine AllReadyH.cons (by (simp only [List.getElem?_toArray, List.getElem?_cons_succ, List.getElem?_cons_zero]); try rfl) (fun K hK => ?_) AllReadyH.nil
      go_simp
      refine hK.out _ _ ?_ (fun hHeld => ?_)
      · (first | exact hC.out.below (Below.refl _ _).drew | exact s3 | exact s4)
      clear hK K
      try simp only [Act.put, List.setIfInBounds_toArray, List.set_cons_zero, List.set_cons_succ]
      refine wpAnyH_ready (rs := [9]) (by kernel_rfl) (by simp) ?_
      refine AllReadyH.cons (by (simp only [List.getElem?_toArray, List.getElem?_cons_succ, List.getElem?_cons_zero]); try rfl) (fun K hK => ?_) AllReadyH.nil
      go_simp
      (go_at_call 74; refine CG.out.mono ?_; rintro z w4 ⟨v', rfl, ho4, hb4⟩; obtain ⟨av, cv, rfl⟩ := own_slice' ho4; obtain ⟨s1, s2, s3, s4, s5, s6⟩ := STEP.out _ _ _ ho4 hb4; clear ho4 hb4)
      try (go_wp2_with fail)
      refine hK.out _ _ ?_ (fun hHeld => ?_)
      · (first | exact hC.out.below (Below.refl _ _).drew | exact s3 | exact s4)
      clear hK K
      try simp only [Act.put, List.setIfInBounds_toArray, List.set_cons_zero, List.set_cons_succ]
      refine wpAnyH_take (i := 10) (v := ?_) (by (simp only [List.getElem?_toArray, List.getElem?_cons_succ, List.getElem?_cons_zero]); try rfl) (by kernel_rfl) (by kernel_rfl) (by kernel_rfl) (fun _ _ _ h => h) (Or.inl ⟨by rfl, ?_⟩) (by assumption) ?_
      rotate_left
      · (intro w hSw; (try dsimp only at hSw); go_simp); try with_reducible rfl
      try simp only [Act.put, List.setIfInBounds_toArray, List.set_cons_zero, List.set_cons_succ]
      refine wpAnyH_take (i := 11) (v := ?_) (by (simp only [List.getElem?_toArray, List.getElem?_cons_succ, List.getElem?_cons_zero]); try rfl) (by kernel_rfl) (by kernel_rfl) (by kernel_rfl) (fun _ _ _ h => h) (Or.inl ⟨by rfl, ?_⟩) (by assumption) ?_
      rotate_left
      · (intro w hSw; (try dsimp only at hSw); go_simp); try with_reducible rfl
      try simp only [Act.put, List.setIfInBounds_toArray, List.set_cons_zero, List.set_cons_succ]
      refine wpAnyH_ready (rs := [12]) (by kernel_rfl) (by simp) ?_
      refine AllReadyH.cons (by (simp only [List.getElem?_toArray, List.getElem?_cons_succ, List.getElem?_cons_zero]); try rfl) (fun K hK => ?_) AllReadyH.nil
      go_simp
      refine hK.out _ _ ?_ (fun hHeld => ?_)
      · (first | exact hC.out.below (Below.refl _ _).drew | exact s3 | exact s4)
      clear hK K
      try simp only [Act.put, List.setIfInBounds_toArray, List.set_cons_zero, List.set_cons_succ]
      refine wpAnyH_done (by kernel_rfl) ?_ _
      refine NoPanic.normal ?_
      skip
      have hm1 : (rs.set k ⟨rs[k].y, .slice av gl cv, rs[k].a⟩).map EnR.y = rows.map EnR.y := by
        exact (map_set_y hkr ⟨rs[k].y, .slice av gl cv, rs[k].a⟩ rfl).trans hm.out
      have hkr1 : k < (rs.set k ⟨rs[k].y, .slice av gl cv, rs[k].a⟩).length := by rw [List.length_set]; exact hkr
      obtain ⟨rs1, hrs1⟩ : ∃ rs1, rs1 = rs.set k ⟨rs[k].y, .slice av gl cv, rs[k].a⟩ := ⟨_, rfl⟩
      obtain ⟨wx, hwx⟩ : ∃ wx, wx = w4.setCell ⟨B + 2, k * 7 + 5, none⟩ (.slice av gl cv) := ⟨_, rfl⟩
      rw [← hrs1] at hm1 hkr1 s5
      rw [← hwx] at s4 s5 s6 ⊢
      have HLr1 : Hid (∀ r ∈ rs1, r.y.grades.length ≤ 1000000000 ∧ r.y.appeals.length ≤ 1000000000) := Lib.hid fun r hr => by
        have h1 : r.y ∈ rows.map EnR.y := by rw [← hm1]; exact List.mem_map_of_mem hr
        obtain ⟨r0, h2, h3⟩ := List.mem_map.1 h1
        rw [← h3]; exact HL.out r0 h2
      have hS1 := s5
      have hC1 := Lib.hid s4
      have hBl1 := s6
      have hBw1 : Below w.heap.size w wx := by have := s6.out; rw [hBB.out] at this; exact this
      replace hm1 := Lib.hid hm1
      clear s1 s2 s3 s4 s5 s6 hwx hrs1 hS hC hBl hBw hbb STEP CG hgv hgl hq hfz HLr hm hkr
      go_wp2_with fail

      obtain ⟨ga, gc, hgv⟩ : ∃ ga gc, rs1[k].a = .slice ga rs1[k].y.appeals.length gc := by
        obtain ⟨ga, gc, e, _⟩ := hS1.out.ain k hkr1 (Nat.le_refl _)
        exact ⟨ga, gc, e⟩
      have hq := (hS1.out.at_ k hkr1).2.1
      have hfz := (hS1.out.at_ k hkr1).2.2.2
      rw [hgv] at hq
      obtain ⟨gl, hgl⟩ : ∃ gl, gl = rs1[k].y.appeals.length := ⟨_, rfl⟩
      have CG := cloneAp_walk rs1[k].a rs1[k].y.appeals wx.drew ((hS1.out.ain k hkr1 (Nat.le_refl _)).below' hBw1 (Below.refl _ _).drew) (HLr1.out _ (List.getElem_mem hkr1)).2
      rw [hgv, ← hgl] at CG
      rw [← hgl] at hq
      have STEP : Hid (∀ av cv w4, w4.ownsRow wx.drew.heap.size 44 6 (.slice av gl cv) gl (flatCs apCs rs1[k].y.appeals) → Below wx.drew.heap.size wx.drew w4 →
          w4.cell? ⟨B + 2, k * 7 + 6, none⟩ = some (.slice ga gl gc) ∧ w4.frozen? ⟨B + 2, k * 7 + 6, none⟩ = false ∧ CloB B (B + 1) (B + 2) n t w4 ∧ CloB B (B + 1) (B + 2) n t (w4.setCell ⟨B + 2, k * 7 + 6, none⟩ (.slice av gl cv)) ∧
          Hid (CloS B w (k + 1) (k + 1) (B + 2) n (w4.setCell ⟨B + 2, k * 7 + 6, none⟩ (.slice av gl cv)) (rs1.set k ⟨rs1[k].y, rs1[k].g, .slice av gl cv⟩)) ∧ Hid (Below B w (w4.setCell ⟨B + 2, k * 7 + 6, none⟩ (.slice av gl cv)))) := by
        refine Lib.hid fun av cv w4 h1 h2 => ?_
        have h3 : Below wx.heap.size wx w4 := below_seq ((Below.refl _ _).drew) h2
        have hC4 := hC1.out.below h3
        have hS4 := hS1.out.below h3
        have hq4 := (hS4.at_ k hkr1).2.1
        have hf4 := (hS4.at_ k hkr1).2.2.2
        rw [hgv, ← hgl] at hq4
        refine ⟨hq4, hf4, hC4, hC4.far hS4.ents (by decide) _ _, Lib.hid (hS1.out.putA hkr1 h3 (by rw [← hgl]; exact h1)), Lib.hid ((below_then hBl1.out h3 hS1.out.le).setCell (by show B ≤ B + 2; omega) _)⟩
      replace CG := Lib.hid CG
      replace hgv := Lib.hid hgv
      replace hgl := Lib.hid hgl
      refine wp_region_noPanic ?_
      refine wp_region_held_drew (S := CloB B (B + 1) (B + 2) n t) (by kernel_rfl) (hC1.out.below (Below.refl _ _).drew) (fun hHeld => ?_)
      refine wpAnyH_take (i := 0) (v := ?_) (by (simp only [List.getElem?_toArray, List.getElem?_cons_zero]); try rfl) (by kernel_rfl) (by kernel_rfl) (by kernel_rfl) (fun _ _ _ h => h) (Or.inl ⟨by rfl, ?_⟩) (by assumption) ?_
      rotate_left
      · (intro w hSw; (try dsimp only at hSw); go_simp); try with_reducible rfl
      try simp only [Act.put, List.setIfInBounds_toArray, List.set_cons_zero, List.set_cons_succ]
      refine wpAnyH_take (i := 1) (v := ?_) (by (simp only [List.getElem?_toArray, List.getElem?_cons_succ, List.getElem?_cons_zero]); try rfl) (by kernel_rfl) (by kernel_rfl) (by kernel_rfl) (fun _ _ _ h => h) (Or.inl ⟨by rfl, ?_⟩) (by assumption) ?_
      rotate_left
      · (intro w hSw; (try dsimp only at hSw); go_simp); try with_reducible rfl
      try simp only [Act.put, List.setIfInBounds_toArray, List.set_cons_zero, List.set_cons_succ]
      refine wpAnyH_take (i := 2) (v := ?_) (by (simp only [List.getElem?_toArray, List.getElem?_cons_succ, List.getElem?_cons_zero]); try rfl) (by kernel_rfl) (by kernel_rfl) (by kernel_rfl) (fun _ _ _ h => h) (Or.inl ⟨by rfl, ?_⟩) (by assumption) ?_
      rotate_left
      · (intro w hSw; (try dsimp only at hSw); go_simp); try with_reducible rfl
      try simp only [Act.put, List.setIfInBounds_toArray, List.set_cons_zero, List.set_cons_succ]
      refine wpAnyH_take (i := 3) (v := ?_) (by (simp only [List.getElem?_toArray, List.getElem?_cons_succ, List.getElem?_cons_zero]); try rfl) (by kernel_rfl) (by kernel_rfl) (by kernel_rfl) (fun _ _ _ h => h) (Or.inl ⟨by rfl, ?_⟩) (by assumption) ?_
      rotate_left
      · (intro w hSw; (try dsimp only at hSw); go_simp); try with_reducible rfl
      try simp only [Act.put, List.setIfInBounds_toArray, List.set_cons_zero, List.set_cons_succ]
      refine wpAnyH_take (i := 4) (v := ?_) (by (simp only [List.getElem?_toArray, List.getElem?_cons_succ, List.getElem?_cons_zero]); try rfl) (by kernel_rfl) (by kernel_rfl) (by kernel_rfl) (fun _ _ _ h => h) (Or.inl ⟨by rfl, ?_⟩) (by assumption) ?_
      rotate_left
      · (intro w hSw; (try dsimp only at hSw); go_simp); try with_reducible rfl
      try simp only [Act.put, List.setIfInBounds_toArray, List.set_cons_zero, List.set_cons_succ]
      refine wpAnyH_take (i := 5) (v := ?_) (by (simp only [List.getElem?_toArray, List.getElem?_cons_succ, List.getElem?_cons_zero]); try rfl) (by kernel_rfl) (by kernel_rfl) (by kernel_rfl) (fun _ _ _ h => h) (Or.inl ⟨by rfl, ?_⟩) (by assumption) ?_
      rotate_left
      · (intro w hSw; (try dsimp only at hSw); go_simp); try with_reducible rfl
      try simp only [Act.put, List.setIfInBounds_toArray, List.set_cons_zero, List.set_cons_succ]
      refine wpAnyH_take (i := 6) (v := ?_) (by (simp only [List.getElem?_toArray, List.getElem?_cons_succ, List.getElem?_cons_zero]); try rfl) (by kernel_rfl) (by kernel_rfl) (by kernel_rfl) (fun _ _ _ h => h) (Or.inl ⟨by rfl, ?_⟩) (by assumption) ?_
      rotate_left
      · (intro w hSw; (try dsimp only at hSw); go_simp); try with_reducible rfl
      try simp only [Act.put, List.setIfInBounds_toArray, List.set_cons_zero, List.set_cons_succ]
      refine wpAnyH_take (i := 7) (v := ?_) (by (simp only [List.getElem?_toArray, List.getElem?_cons_succ, List.getElem?_cons_zero]); try rfl) (by kernel_rfl) (by kernel_rfl) (by kernel_rfl) (fun _ _ _ h => h) (Or.inl ⟨by rfl, ?_⟩) (by assumption) ?_
      rotate_left
      · (intro w hSw; (try dsimp only at hSw); go_simp); try with_reducible rfl
      try simp only [Act.put, List.setIfInBounds_toArray, List.set_cons_zero, List.set_cons_succ]
      refine wpAnyH_ready (rs := [8]) (by kernel_rfl) (by simp) ?_
      refine AllReadyH.cons (by (simp only [List.getElem?_toArray, List.getElem?_cons_succ, List.getElem?_cons_zero]); try rfl) (fun K hK => ?_) AllReadyH.nil
      go_simp
      refine hK.out _ _ ?_ (fun hHeld => ?_)
      · (first | exact hC1.out.below (Below.refl _ _).drew | exact u3 | exact u4)
      clear hK K
      try simp only [Act.put, List.setIfInBounds_toArray, List.set_cons_zero, List.set_cons_succ]
      refine wpAnyH_ready (rs := [9]) (by kernel_rfl) (by simp) ?_
      refine AllReadyH.cons (by (simp only [List.getElem?_toArray, List.getElem?_cons_succ, List.getElem?_cons_zero]); try rfl) (fun K hK => ?_) AllReadyH.nil
      go_simp
      (go_at_call 75; refine CG.out.mono ?_; rintro z w4 ⟨v', rfl, ho4, hb4⟩; obtain ⟨av, cv, rfl⟩ := own_slice' ho4; obtain ⟨u1, u2, u3, u4, u5, u6⟩ := STEP.out _ _ _ ho4 hb4; clear ho4 hb4)
      try (go_wp2_with fail)
      refine hK.out _ _ ?_ (fun hHeld => ?_)
      · (first | exact hC1.out.below (Below.refl _ _).drew | exact u3 | exact u4)
      clear hK K
      try simp only [Act.put, List.setIfInBounds_toArray, List.set_cons_zero, List.set_cons_succ]
      refine wpAnyH_take (i := 10) (v := ?_) (by (simp only [List.getElem?_toArray, List.getElem?_cons_succ, List.getElem?_cons_zero]); try rfl) (by kernel_rfl) (by kernel_rfl) (by kernel_rfl) (fun _ _ _ h => h) (Or.inl ⟨by rfl, ?_⟩) (by assumption) ?_
      rotate_left
      · (intro w hSw; (try dsimp only at hSw); go_simp); try with_reducible rfl
      try simp only [Act.put, List.setIfInBounds_toArray, List.set_cons_zero, List.set_cons_succ]
      refine wpAnyH_take (i := 11) (v := ?_) (by (simp only [List.getElem?_toArray, List.getElem?_cons_succ, List.getElem?_cons_zero]); try rfl) (by kernel_rfl) (by kernel_rfl) (by kernel_rfl) (fun _ _ _ h => h) (Or.inl ⟨by rfl, ?_⟩) (by assumption) ?_
      rotate_left
      · (intro w hSw; (try dsimp only at hSw); go_simp); try with_reducible rfl
      try simp only [Act.put, List.setIfInBounds_toArray, List.set_cons_zero, List.set_cons_succ]
      refine wpAnyH_ready (rs := [12]) (by kernel_rfl) (by simp) ?_
      refine AllReadyH.cons (by (simp only [List.getElem?_toArray, List.getElem?_cons_succ, List.getElem?_cons_zero]); try rfl) (fun K hK => ?_) AllReadyH.nil
      go_simp
      refine hK.out _ _ ?_ (fun hHeld => ?_)
      · (first | exact hC1.out.below (Below.refl _ _).drew | exact u3 | exact u4)
      clear hK K
      try simp only [Act.put, List.setIfInBounds_toArray, List.set_cons_zero, List.set_cons_succ]
      refine wpAnyH_done (by kernel_rfl) ?_ _
      refine NoPanic.normal ?_
      skip
      have hm2 : Hid ((rs1.set k ⟨rs1[k].y, rs1[k].g, .slice av gl cv⟩).map EnR.y = rows.map EnR.y) := Lib.hid (by
        exact (map_set_y hkr1 ⟨rs1[k].y, rs1[k].g, .slice av gl cv⟩ rfl).trans hm1.out)
      have hC2 := Lib.hid u4
      clear u1 u2 u3 u4
      go_wp2_with fail
      exact ⟨⟨k + 1, _, by omega, by go_num, hm2, u5, hC2, u6⟩, by simp [RowKit.intOf]; omega⟩
    · have hkk : k = n := by omega
      subst hkk
      have HE := Lib.hid hS.out.done
      have d0 := hC.out.1.cell
      have d1 := hC.out.2.cell
      have d2 := hC.out.2.free
      have d3 : ¬ (B = B + 1) := by omega
      have hlt2 := hC.out.2.lt
      go_wp2_with fail
      have k1 : Blk ((wr.setCell ⟨B + 1, 0, none⟩ (.int .i64 t)).setCell ⟨B + 1, 1, none⟩ (.slice (some ⟨B + 2, 0, none⟩) k k)) (B + 1) 31 #[.int .i64 t, .slice (some ⟨B + 2, 0, none⟩) k k] := by
        simpa using (hC.out.2.set_ 0 (.int .i64 t)).set_ 1 (.slice (some ⟨B + 2, 0, none⟩) k k)
      have hfin := Lib.hid (((HE.out.boxset hC.out.2 (by decide) (by decide) (by decide) 0 (.int .i64 t))).boxset (hC.out.2.set_ 0 (.int .i64 t)) (by decide) (by decide) (by decide) 1 (.slice (some ⟨B + 2, 0, none⟩) k k))
      have hfb := Lib.hid ((hBl.out.setCell (show B ≤ B + 1 by omega) (.int .i64 t) (p := ⟨B + 1, 0, none⟩)).setCell (show B ≤ B + 1 by omega) (.slice (some ⟨B + 2, 0, none⟩) k k) (p := ⟨B + 1, 1, none⟩))
      refine bodyPost_ret (v := .agg #[.int .i64 t, .slice (some ⟨B + 2, 0, none⟩) k k]) (results_cell_row rfl _ _ (B + 1) _ _ _ _ rfl k1 Tryz.underlying31 rfl (by kernel_rfl)) rfl ⟨_, rs, rfl, ?_, hm.out, ?_⟩
      · rw [← hBB.out]; exact hfin.out
      · rw [← hBB.out]; exact hfb.out
end Go.Proofs.YtnjiomggbafkmaaGreatDoor
