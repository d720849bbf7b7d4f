/- The check of the examples by which each law of layer 55 begins. -/
import Derived.Test.YtnjiomggbafkmaaGreatDoorBookAI
namespace Go.Proofs.YtnjiomggbafkmaaGreatDoor
open Go.RowKit Go.Lib

def exK : BKey := ⟨[97, 100, 97], [102, 105, 98], 1⟩
def exE1 : BEv := ⟨0, exK, 3, 0, 0, [], false⟩
def exE2 : BEv := ⟨1, exK, 5, 1, 750, [], false⟩
def exE3 : BEv := ⟨1, exK, 5, 1, 800, [], false⟩
def exE4 : BEv := ⟨1, exK, 5, 2, 800, [], false⟩
def exB1 : Bk := ⟨3, [⟨exK, 3, [], [], []⟩]⟩
def exB2 : Bk := ⟨5, [⟨exK, 3, [], [⟨1, 750, 5, []⟩], []⟩]⟩
def exB4 : Bk := ⟨5, [⟨exK, 3, [], [⟨1, 750, 5, []⟩, ⟨2, 800, 5, []⟩], []⟩]⟩
theorem exV1 : evB exE1 = true := by decide +kernel
theorem exV2 : evB exE2 = true := by decide +kernel
theorem exV3 : evB exE3 = true := by decide +kernel
theorem exV4 : evB exE4 = true := by decide +kernel
theorem exA1 : applyE Bk.empty exE1 = .ok exB1 := by rfl
theorem exA2 : applyE exB1 exE2 = .ok exB2 := by rfl
theorem exA3 : applyE exB2 exE3 = .error 9 := by rfl
theorem exA4 : applyE exB2 exE4 = .ok exB4 := by rfl
theorem exW1 : validB exB1 = true := valid_apply valid_empty exV1 exA1
theorem exW2 : validB exB2 = true := valid_apply exW1 exV2 exA2
theorem exR1 : applyR Bk.empty exE1 = .ok exB1 := (if_pos ⟨valid_empty, exV1⟩).trans exA1
theorem exR2 : applyR exB1 exE2 = .ok exB2 := (if_pos ⟨exW1, exV2⟩).trans exA2
theorem exR3 : applyR exB2 exE3 = .error 9 := (if_pos ⟨exW2, exV3⟩).trans exA3
theorem exR4 : applyR exB2 exE4 = .ok exB4 := (if_pos ⟨exW2, exV4⟩).trans exA4
theorem exT : packL (evFields exE1) = [49, 58, 48, 51, 58, 97, 100, 97, 51, 58, 102, 105, 98, 49, 58, 49, 49, 58, 51, 49, 58, 48, 49, 58, 48, 48, 58, 49, 58, 48] := by
  simp [packL, packF, evFields, exE1, exK, decDigits_one]
theorem strsOk_lit (b : Bk) (h : validB b = true) : (rawEvs b.entries).length ≤ 100000000 ∧ StrsOk b.entries := ⟨by have := inv_raw (valid_inv h); omega, inv_strs (valid_inv h)⟩
/-- The value of Apply's first result at a book in hand, its slice alone. -/
theorem OwnBook.ev {B : Nat} {w : World} {v : Value} {b : Bk} (h : OwnBook B w v b) : ∃ a c, v = .agg #[.int .i64 b.tick, .slice a b.entries.length c] ∧ EntriesIn w (.slice a b.entries.length c) b.entries ∧ ∃ rows, OwnEnts B w (.slice a b.entries.length c) rows ∧ rows.map EnR.y = b.entries := by
  obtain ⟨ev, rows, rfl, ho, hm⟩ := h
  obtain ⟨a, c, rfl⟩ := own_slice' ho.ents
  have hl : rows.length = b.entries.length := by rw [← hm, List.length_map]
  rw [hl] at ho ⊢
  exact ⟨a, c, rfl, by rw [← hm]; have := ho.in_; rw [← hm] at this; exact this, rows, ho, hm⟩

set_option maxHeartbeats 4000000 in
set_option maxRecDepth 100000 in
theorem awake55 (w : World) (ht : Tab w) : Calls Tryz.prog 11 #[] w fun z w' => z = .returned (.bool true) ∧ Below w.heap.size w w' := by
  have HT := Lib.hid ht
  clear ht
  go_enter Tryz.func11, Tryz.ntmps11
  go_wp2_with fail
  obtain ⟨WA, hWA⟩ : ∃ WA, WA = ((w.alloc (.cells #[.string ⟨#[97, 100, 97]⟩, .string ⟨#[102, 105, 98]⟩, .int .i64 1] 24)).alloc (.cells #[.int .i64 0, .string ⟨#[97, 100, 97]⟩, .string ⟨#[102, 105, 98]⟩, .int .i64 1, .int .i64 3, .int .i64 0, .int .i64 0, .string ⟨#[]⟩, .bool false] 26)).alloc (.cells #[.int .i64 1, .string ⟨#[97, 100, 97]⟩, .string ⟨#[102, 105, 98]⟩, .int .i64 1, .int .i64 5, .int .i64 1, .int .i64 750, .string ⟨#[]⟩, .bool false] 26) := ⟨_, rfl⟩
  have hB0 : Below w.heap.size w WA := by rw [hWA]; exact (((Below.refl _ _).alloc (Nat.le_refl _) _).alloc (by simp) _).alloc (by simp; omega) _
  have k2 : BoxEv (w.heap.size + 1) exE1 WA := by
    have := (Blk.new (w.alloc (.cells #[.string ⟨#[97, 100, 97]⟩, .string ⟨#[102, 105, 98]⟩, .int .i64 1] 24)) 26 #[.int .i64 0, .string ⟨#[97, 100, 97]⟩, .string ⟨#[102, 105, 98]⟩, .int .i64 1, .int .i64 3, .int .i64 0, .int .i64 0, .string ⟨#[]⟩, .bool false]).alloc (.cells #[.int .i64 1, .string ⟨#[97, 100, 97]⟩, .string ⟨#[102, 105, 98]⟩, .int .i64 1, .int .i64 5, .int .i64 1, .int .i64 750, .string ⟨#[]⟩, .bool false] 26)
    rw [hWA]
    simp only [World.size_alloc] at this
    exact this
  have k3 : BoxEv (w.heap.size + 1 + 1) exE2 WA := by
    have := Blk.new ((w.alloc (.cells #[.string ⟨#[97, 100, 97]⟩, .string ⟨#[102, 105, 98]⟩, .int .i64 1] 24)).alloc (.cells #[.int .i64 0, .string ⟨#[97, 100, 97]⟩, .string ⟨#[102, 105, 98]⟩, .int .i64 1, .int .i64 3, .int .i64 0, .int .i64 0, .string ⟨#[]⟩, .bool false] 26)) 26 #[.int .i64 1, .string ⟨#[97, 100, 97]⟩, .string ⟨#[102, 105, 98]⟩, .int .i64 1, .int .i64 5, .int .i64 1, .int .i64 750, .string ⟨#[]⟩, .bool false]
    rw [hWA]
    simp only [World.size_alloc] at this
    exact this
  rw [← hWA]
  obtain ⟨g3, hg3⟩ : ∃ g3, g3 = w.heap.size + 1 + 1 := ⟨_, rfl⟩
  obtain ⟨g2, hg2⟩ : ∃ g2, g2 = w.heap.size + 1 := ⟨_, rfl⟩
  rw [← hg3] at k3 ⊢
  rw [← hg2] at k2 ⊢
  have hgg : g2 ≠ g3 := by omega
  have hgw : w.heap.size ≤ g3 := by omega
  clear hg2 hg3 hWA
  have AP1 : Calls Tryz.prog 14 #[.agg #[.int .i64 0, .slice none 0 0], evV exE1] WA fun z w' => ∃ vb, z = .returned (.tuple #[vb, .int .i64 0]) ∧ OwnBook WA.heap.size w' vb exB1 ∧ Below WA.heap.size WA w' := by
    have := Apply_walk 0 (.slice none 0 0) [] exE1 WA (EntriesIn.nil _) (by simp [rawEvs]) (fun x hx => by cases hx) (by decide) (by decide) (by decide)
    rw [show applyR ⟨0, []⟩ exE1 = .ok exB1 from exR1] at this
    exact this
  refine AP1.mono ?_
  rintro z w1 ⟨vb, rfl, hob, hb1⟩
  obtain ⟨a1, c1, rfl, hin1, rows1, ho1, hm1⟩ : ∃ a c, vb = .agg #[.int .i64 3, .slice a 1 c] ∧ EntriesIn w1 (.slice a 1 c) exB1.entries ∧ ∃ rows, OwnEnts WA.heap.size w1 (.slice a 1 c) rows ∧ rows.map EnR.y = exB1.entries := OwnBook.ev (b := exB1) hob
  have kk2 := Lib.hid (k2.below hb1)
  have kk3 := k3.below hb1
  have HB1 := Lib.hid (below_seq hB0 hb1)
  have hl1 := kk3.lt
  clear hob hb1 k2 k3 hB0 AP1 ho1 hm1 rows1
  obtain ⟨q0, q1, q2, q3, q4, q5, q6, q7, q8⟩ := kk3.cells
  have KK3 := Lib.hid kk3
  have HIN1 := Lib.hid hin1
  clear hin1 kk3
  simp only [exE2, exK] at q0 q1 q2 q3 q4 q5 q6 q7 q8
  have hne1 : ¬ (g3 = w1.heap.size) := by omega
  go_wp2_with fail
  clear q0 q1 q2 q3 q4 q5 q6 q7 q8
  have hb2 := (Below.refl w1.heap.size w1).alloc (Nat.le_refl _) (.cells #[.int .i64 3, .slice a1 1 c1] 31)
  have AP2 : Calls Tryz.prog 14 #[.agg #[.int .i64 3, .slice a1 1 c1], evV exE2] (w1.alloc (.cells #[.int .i64 3, .slice a1 1 c1] 31)) fun z w' => ∃ vb, z = .returned (.tuple #[vb, .int .i64 0]) ∧ OwnBook (w1.alloc (.cells #[.int .i64 3, .slice a1 1 c1] 31)).heap.size w' vb exB2 ∧ Below (w1.alloc (.cells #[.int .i64 3, .slice a1 1 c1] 31)).heap.size (w1.alloc (.cells #[.int .i64 3, .slice a1 1 c1] 31)) w' := by
    have := Apply_walk 3 (.slice a1 1 c1) exB1.entries exE2 _ (HIN1.out.below hb2) (strsOk_lit exB1 exW1).1 (strsOk_lit exB1 exW1).2 (by decide) (by decide) (by decide)
    rw [show applyR ⟨3, exB1.entries⟩ exE2 = .ok exB2 from exR2] at this
    exact this
  refine AP2.mono ?_
  rintro z w2 ⟨vb, rfl, hob, hb3⟩
  obtain ⟨a2, c2, rfl, hin2, rows2, ho2, hm2⟩ : ∃ a c, vb = .agg #[.int .i64 5, .slice a 1 c] ∧ EntriesIn w2 (.slice a 1 c) exB2.entries ∧ ∃ rows, OwnEnts (w1.alloc (.cells #[.int .i64 3, .slice a1 1 c1] 31)).heap.size w2 (.slice a 1 c) rows ∧ rows.map EnR.y = exB2.entries := OwnBook.ev (b := exB2) hob
  have hb23 := below_seq hb2 hb3
  have kk2' := Lib.hid (kk2.out.below hb23)
  have kk3 := KK3.out.below hb23
  have HB2 := Lib.hid (below_seq HB1.out hb23)
  have hl2 := kk3.lt
  have q6f := Blk.free kk3 6
  obtain ⟨q0, q1, q2, q3, q4, q5, q6, q7, q8⟩ := kk3.cells
  have KK3' := Lib.hid kk3
  have HO2 := Lib.hid ho2
  have hm2' := Lib.hid hm2
  clear hob hb3 hb23 hb2 AP2 hin2 ho2 hm2 kk3 kk2 KK3 HB1 HIN1 hne1
  simp only [exE2, exK] at q0 q1 q2 q3 q4 q5 q6 q7 q8
  have hne2 : ¬ (g3 = w2.heap.size) := by omega
  go_wp2_with fail
  clear q0 q1 q2 q3 q4 q5 q6 q7 q8 q6f
  obtain ⟨W3, hW3⟩ : ∃ W3, W3 = (w2.setCell ⟨g3, 6, none⟩ (.int .i64 800)).alloc (.cells #[.int .i64 5, .slice a2 1 c2] 31) := ⟨_, rfl⟩
  have z1 : OwnEnts (w1.alloc (.cells #[.int .i64 3, .slice a1 1 c1] 31)).heap.size W3 (.slice a2 1 c2) rows2 := by
    rw [hW3]
    exact (HO2.out.boxset KK3'.out (by decide) (by decide) (by decide) 6 (.int .i64 800)).old ((Below.refl _ _).alloc (Nat.le_refl _) _)
  have z2 : BoxEv g3 exE3 W3 := by
    rw [hW3]
    exact BoxEv.alloc (show BoxEv g3 exE3 (w2.setCell ⟨g3, 6, none⟩ (.int .i64 800)) from Blk.set_ KK3'.out 6 (.int .i64 800)) _
  have z3 : BoxEv g2 exE1 W3 := by
    rw [hW3]
    exact BoxEv.alloc (show BoxEv g2 exE1 (w2.setCell ⟨g3, 6, none⟩ (.int .i64 800)) from Blk.far kk2'.out hgg (.int .i64 800)) _
  have z4 : Blk W3 w2.heap.size 31 #[.int .i64 5, .slice a2 1 c2] := by
    have := Blk.new (w2.setCell ⟨g3, 6, none⟩ (.int .i64 800)) 31 #[.int .i64 5, .slice a2 1 c2]
    simp only [World.size_setCell] at this
    rw [hW3]; exact this
  have z5 : Below w.heap.size w W3 := by
    rw [hW3]
    exact (HB2.out.setCell hgw (.int .i64 800) (p := ⟨g3, 6, none⟩)).alloc (by have := HB2.out.size; simpa using this) _
  rw [← hW3]
  clear hW3 KK3' kk2' HB2 HO2 hne2
  obtain ⟨g6, hg6⟩ : ∃ g6, g6 = w2.heap.size := ⟨_, rfl⟩
  rw [← hg6] at z4 ⊢
  have hg63 : ¬ (g3 = g6) := by omega
  clear hg6
  have AP3 : Calls Tryz.prog 14 #[.agg #[.int .i64 5, .slice a2 1 c2], evV exE3] W3 fun z w' => ∃ vb, z = .returned (.tuple #[vb, .int .i64 9]) ∧ OwnBook W3.heap.size w' vb Bk.empty ∧ Below W3.heap.size W3 w' := by
    have := Apply_walk 5 (.slice a2 1 c2) exB2.entries exE3 W3 (by rw [← hm2'.out]; exact z1.in_) (strsOk_lit exB2 exW2).1 (strsOk_lit exB2 exW2).2 (by decide) (by decide) (by decide)
    rw [show applyR ⟨5, exB2.entries⟩ exE3 = .error 9 from exR3] at this
    exact this
  refine AP3.mono ?_
  rintro z w3 ⟨vb, rfl, hob, hb3⟩
  obtain ⟨a3, c3, rfl, _, _⟩ : ∃ a c, vb = .agg #[.int .i64 0, .slice a 0 c] ∧ EntriesIn w3 (.slice a 0 c) Bk.empty.entries ∧ ∃ rows, OwnEnts W3.heap.size w3 (.slice a 0 c) rows ∧ rows.map EnR.y = Bk.empty.entries := OwnBook.ev (b := Bk.empty) hob
  have y1 := Lib.hid (z1.old hb3)
  have y2 := z2.below hb3
  have y3 := Lib.hid (z3.below hb3)
  have y4 := (z4.below hb3).cell
  have Y4 := Lib.hid (z4.below hb3)
  have y5 := Lib.hid (below_seq z5 hb3)
  have hl3 := y2.lt
  have hl6 := Y4.out.lt
  have q5f := Blk.free y2 5
  obtain ⟨q0, q1, q2, q3, q4, q5, q6, q7, q8⟩ := y2.cells
  have Y2 := Lib.hid y2
  clear hob hb3 AP3 z1 z2 z3 z4 z5 y2
  simp only [exE3, exK] at q0 q1 q2 q3 q4 q5 q6 q7 q8
  have hne3 : ¬ (g3 = w3.heap.size) := by omega
  have hne6 : ¬ (g6 = w3.heap.size) := by omega
  go_wp2_with fail
  clear q0 q1 q2 q3 q4 q5 q6 q7 q8 q5f y4
  obtain ⟨W4, hW4⟩ : ∃ W4, W4 = (w3.setCell ⟨g3, 5, none⟩ (.int .i64 2)).alloc (.cells #[.int .i64 0, .slice a3 0 c3] 31) := ⟨_, rfl⟩
  have z1 : EntriesIn W4 (.slice a2 1 c2) exB2.entries := by
    rw [hW4, ← hm2'.out]
    exact ((y1.out.boxset Y2.out (by decide) (by decide) (by decide) 5 (.int .i64 2)).old ((Below.refl _ _).alloc (Nat.le_refl _) _)).in_
  have z2 : BoxEv g3 exE4 W4 := by
    rw [hW4]
    exact BoxEv.alloc (show BoxEv g3 exE4 (w3.setCell ⟨g3, 5, none⟩ (.int .i64 2)) from Blk.set_ Y2.out 5 (.int .i64 2)) _
  have z3 : BoxEv g2 exE1 W4 := by
    rw [hW4]
    exact BoxEv.alloc (show BoxEv g2 exE1 (w3.setCell ⟨g3, 5, none⟩ (.int .i64 2)) from Blk.far y3.out hgg (.int .i64 2)) _
  have z5 : Below w.heap.size w W4 := by
    rw [hW4]
    exact (y5.out.setCell hgw (.int .i64 2) (p := ⟨g3, 5, none⟩)).alloc (by have := y5.out.size; simpa using this) _
  rw [← hW4]
  clear hW4 Y2 Y4 y1 y3 y5 hne3 hne6
  have AP4 : Calls Tryz.prog 14 #[.agg #[.int .i64 5, .slice a2 1 c2], evV exE4] W4 fun z w' => ∃ vb, z = .returned (.tuple #[vb, .int .i64 0]) ∧ OwnBook W4.heap.size w' vb exB4 ∧ Below W4.heap.size W4 w' := by
    have := Apply_walk 5 (.slice a2 1 c2) exB2.entries exE4 W4 z1 (strsOk_lit exB2 exW2).1 (strsOk_lit exB2 exW2).2 (by decide) (by decide) (by decide)
    rw [show applyR ⟨5, exB2.entries⟩ exE4 = .ok exB4 from exR4] at this
    exact this
  refine AP4.mono ?_
  rintro z w4 ⟨vb, rfl, hob, hb4⟩
  obtain ⟨a4, c4, rfl, hin4, _⟩ : ∃ a c, vb = .agg #[.int .i64 5, .slice a 1 c] ∧ EntriesIn w4 (.slice a 1 c) exB4.entries ∧ ∃ rows, OwnEnts W4.heap.size w4 (.slice a 1 c) rows ∧ rows.map EnR.y = exB4.entries := OwnBook.ev (b := exB4) hob
  have x3 := z3.below hb4
  have X5 := Lib.hid (below_seq z5 hb4)
  have hlx := x3.lt
  obtain ⟨q0, q1, q2, q3, q4, q5, q6, q7, q8⟩ := x3.cells
  have X4 := Lib.hid hin4
  clear hob hb4 AP4 z1 z2 z3 z5 x3 hin4
  simp only [exE1, exK] at q0 q1 q2 q3 q4 q5 q6 q7 q8
  have hne4 : ¬ (g2 = w4.heap.size) := by omega
  go_wp2_with fail
  clear q0 q1 q2 q3 q4 q5 q6 q7 q8
  have hb5 := (Below.refl w4.heap.size w4).alloc (Nat.le_refl _) (.cells #[.int .i64 5, .slice a4 1 c4] 31)
  have hk5 := Blk.new w4 31 #[.int .i64 5, .slice a4 1 c4]
  have EE := EncodeEvent_walk exE1 (w4.alloc (.cells #[.int .i64 5, .slice a4 1 c4] 31)) exV1 (HT.out.below (below_seq X5.out hb5))
  refine EE.mono ?_
  rintro z w5 ⟨rfl, hb6⟩
  rw [exT]
  have hk6 := hk5.below hb6
  have HB6 := Lib.hid (below_seq (below_seq X5.out hb5) hb6)
  obtain ⟨rows4, hr4, hri4, hre4⟩ := (X4.out.below hb5).below hb6
  have hl4 : rows4.length = 1 := by rw [← List.length_map (f := EnR.y), hr4]; rfl
  obtain ⟨b4, off4, rfl, hcell⟩ : ∃ b off, a4 = some ⟨b, off, none⟩ ∧ ∃ ag cg, w5.cell? ⟨b, off + 5, none⟩ = some (.slice ag 2 cg) := by
    rcases hri4.split with ⟨e0, _⟩ | ⟨b, off, c', e1, _, e2⟩
    · rw [e0] at hl4; cases hl4
    · refine ⟨b, off, by injection e1, ?_⟩
      have h5 := (en_cells e2 0 (by omega)).2.2.2.2.2.1
      have hy : (rows4[0]'(by omega)).y = ⟨exK, 3, [], [⟨1, 750, 5, []⟩, ⟨2, 800, 5, []⟩], []⟩ := by
        have h6 : (rows4.map EnR.y)[0]? = some ⟨exK, 3, [], [⟨1, 750, 5, []⟩, ⟨2, 800, 5, []⟩], []⟩ := by rw [hr4]; rfl
        rw [List.getElem?_map, List.getElem?_eq_getElem (by omega)] at h6
        simpa using h6
      obtain ⟨ag, cg, eg, _⟩ := (hre4 _ (List.getElem_mem (by omega : 0 < rows4.length))).1
      rw [eg, hy] at h5
      exact ⟨ag, cg, by simpa using h5⟩
  obtain ⟨ag, cg, hcell⟩ := hcell
  have k6 := hk6.cell
  have hx : (str [49, 58, 48, 51, 58, 97, 100, 97, 51, 58, 102, 105, 98, 49, 58, 49, 49, 58, 51, 49, 58, 48, 49, 58, 48, 48, 58, 49, 58, 48]) = (⟨#[49, 58, 48, 51, 58, 97, 100, 97, 51, 58, 102, 105, 98, 49, 58, 49, 49, 58, 51, 49, 58, 48, 49, 58, 48, 48, 58, 49, 58, 48]⟩ : ByteArray) := rfl
  rw [hx]
  clear hx hb5 hk5 EE hb6 hk6 hr4 hri4 hre4 hl4 X4 X5
  go_wp2_with fail
  go_ret
  exact ⟨rfl, HB6.out⟩
end Go.Proofs.YtnjiomggbafkmaaGreatDoor
