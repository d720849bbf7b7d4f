/- Make of the laws on the gradebook. -/
import Derived.Test.YtnjiomggbafkmaaGreatDoorBookAG
namespace Go.Proofs.YtnjiomggbafkmaaGreatDoor
open Go.RowKit Go.Lib

theorem evB_lens {e : BEv} (h : evB e = true) : e.key.st.length ≤ 16 ∧ e.key.ex.length ≤ 16 ∧ e.text.length ≤ 4096 ∧ 0 ≤ e.kind ∧ e.kind ≤ 3 := by
  unfold evB at h
  simp only [Bool.and_eq_true, decide_eq_true_eq] at h
  have hk := h.1.1.1.1.2
  unfold keyB at hk
  simp only [Bool.and_eq_true, decide_eq_true_eq] at hk
  exact ⟨(nameB_len hk.1.1.1).2, (nameB_len hk.1.1.2).2, h.1.2, h.1.1.1.1.1.1, h.1.1.1.1.1.2⟩
theorem inv_strs {b : Bk} (h : InvB b) : StrsOk b.entries := fun x hx => by
  have := evB_lens (h.evs x hx).1
  omega
/-- Applied one after the other, what fails left out. -/
def makeStep (b : Bk) (e : BEv) : Bk := match applyR b e with | .ok c => c | .error _ => b
def makeB (l : List BEv) : Bk := l.foldl makeStep Bk.empty
theorem valid_step {b : Bk} {e : BEv} (h : validB b = true) : validB (makeStep b e) = true := by
  unfold makeStep applyR
  by_cases hv : validB b = true ∧ evB e = true
  · rw [if_pos hv]
    cases ha : applyE b e with
    | error c => exact h
    | ok c => exact valid_apply h hv.2 ha
  · rw [if_neg hv]; exact h
theorem applyR_pos {b : Bk} {e : BEv} {c : Int} (h : applyR b e = .error c) : 0 < c := by
  unfold applyR at h
  split at h
  · exact applyE_pos h
  · injection h with h; omega
theorem make_take {l : List BEv} {k : Nat} (h : k < l.length) : makeB (l.take (k + 1)) = makeStep (makeB (l.take k)) l[k] := by
  unfold makeB
  rw [List.take_succ_eq_append_getElem h, List.foldl_append]; rfl
theorem valid_make (l : List BEv) : validB (makeB l) = true := by
  unfold makeB
  suffices ∀ b, validB b = true → validB (l.foldl makeStep b) = true from this _ valid_empty
  induction l with
  | nil => exact fun b h => h
  | cons e l ih => exact fun b h => ih _ (valid_step h)
/-- What Make's loop keeps. -/
structure MkS (B g2 g3 : Nat) (w0 : World) (b : Bk) (ev : Value) (W : World) : Prop where
  bk : Blk W g3 31 #[.int .i64 b.tick, ev]
  res : Blk W g2 31 #[.int .i64 0, .slice none 0 0]
  own : ∃ rows, OwnEnts B W ev rows ∧ rows.map EnR.y = b.entries
  far : Below B w0 W
theorem MkS.below {B g2 g3 : Nat} {w0 W W' : World} {b : Bk} {ev : Value} (h : MkS B g2 g3 w0 b ev W) (hb : Below W.heap.size W W') (hB : B ≤ W.heap.size) : MkS B g2 g3 w0 b ev W' := by
  obtain ⟨h1, h2, ⟨rows, h3, h4⟩, h5⟩ := h
  exact ⟨h1.below hb, h2.below hb, ⟨rows, h3.old hb, h4⟩, below_then h5 hb hB⟩
theorem MkS.put {B g2 g3 : Nat} {w0 W : World} {b b' : Bk} {ev ev' : Value} (h : MkS B g2 g3 w0 b ev W) (hne : g2 ≠ g3) (hB : B ≤ g3) (ho : ∃ rows, OwnEnts B W ev' rows ∧ rows.map EnR.y = b'.entries) :
    MkS B g2 g3 w0 b' ev' ((W.setCell ⟨g3, 0, none⟩ (.int .i64 b'.tick)).setCell ⟨g3, 1, none⟩ ev') := by
  obtain ⟨rows, h1, h2⟩ := ho
  have k1 := h.bk.set_ 0 (.int .i64 b'.tick)
  refine ⟨by simpa using k1.set_ 1 ev', (h.res.far hne _).far hne _, ⟨rows, (h1.boxset h.bk (by decide) (by decide) (by decide) 0 _).boxset k1 (by decide) (by decide) (by decide) 1 _, h2⟩, (h.far.setCell hB _).setCell hB _⟩

set_option maxHeartbeats 4000000 in
set_option maxRecDepth 100000 in
theorem Make_walk (v : Value) (l : List BEv) (w : World) (h : RowsIn evCs 9 w v l) (hn : l.length ≤ 1000000000) (hs : ∀ x ∈ l, x.key.st.length ≤ 9223372036854775806 ∧ x.key.ex.length ≤ 9223372036854775806 ∧ x.text.length ≤ 9223372036854775806) :
    Calls Tryz.prog 13 #[v] w fun z w' => ∃ vb, z = .returned vb ∧ OwnBook w.heap.size w' vb (makeB l) ∧ Below w.heap.size w w' := by
  obtain ⟨a, c, rfl, _, hr⟩ := h
  have HR := Lib.hid hr
  have hls := Lib.hid hs
  obtain ⟨n, hnl⟩ : ∃ n, n = l.length := ⟨_, rfl⟩
  rw [← hnl] at hn ⊢
  replace hnl := Lib.hid hnl
  have hV : MkS w.heap.size w.heap.size (w.heap.size + 1) w Bk.empty (.slice none 0 0) ((w.alloc (.cells #[.int .i64 0, .slice none 0 0] 31)).alloc (.cells #[.int .i64 0, .slice none 0 0] 31)) := by
    refine ⟨?_, (Blk.new w _ _).alloc _, ⟨[], ⟨World.ownsRow_nil _ _ _ _, by simp, fun i j hi => by cases hi⟩, rfl⟩, ((Below.refl _ _).alloc (Nat.le_refl _) _).alloc (by simp) _⟩
    have := Blk.new (w.alloc (.cells #[.int .i64 0, .slice none 0 0] 31)) 31 #[.int .i64 0, .slice none 0 0]
    simp only [World.size_alloc] at this
    exact this
  have HV := Lib.hid hV
  clear hr hs hV
  go_enter Tryz.func13, Tryz.ntmps13
  go_wp2_with fail
  obtain ⟨B, hB⟩ : ∃ B, B = w.heap.size := ⟨_, rfl⟩
  obtain ⟨W0, hW0⟩ : ∃ W0, W0 = (w.alloc (.cells #[.int .i64 0, .slice none 0 0] 31)).alloc (.cells #[.int .i64 0, .slice none 0 0] 31) := ⟨_, rfl⟩
  rw [← hW0] at HV ⊢
  rw [← hB] at HV ⊢
  replace hB := Lib.hid hB
  clear hW0
  go_loopw [11] (fun v11 wr => ∃ (k : Nat) (ev : Value), k ≤ n ∧ v11 = .int .i64 k ∧ Hid (MkS B B (B + 1) w (makeB (l.take k)) ev wr)) (fun i _ => n - (RowKit.intOf i).toNat)
  case atStart => exact ⟨0, _, Nat.zero_le _, rfl, HV⟩
  case round =>
    clear HV
    obtain ⟨k, ev, hk, rfl, HV⟩ := hrel
    obtain ⟨⟨rows, ho, hm⟩⟩ := And.intro HV.out.own trivial
    obtain ⟨a', c', hev⟩ := own_slice' ho.ents
    subst hev
    have hBl := HV.out.res.lt
    by_cases hlt : k < n
    · have hkl : k < l.length := by rw [← hnl.out]; exact hlt
      obtain ⟨b, off, rfl, hb, hr⟩ := HR.out (by intro e0; rw [e0] at hkl; cases hkl)
      have hfar : Below w.heap.size w wr := by have := HV.out.far; rwa [hB.out] at this
      obtain ⟨c0, c1, c2, c3, c4, c5, c6, c7, c8⟩ := ev_cells (hr.below hfar hb) k hkl
      have hle := hls.out _ (List.getElem_mem hkl)
      have hmk := make_take hkl
      have hvm := valid_make (l.take k)
      obtain ⟨m, hmm⟩ : ∃ m, m = makeB (l.take k) := ⟨_, rfl⟩
      rw [← hmm] at HV hm hmk hvm
      obtain ⟨e, he⟩ : ∃ e, e = l[k] := ⟨_, rfl⟩
      rw [← he] at c0 c1 c2 c3 c4 c5 c6 c7 c8 hle hmk
      clear he hmm
      have hI := valid_inv hvm
      have hb3 := (Below.refl wr.heap.size wr).alloc (Nat.le_refl _) (.cells #[.int .i64 e.kind, .string (str e.key.st), .string (str e.key.ex), .int .i64 e.key.att, .int .i64 e.tick, .int .i64 e.ver, .int .i64 e.hun, .string (str e.text), .bool e.acc] 26)
      have hin := ho.in_.below hb3
      rw [hm] at hin
      have AP := Apply_walk m.tick (.slice a' rows.length c') m.entries e _ hin (by have := inv_raw hI; omega) (inv_strs hI) hle.1 hle.2.1 hle.2.2
      simp only [show (⟨m.tick, m.entries⟩ : Bk) = m from rfl] at AP
      obtain ⟨R, hR⟩ : ∃ R, R = applyR m e := ⟨_, rfl⟩
      rw [← hR] at AP
      obtain ⟨κ, hκ⟩ : ∃ κ, κ = codeOf R := ⟨_, rfl⟩
      rw [← hκ] at AP
      have g0 := HV.out.bk.cell
      have k1 : (k : Int) < (n : Int) := by omega
      have hlt3 := HV.out.bk.lt
      have HB3 := Lib.hid hb3
      replace AP := Lib.hid AP
      replace hκ := Lib.hid hκ
      replace hR := Lib.hid hR
      replace hmk := Lib.hid hmk
      clear hI hin hb3 hr ho hm hvm hfar
      have hne0 : ¬ (B + 1 = wr.heap.size) := by omega
      go_wp2_with fail
      refine AP.out.mono ?_
      rintro z w2 ⟨vb, rfl, ⟨ev2, rows2, rfl, ho2, hm2⟩, hb2⟩
      have hV2 := (HV.out.below HB3.out (by omega)).below hb2 (by have := HB3.out.size; omega)
      have g2 := hV2.bk.cell
      have hl2 := hV2.bk.lt
      obtain ⟨a2, p2, hev2⟩ := own_slice' ho2.ents
      subst hev2
      have hBB2 : B ≤ (wr.alloc (.cells #[.int .i64 e.kind, .string (str e.key.st), .string (str e.key.ex), .int .i64 e.key.att, .int .i64 e.tick, .int .i64 e.ver, .int .i64 e.hun, .string (str e.text), .bool e.acc] 26)).heap.size := by have := HB3.out.size; omega
      have hown2 : ∃ rows, OwnEnts B w2 (.slice a2 rows2.length p2) rows ∧ rows.map EnR.y = (outOf Bk.empty R).entries := ⟨rows2, ho2.mono hBB2, hm2⟩
      obtain ⟨b2, hb2d⟩ : ∃ b2, b2 = outOf Bk.empty R := ⟨_, rfl⟩
      rw [← hb2d] at hown2 ⊢
      have hne2 : ¬ (B + 1 = w2.heap.size) := by omega
      have gf := hV2.bk.free
      replace hV2 := Lib.hid hV2
      replace hown2 := Lib.hid hown2
      replace hb2d := Lib.hid hb2d
      clear hb2 ho2 hm2 c0 c1 c2 c3 c4 c5 c6 c7 c8 g0 HV AP hBB2
      cases R with
      | error q =>
        have hq : κ = q := hκ.out
        have hqp := applyR_pos hR.out.symm
        have hne : (κ == 0) = false := by rw [beq_eq_false_iff_ne, hq]; omega
        have hst := Lib.hid (show makeStep m e = m by unfold makeStep; rw [← hR.out])
        have hV3 := Lib.hid (hV2.out.below ((Below.refl _ _).alloc (Nat.le_refl _) (.cells #[.int .i64 b2.tick, .slice a2 rows2.length p2] 31)) (by omega))
        replace hq := Lib.hid hq
        go_wp2_with fail
        exact ⟨⟨k + 1, _, by omega, by go_num, by rw [hmk.out, hst.out]; exact hV3⟩, by simp [RowKit.intOf]; omega⟩
      | ok m2 =>
        have hq : κ = 0 := hκ.out
        subst hq
        have hst := Lib.hid (show makeStep m e = m2 by unfold makeStep; rw [← hR.out])
        have hm2 : b2 = m2 := hb2d.out
        subst hm2
        have hV3 := Lib.hid ((hV2.out.put (b' := b2) (by omega) (by omega) hown2.out).below ((Below.refl _ _).alloc (Nat.le_refl _) (.cells #[.int .i64 b2.tick, .slice a2 rows2.length p2] 31)) (by simp; omega))
        go_wp2_with fail
        exact ⟨⟨k + 1, _, by omega, by go_num, by rw [hmk.out, hst.out]; exact hV3⟩, by simp [RowKit.intOf]; omega⟩
    · have hkk : k = l.length := by rw [← hnl.out]; omega
      have g0 := HV.out.bk.cell
      have g1 := HV.out.res.cell
      have g2 := HV.out.res.free
      have hm' : makeB (l.take k) = makeB l := by rw [hkk, List.take_length]
      rw [hm'] at HV g0 hm
      go_wp2_with fail
      have k1 : Blk ((wr.setCell ⟨B, 0, none⟩ (.int .i64 (makeB l).tick)).setCell ⟨B, 1, none⟩ (.slice a' rows.length c')) B 31 #[.int .i64 (makeB l).tick, .slice a' rows.length c'] := by
        simpa using (HV.out.res.set_ 0 (.int .i64 (makeB l).tick)).set_ 1 (.slice a' rows.length c')
      have ho4 := (ho.boxset HV.out.res (by decide) (by decide) (by decide) 0 (.int .i64 (makeB l).tick)).boxset (HV.out.res.set_ 0 (.int .i64 (makeB l).tick)) (by decide) (by decide) (by decide) 1 (.slice a' rows.length c')
      have hf4 := (HV.out.far.setCell (Nat.le_refl B) (.int .i64 (makeB l).tick) (p := ⟨B, 0, none⟩)).setCell (Nat.le_refl B) (.slice a' rows.length c') (p := ⟨B, 1, none⟩)
      refine bodyPost_ret (v := .agg #[.int .i64 (makeB l).tick, .slice a' rows.length c']) (results_cell_row rfl _ _ B _ _ _ _ rfl k1 Tryz.underlying31 rfl (by kernel_rfl)) rfl ⟨_, rfl, ?_, ?_⟩
      · rw [← hB.out]; exact ⟨_, rows, rfl, ho4, hm⟩
      · rw [← hB.out]; exact hf4
end Go.Proofs.YtnjiomggbafkmaaGreatDoor
