/- apply of package book. -/
import Derived.Test.YtnjiomggbafkmaaGreatDoorBookR
import Derived.Laws.EntriesVeiled
namespace Go.Proofs.YtnjiomggbafkmaaGreatDoor
open Go.RowKit Go.Lib

/-- What apply keeps in hand between its calls: the builder, the event's box, the table of steps. -/
def AppS (B G ge gt : Nat) (tick : Int) (ev : Value) (rows : List EnR) (e : BEv) (w0 W : World) : Prop :=
  OwnBld B W G tick ev rows ∧ BoxEv ge e W ∧ Blk W gt 106 #[.func (.func 76) #[] #[], .func (.func 77) #[] #[], .func (.func 78) #[] #[], .func (.func 79) #[] #[]] ∧ Frm B w0 W
theorem AppS.below {B G ge gt : Nat} {tick : Int} {ev : Value} {rows : List EnR} {e : BEv} {w0 W W' : World} (h : AppS B G ge gt tick ev rows e w0 W) (hb : Below W.heap.size W W') : AppS B G ge gt tick ev rows e w0 W' :=
  ⟨h.1.old hb, h.2.1.below hb, h.2.2.1.below hb, h.2.2.2.below hb⟩
def Holds (S : World → Prop) (W : World) : Prop := S W
def liftR (t : Int) : Except Int (List BEn) → Except Int Bk
  | .error c => .error c
  | .ok l => .ok ⟨t, l⟩
theorem applyE_lift {b : Bk} {e : BEv} (h1 : hasE b.entries e = false) (h2 : ¬ e.tick < b.tick) :
    applyE b e = liftR e.tick (if e.kind = 0 then submitR b.entries e else match entryOf b.entries e.key with | none => .error 7 | some (i, y) => stepR b.entries i (stepEn y e)) := by
  unfold applyE
  rw [if_neg (by rw [h1]; decide), if_neg h2]
  by_cases hk : e.kind = 0
  · rw [if_pos hk, if_pos hk]
    unfold submitR
    split
    · rfl
    · split <;> rfl
  · rw [if_neg hk, if_neg hk]
    cases entryOf b.entries e.key with
    | none => rfl
    | some p =>
      obtain ⟨i, y⟩ := p
      simp only
      cases stepEn y e <;> rfl
theorem stepEn_pos {y : BEn} {e : BEv} {c : Int} (h : stepEn y e = .error c) : c = 8 ∨ c = 9 := by
  unfold stepEn at h
  repeat' split at h
  all_goals first | (injection h with h; omega) | cases h
theorem submitR_pos {es : List BEn} {e : BEv} {c : Int} (h : submitR es e = .error c) : c = 8 ∨ c = 9 := by
  unfold submitR at h
  repeat' split at h
  all_goals first | (injection h with h; omega) | cases h
theorem stepR_pos {es : List BEn} {i : Nat} {r : Except Int BEn} {c : Int} (h : stepR es i r = .error c) (hr : ∀ c, r = .error c → c = 8 ∨ c = 9) : c = 8 ∨ c = 9 := by
  cases r with
  | error d => unfold stepR at h; injection h with h; subst h; exact hr _ rfl
  | ok y => unfold stepR at h; cases h

set_option maxHeartbeats 4000000 in
set_option maxRecDepth 100000 in
theorem apply_walk (B G : Nat) (tick : Int) (ev : Value) (rows : List EnR) (e : BEv) (w : World) (h : OwnBld B w G tick ev rows) (hlen : rows.length ≤ 256) (hg : ∀ r ∈ rows, r.y.grades.length ≤ 1000 ∧ r.y.appeals.length ≤ 1000) (hn : (rawEvs (rows.map EnR.y)).length ≤ 100000000) (hk : 0 ≤ e.kind ∧ e.kind ≤ 3) :
    Calls Tryz.prog 45 #[.pointer (some ⟨G, 0, none⟩), evV e] w fun z w' => ∃ ev' rows' tick', z = .returned (.int .i64 (codeOf (applyE ⟨tick, rows.map EnR.y⟩ e))) ∧ OwnBld B w' G tick' ev' rows' ∧ (⟨tick', rows'.map EnR.y⟩ : Bk) = outOf ⟨tick, rows.map EnR.y⟩ (applyE ⟨tick, rows.map EnR.y⟩ e) ∧ Frm B w w' := by
  have hGl := h.blk.lt
  have hle := h.le
  have hA : AppS B G w.heap.size (w.heap.size + 1) tick ev rows e w ((w.alloc (.cells #[.int .i64 e.kind, .string (str e.key.st), .string (str e.key.ex), .int .i64 e.key.att, .int .i64 e.tick, .int .i64 e.ver, .int .i64 e.hun, .string (str e.text), .bool e.acc] 26)).alloc (.cells #[.func (.func 76) #[] #[], .func (.func 77) #[] #[], .func (.func 78) #[] #[], .func (.func 79) #[] #[]] 106)) := by
    refine ⟨(h.alloc _).alloc _, BoxEv.alloc (Blk.new w 26 #[.int .i64 e.kind, .string (str e.key.st), .string (str e.key.ex), .int .i64 e.key.att, .int .i64 e.tick, .int .i64 e.ver, .int .i64 e.hun, .string (str e.text), .bool e.acc]) _, ?_, ((Frm.refl (by omega)).alloc _).alloc _⟩
    have := Blk.new (w.alloc (.cells #[.int .i64 e.kind, .string (str e.key.st), .string (str e.key.ex), .int .i64 e.key.att, .int .i64 e.tick, .int .i64 e.ver, .int .i64 e.hun, .string (str e.text), .bool e.acc] 26)) 106 #[.func (.func 76) #[] #[], .func (.func 77) #[] #[], .func (.func 78) #[] #[], .func (.func 79) #[] #[]]
    simp only [World.size_alloc] at this
    exact this
  obtain ⟨R, hR⟩ : ∃ R, R = applyE ⟨tick, rows.map EnR.y⟩ e := ⟨_, rfl⟩
  rw [← hR]
  obtain ⟨S, hSd⟩ : ∃ S, S = AppS B G w.heap.size (w.heap.size + 1) tick ev rows e w := ⟨_, rfl⟩
  rw [← hSd] at hA
  replace hA := (show Holds S ((w.alloc (.cells #[.int .i64 e.kind, .string (str e.key.st), .string (str e.key.ex), .int .i64 e.key.att, .int .i64 e.tick, .int .i64 e.ver, .int .i64 e.hun, .string (str e.text), .bool e.acc] 26)).alloc (.cells #[.func (.func 76) #[] #[], .func (.func 77) #[] #[], .func (.func 78) #[] #[], .func (.func 79) #[] #[]] 106)) from hA)
  obtain ⟨a, c, rfl⟩ := own_slice' h.own.ents
  have KS : ∀ W W', Holds S W → Below W.heap.size W W' → Holds S W' := fun W W' h1 h2 => by rw [hSd] at h1 ⊢; unfold Holds at h1 ⊢; exact h1.below h2
  have hS1 : ∀ W, Holds S W → OwnBld B W G tick (.slice a rows.length c) rows := fun W h => by rw [hSd] at h; unfold Holds at h; exact h.1
  have hSE : ∀ W, Holds S W → BoxEv w.heap.size e W := fun W h => by rw [hSd] at h; unfold Holds at h; exact h.2.1
  have a0 : ∀ W, Holds S W → W.cell? ⟨G, 0, none⟩ = some (.int .i64 tick) := fun W h => (hS1 W h).blk.cell 0
  have a1 : ∀ W, Holds S W → W.cell? ⟨G, 1, none⟩ = some (.slice a rows.length c) := fun W h => (hS1 W h).blk.cell 1
  have b00 : ∀ W, Holds S W → W.cell? ⟨w.heap.size, 0, none⟩ = some (.int .i64 e.kind) := fun W h => (hSE W h).cells.1
  have b1 : ∀ W, Holds S W → W.cell? ⟨w.heap.size, 1, none⟩ = some (.string (str e.key.st)) := fun W h => (hSE W h).cells.2.1
  have b2 : ∀ W, Holds S W → W.cell? ⟨w.heap.size, 2, none⟩ = some (.string (str e.key.ex)) := fun W h => (hSE W h).cells.2.2.1
  have b3 : ∀ W, Holds S W → W.cell? ⟨w.heap.size, 3, none⟩ = some (.int .i64 e.key.att) := fun W h => (hSE W h).cells.2.2.2.1
  have b4 : ∀ W, Holds S W → W.cell? ⟨w.heap.size, 4, none⟩ = some (.int .i64 e.tick) := fun W h => (hSE W h).cells.2.2.2.2.1
  have HAS := fun W (hW : Holds S W) => has_walk tick _ _ e W (hS1 W hW).own.in_ hn (by rw [List.length_map]; omega)
  obtain ⟨bh, hbh⟩ : ∃ b, b = hasE (rows.map EnR.y) e := ⟨_, rfl⟩
  rw [← hbh] at HAS
  replace hbh := Lib.hid hbh
  have FIND := fun W (hW : Holds S W) => find_walk tick _ _ e.key W (hS1 W hW).own.in_ (by rw [List.length_map]; omega)
  have hSA := Lib.hid hA
  replace HAS := Lib.hid HAS
  obtain ⟨r, hr⟩ : ∃ r, r = findR (rows.map EnR.y) e.key := ⟨_, rfl⟩
  rw [← hr] at FIND
  replace hr := Lib.hid hr
  replace FIND := Lib.hid FIND
  replace hR := Lib.hid hR
  replace hSd := Lib.hid hSd
  replace hSE := Lib.hid hSE
  replace hS1 := Lib.hid hS1
  replace b00 := Lib.hid b00
  clear hA h
  go_enter Tryz.func45, Tryz.ntmps45
  go_wp2_with fail
  obtain ⟨ge, hge⟩ : ∃ ge, ge = w.heap.size := ⟨_, rfl⟩
  obtain ⟨gt, hgt⟩ : ∃ gt, gt = w.heap.size + 1 := ⟨_, rfl⟩
  obtain ⟨W0, hW0⟩ : ∃ W0, W0 = (w.alloc (.cells #[.int .i64 e.kind, .string (str e.key.st), .string (str e.key.ex), .int .i64 e.key.att, .int .i64 e.tick, .int .i64 e.ver, .int .i64 e.hun, .string (str e.text), .bool e.acc] 26)).alloc (.cells #[.func (.func 76) #[] #[], .func (.func 77) #[] #[], .func (.func 78) #[] #[], .func (.func 79) #[] #[]] 106) := ⟨_, rfl⟩
  rw [← hW0] at hSA ⊢
  rw [← hgt] at hSd ⊢
  rw [← hge] at hSd hSE b00 b1 b2 b3 b4 ⊢
  clear hW0 hge hgt
  obtain ⟨k, hk9⟩ : ∃ k : Nat, k = 9 := ⟨9, rfl⟩
  have zE : ∀ W, (Go.sizeOf 26).run Tryz.prog W = .ok k W := fun W => by rw [hk9]; kernel_rfl
  have ldE : ∀ W, Holds S W → (loadCellsFrom ⟨ge, 0, none⟩ 0 k #[]).run Tryz.prog W = .ok (evCs e).toArray W := fun W h => by rw [hk9]; exact Blk.loadC (hSE.out W h) _
  replace hk9 := Lib.hid hk9
  go_region_held3 (Holds S) (first | exact KS W0 _ hSA.out (Below.refl _ _).drew | exact KS _ _ (by assumption) hb1)
    (first
      | (go_at_call 49; refine (HAS.out _ (by assumption)).mono ?_; rintro z w1 ⟨rfl, hb1⟩))
  have hS2 := Lib.hid (show Holds S w1 by assumption)
  cases bh with
  | true =>
    have hH := hbh.out.symm
    have hRR := Lib.hid (show R = .error 6 by rw [hR.out]; unfold applyE; rw [if_pos hH])
    clear hH
    go_wp2_with fail
    go_ret
    exact ⟨_, _, tick, by rw [hRR.out]; rfl, hS1.out _ hS2.out, by rw [hRR.out]; rfl, by have := hS2.out; rw [hSd.out] at this; unfold Holds at this; exact this.2.2.2⟩
  | false =>
    have hH := Lib.hid hbh.out.symm
    go_wp2_with fail
    clear hb1
    have c0 := a0 _ hS2.out
    have c4 := b4 _ hS2.out
    by_cases ht : e.tick < tick
    · have hRR := Lib.hid (show R = .error 2 by rw [hR.out]; unfold applyE; rw [if_neg (by rw [hH.out]; decide), if_pos ht])
      have hd : decide (e.tick < tick) = true := by simpa using ht
      clear ht
      go_quiet (fail)
      go_wp2_with fail
      go_ret
      have hS3 := KS _ _ hS2.out (below_of_drewN nq)
      exact ⟨_, _, tick, by rw [hRR.out]; rfl, hS1.out _ hS3, by rw [hRR.out]; rfl, by rw [hSd.out] at hS3; unfold Holds at hS3; exact hS3.2.2.2⟩
    have hRR := Lib.hid (show R = _ from hR.out.trans (applyE_lift (b := ⟨tick, rows.map EnR.y⟩) hH.out ht))
    have hd : decide (e.tick < tick) = false := by simpa using ht
    clear ht hR
    go_quiet (fail)
    have hS3 := KS _ _ hS2.out (below_of_drewN nq)
    clear hS2 c0 c4
    obtain ⟨w2, hw2⟩ : ∃ w2, w2 = w1.drewN nq := ⟨_, rfl⟩
    rw [← hw2] at hS3 ⊢
    clear hw2
    replace hS3 := Lib.hid hS3
    go_wp2_with fail
    go_region_held3 (Holds S) (first | exact KS w2 _ hS3.out (Below.refl _ _).drew | exact KS _ _ (by assumption) hb1)
      (first
        | (go_at_call 22; refine (FIND.out _ (by assumption)).mono ?_; rintro z w3 ⟨rfl, hb1⟩))
    have hS4 := Lib.hid (show Holds S w3 by assumption)
    clear hS3 hb1
    obtain ⟨T, hTd⟩ : ∃ T, T = fun W => BoxEv ge e W ∧ Blk W gt 106 #[.func (.func 76) #[] #[], .func (.func 77) #[] #[], .func (.func 78) #[] #[], .func (.func 79) #[] #[]] := ⟨_, rfl⟩
    have bT : ∀ W, Holds T W → W.cell? ⟨ge, 0, none⟩ = some (.int .i64 e.kind) := fun W h => by rw [hTd] at h; exact (show _ ∧ _ from h).1.cells.1
    have ldT : ∀ W, Holds T W → (loadCellsFrom ⟨ge, 0, none⟩ 0 k #[]).run Tryz.prog W = .ok (evCs e).toArray W := fun W h => by rw [hk9.out]; rw [hTd] at h; exact Blk.loadC (show _ ∧ _ from h).1 _
    have KT : ∀ W W', Holds T W → KeepBlk W W' → Holds T W' := fun W W' h1 h2 => by
      rw [hTd] at h1 ⊢
      obtain ⟨h3, h4⟩ := (show _ ∧ _ from h1)
      exact (show _ ∧ _ from ⟨h2 _ _ _ (by decide) (by decide) (by decide) (by decide) h3, h2 _ _ _ (by decide) (by decide) (by decide) (by decide) h4⟩)
    have hT0 : Holds T w3.drew := by
      have := KS _ _ hS4.out (Below.refl _ _).drew
      rw [hSd.out] at this
      rw [hTd]
      obtain ⟨_, h3, h4, _⟩ := (show AppS _ _ _ _ _ _ _ _ _ _ from this)
      exact (show _ ∧ _ from ⟨h3, h4⟩)
    have hO3 := hS1.out _ (KS _ _ hS4.out (Below.refl _ _).drew)
    have hF3 : Frm B w w3.drew := by
      have := KS _ _ hS4.out (Below.refl _ _).drew
      rw [hSd.out] at this
      exact (show AppS _ _ _ _ _ _ _ _ _ _ from this).2.2.2
    have d0 := b00.out _ hS4.out
    have d1 := a1 _ hS4.out
    replace hTd := Lib.hid hTd
    replace bT := Lib.hid bT
    replace hT0 := Lib.hid hT0
    replace hO3 := Lib.hid hO3
    replace hF3 := Lib.hid hF3
    clear a0 a1 b1 b2 b3 b4 ldE b00 HAS FIND hS1 hSE hSA hSd KS hS4
    cases hen : entryOf (rows.map EnR.y) e.key with
    | none =>
      have hrr := hr.out
      rw [findR_no hen] at hrr
      subst hrr
      by_cases hkk : e.kind = 0
      · obtain ⟨R2, hR2⟩ : ∃ R2, R2 = submitR (rows.map EnR.y) e := ⟨_, rfl⟩
        have hRR := Lib.hid (show R = liftR e.tick R2 by rw [hRR.out, if_pos hkk, hR2])
        have hpos := Lib.hid (fun q (h : R2 = .error q) => submitR_pos (hR2.symm.trans h))
        have STEP := submit_walk B G tick _ rows e (.pointer none) w3.drew hO3.out hlen
        rw [← hR2] at STEP
        replace STEP := Lib.hid STEP
        have d0 : w3.cell? ⟨ge, 0, none⟩ = some (.int .i64 0) := by rw [d0, hkk]
        clear hR2 hk
        go_wp2_with fail
        have tk : ∀ W, Holds T W → W.cell? ⟨gt, 0, none⟩ = some (.func (.func 76) #[] #[]) := fun W h => by rw [hTd.out] at h; exact (show _ ∧ _ from h).2.cell 0
        have bk : ∀ W, Holds T W → W.cell? ⟨ge, 0, none⟩ = some (.int .i64 0) := fun W h => by have := bT.out W h; rw [hkk] at this; exact this
        replace hkk := Lib.hid hkk
        obtain ⟨κ, hκ⟩ : ∃ κ, κ = codeOf R2 := ⟨_, rfl⟩
        replace hκ := Lib.hid hκ
        go_region_held3 (Holds T) (first | exact hT0.out | exact hT1)
          (first | (go_at_call 76; refine STEP.out.mono ?_; rintro z w4 hpost; obtain ⟨ev', rows', hz, hO', hm', hF'⟩ := hpost; rw [← hκ.out] at hz; subst hz; have hT1 := KT _ _ hT0.out hF'.keep; replace hm' := Lib.hid hm'))
        have hFR := Lib.hid (hF3.out.trans hF')
        cases R2 with
        | error q =>
          have hq : κ = q := hκ.out
          have hqp := hpos.out q rfl
          have hne : (κ != 0) = true := by rw [bne_iff_ne, hq]; omega
          replace hq := Lib.hid hq
          go_wp2_with fail
          go_ret
          exact ⟨_, _, tick, by rw [hRR.out, hq.out]; rfl, hO', by rw [hRR.out]; show (⟨_, _⟩ : Bk) = ⟨_, _⟩; rw [hm'.out]; rfl, hFR.out⟩
        | ok l =>
          have hq : κ = 0 := hκ.out
          subst hq
          have g4 : w4.cell? ⟨ge, 4, none⟩ = some (.int .i64 e.tick) := by have := hT1; rw [hTd.out] at this; exact (show _ ∧ _ from this).1.cells.2.2.2.2.1
          have g0 := hO'.blk.cell 0
          have gf := hO'.blk.free 0
          have HO := Lib.hid hO'
          clear hO' hT1
          go_wp2_with fail
          go_ret
          refine ⟨_, _, e.tick, by rw [hRR.out]; rfl, HO.out.tick_ e.tick, by rw [hRR.out]; show (⟨_, _⟩ : Bk) = ⟨_, _⟩; rw [hm'.out]; rfl, hFR.out.step ((Below.refl _ _).setCell HO.out.le _) fun g U cs x1 x2 x3 x4 hb => hb.far (fun e => Blk.ne_ hb HO.out.blk x4 e) _⟩
      · have hRR := Lib.hid (show R = .error 7 by rw [hRR.out, if_neg hkk, hen]; rfl)
        have hd0 : (e.kind != 0) = true := by rw [bne_iff_ne]; exact hkk
        go_wp2_with fail
        go_ret
        exact ⟨_, _, tick, by rw [hRR.out]; rfl, hO3.out.old ⟨rfl, rfl, rfl, Nat.le_refl _, fun _ _ => rfl⟩, by rw [hRR.out]; rfl, hF3.out.below ⟨rfl, rfl, rfl, Nat.le_refl _, fun _ _ => rfl⟩⟩
    | some p =>
      obtain ⟨i, y⟩ := p
      have hrr := hr.out
      rw [findR_some hen] at hrr
      subst hrr
      obtain ⟨hy1, _, _⟩ := entryOf_some hen
      rw [List.getElem?_map] at hy1
      obtain ⟨rw0, hrow1, hrow2⟩ := Option.map_eq_some_iff.1 hy1
      obtain ⟨hir, hrow3⟩ := List.getElem?_eq_some_iff.1 hrow1
      have hyy : y = rows[i].y := by rw [hrow3]; exact hrow2.symm
      obtain ⟨gE, c2, hac, _, _⟩ := hO3.out.own.ents.form (by omega)
      have hac1 : a = some ⟨gE, 0, none⟩ := by injection hac
      have hac2 : c = c2 := by injection hac
      subst hac1 hac2
      have hb := hg _ (List.getElem_mem hir)
      have hRR := Lib.hid (show R = liftR e.tick (if e.kind = 0 then submitR (rows.map EnR.y) e else stepR (rows.map EnR.y) i (stepEn rows[i].y e)) by rw [hRR.out, hen, hyy])
      clear hac hy1 hrow1 hrow2 hrow3 hyy hen hr hg
      have hiz : (i : Int) < (rows.length : Int) := by omega
      rcases (show e.kind = 0 ∨ e.kind = 1 ∨ e.kind = 2 ∨ e.kind = 3 by omega) with hkk | hkk | hkk | hkk
      · obtain ⟨R2, hR2⟩ : ∃ R2, R2 = submitR (rows.map EnR.y) e := ⟨_, rfl⟩
        have hRR := Lib.hid (show R = liftR e.tick R2 by rw [hRR.out, if_pos hkk, hR2])
        have hpos := Lib.hid (fun q (h : R2 = .error q) => submitR_pos (hR2.symm.trans h))
        have STEP := submit_walk B G tick _ rows e (.pointer (some ⟨gE, i * 7, none⟩)) w3.drew hO3.out hlen
        rw [← hR2] at STEP
        replace STEP := Lib.hid STEP
        clear hR2 hk d0
        go_wp2_with fail
        have tk : ∀ W, Holds T W → W.cell? ⟨gt, 0, none⟩ = some (.func (.func 76) #[] #[]) := fun W h => by rw [hTd.out] at h; exact (show _ ∧ _ from h).2.cell 0
        have bk : ∀ W, Holds T W → W.cell? ⟨ge, 0, none⟩ = some (.int .i64 0) := fun W h => by have := bT.out W h; rw [hkk] at this; exact this
        replace hkk := Lib.hid hkk
        obtain ⟨κ, hκ⟩ : ∃ κ, κ = codeOf R2 := ⟨_, rfl⟩
        replace hκ := Lib.hid hκ
        go_region_held3 (Holds T) (first | exact hT0.out | exact hT1)
          (first | (go_at_call 76; refine STEP.out.mono ?_; rintro z w4 hpost; obtain ⟨ev', rows', hz, hO', hm', hF'⟩ := hpost; rw [← hκ.out] at hz; subst hz; have hT1 := KT _ _ hT0.out hF'.keep; replace hm' := Lib.hid hm'))
        have hFR := Lib.hid (hF3.out.trans hF')
        cases R2 with
        | error q =>
          have hq : κ = q := hκ.out
          have hqp := hpos.out q rfl
          have hne : (κ != 0) = true := by rw [bne_iff_ne, hq]; omega
          replace hq := Lib.hid hq
          go_wp2_with fail
          go_ret
          exact ⟨_, _, tick, by rw [hRR.out, hq.out]; rfl, hO', by rw [hRR.out]; show (⟨_, _⟩ : Bk) = ⟨_, _⟩; rw [hm'.out]; rfl, hFR.out⟩
        | ok l =>
          have hq : κ = 0 := hκ.out
          subst hq
          have g4 : w4.cell? ⟨ge, 4, none⟩ = some (.int .i64 e.tick) := by have := hT1; rw [hTd.out] at this; exact (show _ ∧ _ from this).1.cells.2.2.2.2.1
          have g0 := hO'.blk.cell 0
          have gf := hO'.blk.free 0
          have HO := Lib.hid hO'
          clear hO' hT1
          go_wp2_with fail
          go_ret
          refine ⟨_, _, e.tick, by rw [hRR.out]; rfl, HO.out.tick_ e.tick, by rw [hRR.out]; show (⟨_, _⟩ : Bk) = ⟨_, _⟩; rw [hm'.out]; rfl, hFR.out.step ((Below.refl _ _).setCell HO.out.le _) fun g U cs x1 x2 x3 x4 hb => hb.far (fun e => Blk.ne_ hb HO.out.blk x4 e) _⟩
      · obtain ⟨R2, hR2⟩ : ∃ R2, R2 = stepR (rows.map EnR.y) i (stepEn rows[i].y e) := ⟨_, rfl⟩
        have hRR := Lib.hid (show R = liftR e.tick R2 by rw [hRR.out, if_neg (by omega), hR2])
        have hpos := Lib.hid (fun q (h : R2 = .error q) => stepR_pos (hR2.symm.trans h) (fun _ => stepEn_pos))
        have STEP := grade_walk B G tick gE c rows e i hir w3.drew hO3.out (by omega) hkk
        rw [← hR2] at STEP
        replace STEP := Lib.hid STEP
        clear hR2 hk d0
        go_wp2_with fail
        have tk : ∀ W, Holds T W → W.cell? ⟨gt, 1, none⟩ = some (.func (.func 77) #[] #[]) := fun W h => by rw [hTd.out] at h; exact (show _ ∧ _ from h).2.cell 1
        have bk : ∀ W, Holds T W → W.cell? ⟨ge, 0, none⟩ = some (.int .i64 1) := fun W h => by have := bT.out W h; rw [hkk] at this; exact this
        replace hkk := Lib.hid hkk
        obtain ⟨κ, hκ⟩ : ∃ κ, κ = codeOf R2 := ⟨_, rfl⟩
        replace hκ := Lib.hid hκ
        go_region_held3 (Holds T) (first | exact hT0.out | exact hT1)
          (first | (go_at_call 77; refine STEP.out.mono ?_; rintro z w4 hpost; obtain ⟨ev', rows', hz, hO', hm', hF'⟩ := hpost; rw [← hκ.out] at hz; subst hz; have hT1 := KT _ _ hT0.out hF'.keep; replace hm' := Lib.hid hm'))
        have hFR := Lib.hid (hF3.out.trans hF')
        cases R2 with
        | error q =>
          have hq : κ = q := hκ.out
          have hqp := hpos.out q rfl
          have hne : (κ != 0) = true := by rw [bne_iff_ne, hq]; omega
          replace hq := Lib.hid hq
          go_wp2_with fail
          go_ret
          exact ⟨_, _, tick, by rw [hRR.out, hq.out]; rfl, hO', by rw [hRR.out]; show (⟨_, _⟩ : Bk) = ⟨_, _⟩; rw [hm'.out]; rfl, hFR.out⟩
        | ok l =>
          have hq : κ = 0 := hκ.out
          subst hq
          have g4 : w4.cell? ⟨ge, 4, none⟩ = some (.int .i64 e.tick) := by have := hT1; rw [hTd.out] at this; exact (show _ ∧ _ from this).1.cells.2.2.2.2.1
          have g0 := hO'.blk.cell 0
          have gf := hO'.blk.free 0
          have HO := Lib.hid hO'
          clear hO' hT1
          go_wp2_with fail
          go_ret
          refine ⟨_, _, e.tick, by rw [hRR.out]; rfl, HO.out.tick_ e.tick, by rw [hRR.out]; show (⟨_, _⟩ : Bk) = ⟨_, _⟩; rw [hm'.out]; rfl, hFR.out.step ((Below.refl _ _).setCell HO.out.le _) fun g U cs x1 x2 x3 x4 hb => hb.far (fun e => Blk.ne_ hb HO.out.blk x4 e) _⟩
      · obtain ⟨R2, hR2⟩ : ∃ R2, R2 = stepR (rows.map EnR.y) i (stepEn rows[i].y e) := ⟨_, rfl⟩
        have hRR := Lib.hid (show R = liftR e.tick R2 by rw [hRR.out, if_neg (by omega), hR2])
        have hpos := Lib.hid (fun q (h : R2 = .error q) => stepR_pos (hR2.symm.trans h) (fun _ => stepEn_pos))
        have STEP := appeal_walk B G tick gE c rows e i hir w3.drew hO3.out (by omega) hkk
        rw [← hR2] at STEP
        replace STEP := Lib.hid STEP
        clear hR2 hk d0
        go_wp2_with fail
        have tk : ∀ W, Holds T W → W.cell? ⟨gt, 2, none⟩ = some (.func (.func 78) #[] #[]) := fun W h => by rw [hTd.out] at h; exact (show _ ∧ _ from h).2.cell 2
        have bk : ∀ W, Holds T W → W.cell? ⟨ge, 0, none⟩ = some (.int .i64 2) := fun W h => by have := bT.out W h; rw [hkk] at this; exact this
        replace hkk := Lib.hid hkk
        obtain ⟨κ, hκ⟩ : ∃ κ, κ = codeOf R2 := ⟨_, rfl⟩
        replace hκ := Lib.hid hκ
        go_region_held3 (Holds T) (first | exact hT0.out | exact hT1)
          (first | (go_at_call 78; refine STEP.out.mono ?_; rintro z w4 hpost; obtain ⟨ev', rows', hz, hO', hm', hF'⟩ := hpost; rw [← hκ.out] at hz; subst hz; have hT1 := KT _ _ hT0.out hF'.keep; replace hm' := Lib.hid hm'))
        have hFR := Lib.hid (hF3.out.trans hF')
        cases R2 with
        | error q =>
          have hq : κ = q := hκ.out
          have hqp := hpos.out q rfl
          have hne : (κ != 0) = true := by rw [bne_iff_ne, hq]; omega
          replace hq := Lib.hid hq
          go_wp2_with fail
          go_ret
          exact ⟨_, _, tick, by rw [hRR.out, hq.out]; rfl, hO', by rw [hRR.out]; show (⟨_, _⟩ : Bk) = ⟨_, _⟩; rw [hm'.out]; rfl, hFR.out⟩
        | ok l =>
          have hq : κ = 0 := hκ.out
          subst hq
          have g4 : w4.cell? ⟨ge, 4, none⟩ = some (.int .i64 e.tick) := by have := hT1; rw [hTd.out] at this; exact (show _ ∧ _ from this).1.cells.2.2.2.2.1
          have g0 := hO'.blk.cell 0
          have gf := hO'.blk.free 0
          have HO := Lib.hid hO'
          clear hO' hT1
          go_wp2_with fail
          go_ret
          refine ⟨_, _, e.tick, by rw [hRR.out]; rfl, HO.out.tick_ e.tick, by rw [hRR.out]; show (⟨_, _⟩ : Bk) = ⟨_, _⟩; rw [hm'.out]; rfl, hFR.out.step ((Below.refl _ _).setCell HO.out.le _) fun g U cs x1 x2 x3 x4 hb => hb.far (fun e => Blk.ne_ hb HO.out.blk x4 e) _⟩
      · obtain ⟨R2, hR2⟩ : ∃ R2, R2 = stepR (rows.map EnR.y) i (stepEn rows[i].y e) := ⟨_, rfl⟩
        have hRR := Lib.hid (show R = liftR e.tick R2 by rw [hRR.out, if_neg (by omega), hR2])
        have hpos := Lib.hid (fun q (h : R2 = .error q) => stepR_pos (hR2.symm.trans h) (fun _ => stepEn_pos))
        have STEP := decide_walk B G tick gE c rows e i hir w3.drew hO3.out (by omega) (by omega)
        rw [← hR2] at STEP
        replace STEP := Lib.hid STEP
        clear hR2 hk d0
        go_wp2_with fail
        have tk : ∀ W, Holds T W → W.cell? ⟨gt, 3, none⟩ = some (.func (.func 79) #[] #[]) := fun W h => by rw [hTd.out] at h; exact (show _ ∧ _ from h).2.cell 3
        have bk : ∀ W, Holds T W → W.cell? ⟨ge, 0, none⟩ = some (.int .i64 3) := fun W h => by have := bT.out W h; rw [hkk] at this; exact this
        replace hkk := Lib.hid hkk
        obtain ⟨κ, hκ⟩ : ∃ κ, κ = codeOf R2 := ⟨_, rfl⟩
        replace hκ := Lib.hid hκ
        go_region_held3 (Holds T) (first | exact hT0.out | exact hT1)
          (first | (go_at_call 79; refine STEP.out.mono ?_; rintro z w4 hpost; obtain ⟨ev', rows', hz, hO', hm', hF'⟩ := hpost; rw [← hκ.out] at hz; subst hz; have hT1 := KT _ _ hT0.out hF'.keep; replace hm' := Lib.hid hm'))
        have hFR := Lib.hid (hF3.out.trans hF')
        cases R2 with
        | error q =>
          have hq : κ = q := hκ.out
          have hqp := hpos.out q rfl
          have hne : (κ != 0) = true := by rw [bne_iff_ne, hq]; omega
          replace hq := Lib.hid hq
          go_wp2_with fail
          go_ret
          exact ⟨_, _, tick, by rw [hRR.out, hq.out]; rfl, hO', by rw [hRR.out]; show (⟨_, _⟩ : Bk) = ⟨_, _⟩; rw [hm'.out]; rfl, hFR.out⟩
        | ok l =>
          have hq : κ = 0 := hκ.out
          subst hq
          have g4 : w4.cell? ⟨ge, 4, none⟩ = some (.int .i64 e.tick) := by have := hT1; rw [hTd.out] at this; exact (show _ ∧ _ from this).1.cells.2.2.2.2.1
          have g0 := hO'.blk.cell 0
          have gf := hO'.blk.free 0
          have HO := Lib.hid hO'
          clear hO' hT1
          go_wp2_with fail
          go_ret
          refine ⟨_, _, e.tick, by rw [hRR.out]; rfl, HO.out.tick_ e.tick, by rw [hRR.out]; show (⟨_, _⟩ : Bk) = ⟨_, _⟩; rw [hm'.out]; rfl, hFR.out.step ((Below.refl _ _).setCell HO.out.le _) fun g U cs x1 x2 x3 x4 hb => hb.far (fun e => Blk.ne_ hb HO.out.blk x4 e) _⟩
end Go.Proofs.YtnjiomggbafkmaaGreatDoor
