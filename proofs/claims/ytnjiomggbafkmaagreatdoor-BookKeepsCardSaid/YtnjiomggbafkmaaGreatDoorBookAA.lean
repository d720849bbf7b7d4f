/- Valid of package book. -/
import Derived.Test.YtnjiomggbafkmaaGreatDoorBookZ
import Derived.Deep.Onto
import Derived.Test.YtnjiomggbafkmaaGreatDoorBookW
namespace Go.Proofs.YtnjiomggbafkmaaGreatDoor
open Go.RowKit Go.Lib

theorem applyE_pos {b : Bk} {e : BEv} {c : Int} (h : applyE b e = .error c) : 0 < c := by
  unfold applyE at h
  split at h
  · injection h with h; omega
  split at h
  · injection h with h; omega
  split at h
  · split at h
    · injection h with h; omega
    split at h
    · injection h with h; omega
    · cases h
  · split at h
    · injection h with h; omega
    · split at h
      · rename_i hs
        injection h with h
        have := stepEn_pos hs
        omega
      · cases h
theorem replay_snoc {s m : Bk} {l : List BEv} {j : Nat} (hj : j < l.length) (h : replayE s (l.take j) = some m) : replayE s (l.take (j + 1)) = replayE m [l[j]] := by
  rw [List.take_succ_eq_append_getElem hj, replayE_append, h]; rfl
theorem replay_all {s m : Bk} {l : List BEv} {j : Nat} (h : replayE s (l.take j) = some m) : replayE s l = replayE m (l.drop j) := by
  conv => lhs; rw [← List.take_append_drop j l]
  rw [replayE_append, h]; rfl
theorem replay_bad {s m : Bk} {l : List BEv} {j : Nat} (hj : j < l.length) (h : replayE s (l.take j) = some m) (hb : evB l[j] = false ∨ ∃ c, applyE m l[j] = .error c) : replayE s l = none := by
  rw [replay_all h, List.drop_eq_getElem_cons hj]
  unfold replayE
  rcases hb with hb | ⟨c, hc⟩
  · rw [if_neg (by rw [hb]; decide)]
  · rw [hc]; split <;> rfl
theorem replay_next {s m c : Bk} {l : List BEv} {j : Nat} (hj : j < l.length) (h : replayE s (l.take j) = some m) (h1 : evB l[j] = true) (h2 : applyE m l[j] = .ok c) : replayE s (l.take (j + 1)) = some c := by
  rw [replay_snoc hj h]
  unfold replayE
  rw [if_pos h1, h2]; rfl
theorem inv_raw {b : Bk} (h : InvB b) : (rawEvs b.entries).length ≤ 12544 := by
  have : ∀ l : List BEn, (∀ y ∈ l, y.grades.length ≤ 16 ∧ y.appeals.length ≤ 16) → (rawEvs l).length ≤ l.length * 49 := by
    intro l
    induction l with
    | nil => intro _; simp [rawEvs]
    | cons y l ih =>
      intro hl
      have h1 := ih (fun z hz => hl z (List.mem_cons_of_mem _ hz))
      have h2 := hl y List.mem_cons_self
      have h3 : (y.appeals.flatMap (BAp.evs y.key)).length ≤ 2 * y.appeals.length := by
        generalize y.appeals = a
        induction a with
        | nil => simp
        | cons x a ih2 =>
          have hx : (BAp.evs y.key x).length ≤ 2 := by unfold BAp.evs; split <;> simp
          rw [List.flatMap_cons, List.length_append, List.length_cons]
          omega
      simp only [rawEvs, List.flatMap_cons, List.length_append, BEn.evs, List.length_cons, List.length_map] at h1 ⊢
      omega
  have h1 := this b.entries h.lens
  have h2 := h.len
  omega
theorem own_keep {w w' : World} {B k n : Nat} {T : TypeId} {v : Value} {xs : List Value} (h : w.ownsRow B T k v n xs) (hk : KeepBlk w w') (h1 : T ≠ 39) (h2 : T ≠ 42) (h3 : T ≠ 44) (h4 : T ≠ 76) : w'.ownsRow B T k v n xs := by
  refine ⟨h.1, ?_⟩
  rcases h.2 with h0 | ⟨g, cap, cur, rfl, hb, hg, rest⟩
  · exact .inl h0
  · exact .inr ⟨g, cap, cur, rfl, hb, hk g T cur h1 h2 h3 h4 hg, rest⟩
/-- A book's strings are such as Go holds. -/
def StrsOk (es : List BEn) : Prop := ∀ x ∈ rawEvs es, x.key.st.length ≤ 9223372036854775806 ∧ x.key.ex.length ≤ 9223372036854775806 ∧ x.text.length ≤ 9223372036854775806

theorem EntriesIn.form {w : World} {v : Value} {es : List BEn} (h : EntriesIn w v es) : ∃ a c, v = .slice a es.length c := by
  obtain ⟨rows, rfl, ⟨a, c, hv, _⟩, _⟩ := h
  exact ⟨a, c, by rw [List.length_map]; exact hv⟩
/-- The builder that a review begins with. -/
theorem OwnBld.fresh {B : Nat} {w : World} (hB : B ≤ w.heap.size) : OwnBld B (w.alloc (.cells #[.int .i64 0, .slice none 0 0] 76)) w.heap.size 0 (.slice none 0 0) [] :=
  ⟨Blk.new w _ _, hB, World.ownsRow_nil _ _ _ _, by simp, fun i j hi => by cases hi⟩
/-- What Valid's loop keeps. -/
structure VS (B G gb : Nat) (t : Int) (v vE : Value) (evs : List BEv) (w0 : World) (m : Bk) (W : World) : Prop where
  bld : ∃ ev rows, OwnBld B W G m.tick ev rows ∧ rows.map EnR.y = m.entries
  frm : Frm B w0 W
  box : Blk W gb 31 #[.int .i64 t, v]
  evs : EvOwn B W vE evs
theorem VS.below {B G gb : Nat} {t : Int} {v vE : Value} {evs : List BEv} {w0 W W' : World} {m : Bk} (h : VS B G gb t v vE evs w0 m W) (hb : Below W.heap.size W W') : VS B G gb t v vE evs w0 m W' := by
  obtain ⟨⟨ev, rows, h1, h2⟩, h3, h4, h5⟩ := h
  exact ⟨⟨ev, rows, h1.old hb, h2⟩, h3.below hb, h4.below hb, ownsRow_old h5 hb⟩
theorem VS.next {B G gb : Nat} {t : Int} {v vE : Value} {evs : List BEv} {w0 W W' : World} {m m' : Bk} (h : VS B G gb t v vE evs w0 m W) (hb : Frm B W W') (hn : ∃ ev rows, OwnBld B W' G m'.tick ev rows ∧ rows.map EnR.y = m'.entries) : VS B G gb t v vE evs w0 m' W' :=
  ⟨hn, h.frm.trans hb, hb.keep _ _ _ (by decide) (by decide) (by decide) (by decide) h.box, own_keep h.evs hb.keep (by decide) (by decide) (by decide) (by decide)⟩

set_option maxHeartbeats 4000000 in
set_option maxRecDepth 100000 in
theorem valid_walk (t : Int) (v : Value) (es : List BEn) (w : World) (h : EntriesIn w v es) (hn : (rawEvs es).length ≤ 100000000) (hs : StrsOk es) :
    Calls Tryz.prog 32 #[.agg #[.int .i64 t, v]] w fun z w' => z = .returned (.bool (validB ⟨t, es⟩)) ∧ Below w.heap.size w w' := by
  obtain ⟨β, hβ⟩ : ∃ β, β = validB ⟨t, es⟩ := ⟨_, rfl⟩
  rw [← hβ]
  obtain ⟨a, c, rfl⟩ := h.form
  obtain ⟨n, hnl⟩ : ∃ n, n = es.length := ⟨_, rfl⟩
  rw [← hnl] at h ⊢
  have hb1 := (Below.refl w.heap.size w).alloc (Nat.le_refl _) (.cells #[.int .i64 t, .slice a n c] 31)
  have hb2 := hb1.alloc (by simp) (.cells #[.int .i64 0, .slice none 0 0] 76)
  have HEV := events_walk t (.slice a n c) es _ (h.below hb2) hn
  have HO := OwnBld.fresh (w := w.alloc (.cells #[.int .i64 t, .slice a n c] 31)) (B := w.heap.size) (by simp)
  have HK := (Blk.new w 31 #[.int .i64 t, .slice a n c]).alloc (.cells #[.int .i64 0, .slice none 0 0] 76)
  simp only [World.size_alloc] at HO
  have HBB := hb2
  have HF2 : Frm w.heap.size w ((w.alloc (.cells #[.int .i64 t, .slice a n c] 31)).alloc (.cells #[.int .i64 0, .slice none 0 0] 76)) := ((Frm.refl (Nat.le_refl _)).alloc _).alloc _
  have HBx := Lib.hid hb1
  have H0 := Lib.hid h
  replace HEV := Lib.hid HEV
  replace HO := Lib.hid HO
  replace HK := Lib.hid HK
  replace HF2 := Lib.hid HF2
  replace hβ := Lib.hid hβ
  have hnl2 := Lib.hid hnl
  clear hb1 hb2 h HBB hnl
  go_enter Tryz.func32, Tryz.ntmps32
  by_cases hbig : 256 < n
  · have hif := Lib.hid (show β = false by
      rw [hβ.out]; unfold validB
      rw [Bool.and_eq_false_iff]; left
      rw [decide_eq_false_iff_not]; show ¬ es.length ≤ 256; rw [← hnl2.out]; omega)
    have hd : decide (256 < (n : Int)) = true := by rw [decide_eq_true_eq]; omega
    go_wp2_with fail
    go_ret
    exact ⟨by rw [hif.out]; rfl, HBx.out⟩
  have hd : decide (256 < (n : Int)) = false := by rw [decide_eq_false_iff_not]; omega
  go_wp2_with fail
  refine HEV.out.mono ?_
  rintro z w1 ⟨vE, rfl, hev, hb1⟩
  have hβ2 := Lib.hid (show β = decide (replayE Bk.empty (evsOf es) = some ⟨t, es⟩) by
    rw [hβ.out]; unfold validB
    rw [decide_eq_true (show (⟨t, es⟩ : Bk).entries.length ≤ 256 by show es.length ≤ 256; rw [← hnl2.out]; omega), Bool.true_and])
  obtain ⟨l, hl⟩ : ∃ l, l = evsOf es := ⟨_, rfl⟩
  have hls : ∀ x ∈ l, x.key.st.length ≤ 9223372036854775806 ∧ x.key.ex.length ≤ 9223372036854775806 ∧ x.text.length ≤ 9223372036854775806 := fun x hx => hs x (by rw [hl] at hx; exact mem_sortBy.1 hx)
  have hll : l.length ≤ 100000000 := by rw [hl]; unfold evsOf; rw [sortBy_length]; exact hn
  rw [← hl] at hev
  replace hl := Lib.hid hl
  have HV : VS w.heap.size (w.heap.size + 1) w.heap.size t (.slice a n c) vE l w Bk.empty w1 :=
    ⟨⟨_, _, HO.out.old hb1, rfl⟩, HF2.out.below hb1, HK.out.below hb1, World.ownsRow.mono hev (by simp; omega)⟩
  obtain ⟨aE, cE, rfl⟩ := own_slice' hev
  replace HV := Lib.hid HV
  clear hev hb1 HO HK HF2 HEV
  obtain ⟨gb, hgb⟩ : ∃ gb, gb = w.heap.size := ⟨_, rfl⟩
  obtain ⟨G, hG⟩ : ∃ G, G = w.heap.size + 1 := ⟨_, rfl⟩
  rw [← hG] at HV ⊢
  obtain ⟨B, hB⟩ : ∃ B, B = w.heap.size := ⟨_, rfl⟩
  rw [← hB] at HV ⊢
  replace hB := Lib.hid hB
  clear hgb gb hG
  go_wp2_with fail
  go_loopw [15] (fun v15 wr => ∃ (k : Nat) (m : Bk), k ≤ l.length ∧ v15 = .int .i64 k ∧ Hid (replayE Bk.empty (l.take k) = some m) ∧ Hid (VS B G B t (.slice a n c) (.slice aE l.length cE) l w m wr)) (fun i _ => l.length - (RowKit.intOf i).toNat)
  case atStart => exact ⟨0, Bk.empty, Nat.zero_le _, rfl, Lib.hid rfl, HV⟩
  case round =>
    clear HV
    obtain ⟨k, m, hk, rfl, hrp, HV⟩ := hrel
    have hI : InvB m := replay_inv _ InvB.empty hrp.out
    by_cases hlt : k < l.length
    · obtain ⟨b, off, hae, hb, hr⟩ : ∃ b off, aE = some ⟨b, off, none⟩ ∧ b < wr.heap.size ∧ RowsAt evCs 9 wr b off l := by
        rcases (RowsIn.of_own evCs_len (by decide) HV.out.evs).1.split with ⟨e0, _⟩ | ⟨b, off, c', e1, e2, e3⟩
        · rw [e0] at hlt; cases hlt
        · exact ⟨b, off, by injection e1, e2, e3⟩
      subst hae
      obtain ⟨c0, c1, c2, c3, c4, c5, c6, c7, c8⟩ := ev_cells hr k hlt
      have hle := hls _ (List.getElem_mem hlt)
      have hnext := fun cc => replay_next (c := cc) hlt hrp.out
      have hbad := replay_bad hlt hrp.out
      obtain ⟨e, he⟩ : ∃ e, e = l[k] := ⟨_, rfl⟩
      rw [← he] at c0 c1 c2 c3 c4 c5 c6 c7 c8 hle hnext hbad
      clear he hr
      obtain ⟨⟨ev, rows, ho, hrm⟩, _, _, _⟩ := HV.out
      have hiv := hI.lens
      have hil := hI.len
      have hir := inv_raw hI
      rw [← hrm] at hiv hil hir
      rw [List.length_map] at hil
      have hb3 := (Below.refl wr.heap.size wr).alloc (Nat.le_refl _) (.cells #[.int .i64 e.kind, .string (str e.key.st), .string (str e.key.ex), .int .i64 e.key.att, .int .i64 e.tick, .int .i64 e.ver, .int .i64 e.hun, .string (str e.text), .bool e.acc] 26)
      have hkk := Blk.new wr 26 #[.int .i64 e.kind, .string (str e.key.st), .string (str e.key.ex), .int .i64 e.key.att, .int .i64 e.tick, .int .i64 e.ver, .int .i64 e.hun, .string (str e.text), .bool e.acc]
      have VE := validEvent_walk e (wr.alloc (.cells #[.int .i64 e.kind, .string (str e.key.st), .string (str e.key.ex), .int .i64 e.key.att, .int .i64 e.tick, .int .i64 e.ver, .int .i64 e.hun, .string (str e.text), .bool e.acc] 26)) hle.1 hle.2.1 hle.2.2
      have AP := fun W (hW : Below wr.heap.size wr W) (hk : 0 ≤ e.kind ∧ e.kind ≤ 3) => apply_walk B G m.tick ev rows e W (ho.old hW) hil (fun r hr => by have := hiv _ (List.mem_map_of_mem hr); omega) (by omega) hk
      rw [hrm] at AP
      have hV3 := HV.out.below hb3
      have HB3 := Lib.hid hb3
      have HKK := Lib.hid hkk
      replace AP := Lib.hid AP
      replace VE := Lib.hid VE
      replace hV3 := Lib.hid hV3
      replace hnext := Lib.hid hnext
      replace hbad := Lib.hid hbad
      clear hb3 hkk ho hrm hiv hil hir hI
      have k1 : (k : Int) < (l.length : Int) := by omega
      cases hev : evB e with
      | false =>
        have hif := Lib.hid (show β = false from hβ2.out.trans (decide_eq_false (by rw [← hl.out, hbad.out (.inl hev)]; simp)))
        replace hev := Lib.hid hev
        go_wp2_with fail
        refine VE.out.mono ?_
        rintro z w2 ⟨rfl, hb2⟩
        rw [hev.out]
        have hV4 := Lib.hid (hV3.out.below hb2)
        clear c0 c1 c2 c3 c4 c5 c6 c7 c8
        go_wp2_with fail
        go_ret
        exact ⟨by rw [hif.out]; rfl, by rw [← hB.out]; exact hV4.out.frm.far⟩
      | true =>
        have hkd : 0 ≤ e.kind ∧ e.kind ≤ 3 := by
          have h := hev
          unfold evB at h
          simp only [Bool.and_eq_true, decide_eq_true_eq] at h
          exact ⟨h.1.1.1.1.1.1, h.1.1.1.1.1.2⟩
        obtain ⟨R, hR⟩ : ∃ R, R = applyE m e := ⟨_, rfl⟩
        have AP2 := fun W hW => AP.out W hW hkd
        simp only [show (⟨m.tick, m.entries⟩ : Bk) = m from rfl] at AP2
        rw [← hR] at AP2
        obtain ⟨κ, hκ⟩ : ∃ κ, κ = codeOf R := ⟨_, rfl⟩
        rw [← hκ] at AP2
        replace hκ := Lib.hid hκ
        replace hR := Lib.hid hR
        replace AP2 := Lib.hid AP2
        have hev2 := Lib.hid hev
        clear hev
        go_wp2_with fail
        refine VE.out.mono ?_
        rintro z w2 ⟨rfl, hb2⟩
        rw [hev2.out]
        have hV4 := Lib.hid (hV3.out.below hb2)
        have hc4 := (HKK.out.below hb2).cell
        have hB4 := Lib.hid (below_seq HB3.out hb2)
        clear c0 c1 c2 c3 c4 c5 c6 c7 c8
        go_wp2_with fail
        refine (AP2.out _ hB4.out).mono ?_
        rintro z w3 ⟨ev', rows', tick', rfl, ho', hm', hf'⟩
        have hV5 := fun m' h' => hV4.out.next (m' := m') hf' h'
        clear hc4
        cases R with
        | error q =>
          have hq : κ = q := hκ.out
          have hqp := applyE_pos hR.out.symm
          have hne : (κ != 0) = true := by rw [bne_iff_ne, hq]; omega
          have hif := Lib.hid (show β = false from hβ2.out.trans (decide_eq_false (by rw [← hl.out, hbad.out (.inr ⟨q, hR.out.symm⟩)]; simp)))
          have hfin := Lib.hid (hV5 ⟨tick', rows'.map EnR.y⟩ ⟨_, _, ho', rfl⟩).frm.far
          replace hq := Lib.hid hq
          clear ho' hm' hf' hV5
          go_wp2_with fail
          go_ret
          exact ⟨by rw [hif.out]; rfl, by rw [← hB.out]; exact hfin.out⟩
        | ok m2 =>
          have hq : κ = 0 := hκ.out
          subst hq
          have hm2 : (⟨tick', rows'.map EnR.y⟩ : Bk) = m2 := hm'
          have hV6 := Lib.hid (hV5 m2 (by rw [← hm2]; exact ⟨_, _, ho', rfl⟩))
          have hrn := Lib.hid (hnext.out m2 hev2.out hR.out.symm)
          clear ho' hm' hf' hV5 hm2
          go_wp2_with fail
          exact ⟨⟨k + 1, m2, by omega, by go_num, hrn, hV6⟩, by simp [RowKit.intOf]; omega⟩
    · have hkk : k = l.length := by omega
      subst hkk
      have hrp2 : replayE Bk.empty l = some m := by have := hrp.out; rwa [List.take_length] at this
      have hββ := Lib.hid (show β = decide (m = ⟨t, es⟩) from hβ2.out.trans (by rw [← hl.out, hrp2]; exact decide_eq_decide.2 ⟨fun h => by injection h, fun h => by rw [h]⟩))
      obtain ⟨⟨ev, rows, ho, hrm⟩, hfr, hbx, _⟩ := HV.out
      have hil := hI.len
      have hiv := hI.lens
      rw [← hrm] at hil hiv
      obtain ⟨S, hSd⟩ : ∃ S, S = fun W => OwnBld B W G m.tick ev rows ∧ Blk W B 31 #[.int .i64 t, .slice a n c] ∧ Frm B w W := ⟨_, rfl⟩
      obtain ⟨a', c', rfl⟩ := own_slice' ho.own.ents
      have hS0 : Holds S wr := by rw [hSd]; exact (show _ ∧ _ ∧ _ from ⟨ho, hbx, hfr⟩)
      have KS : ∀ W W', Holds S W → Below W.heap.size W W' → Holds S W' := fun W W' h1 h2 => by
        rw [hSd] at h1 ⊢
        obtain ⟨x1, x2, x3⟩ := (show _ ∧ _ ∧ _ from h1)
        exact (show _ ∧ _ ∧ _ from ⟨x1.old h2, x2.below h2, x3.below h2⟩)
      have hS : ∀ W, Holds S W → OwnBld B W G m.tick (.slice a' rows.length c') rows ∧ Blk W B 31 #[.int .i64 t, .slice a n c] ∧ Frm B w W := fun W h => by rw [hSd] at h; exact h
      have g0 : ∀ W, Holds S W → W.cell? ⟨G, 0, none⟩ = some (.int .i64 m.tick) := fun W h => (hS W h).1.blk.cell 0
      have g1 : ∀ W, Holds S W → W.cell? ⟨G, 1, none⟩ = some (.slice a' rows.length c') := fun W h => (hS W h).1.blk.cell 1
      have p0 : ∀ W, Holds S W → W.cell? ⟨B, 0, none⟩ = some (.int .i64 t) := fun W h => (hS W h).2.1.cell 0
      have p1 : ∀ W, Holds S W → W.cell? ⟨B, 1, none⟩ = some (.slice a n c) := fun W h => (hS W h).2.1.cell 1
      have SAME := fun W (hW : Holds S W) => same_walk m.tick t (.slice a' rows.length c') (.slice a n c) (rows.map EnR.y) es W (hS W hW).1.own.in_ (H0.out.below (by have := (hS W hW).2.2.far; rwa [hB.out] at this)) (by omega) (fun y hy => by have := hiv y hy; omega)
      rw [hrm] at SAME
      simp only [show (⟨m.tick, m.entries⟩ : Bk) = m from rfl] at SAME
      replace hS0 := Lib.hid hS0
      replace SAME := Lib.hid SAME
      replace hS := Lib.hid hS
      clear ho hrm hfr hbx hil hiv hI hrp hrp2 HV hSd hls
      go_wp2_with fail
      go_region_held3 (Holds S) (first | exact KS wr _ hS0.out (Below.refl _ _).drew | exact KS _ _ (by assumption) hb1)
        (first | (go_at_call 37; refine (SAME.out _ (by assumption)).mono ?_; rintro z w1 ⟨rfl, hb1⟩))
      have hSe := Lib.hid (hS.out _ (show Holds S w1 by assumption)).2.2.far
      go_wp2_with fail
      go_ret
      exact ⟨by rw [hββ.out]; rfl, by rw [← hB.out]; exact hSe.out⟩
end Go.Proofs.YtnjiomggbafkmaaGreatDoor
