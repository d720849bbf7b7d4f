/- decide of package book. -/
import Derived.Test.YtnjiomggbafkmaaGreatDoorBookO
namespace Go.Proofs.YtnjiomggbafkmaaGreatDoor
open Go.RowKit Go.Lib

/-- What lies at a place. -/
def cellD (W : World) (p : Addr) : Value := (W.cell? p).getD (.int .i64 0)
theorem cellD_eq {W : World} {p : Addr} {u : Value} (h : W.cell? p = some u) : W.cell? p = some (cellD W p) := by unfold cellD; rw [h]; rfl
/-- What holds in the midst of a decision's stores: the event's box; the row of appeals is as it was but for the last one's last four cells. -/
def DecS (B ga q n c ge : Nat) (e : BEv) (xs0 : List Value) (w0 W : World) : Prop :=
  BoxEv ge e W ∧ w0.grownBy W (some ga) ∧ ∃ xs, W.ownsRow B 44 6 (.slice (some ⟨ga, 0, none⟩) n c) n xs ∧ ∀ k, (k < q + 2 ∨ q + 6 ≤ k) → xs[k]? = xs0[k]?
section
variable {B ga q n c ge : Nat} {e : BEv} {xs0 : List Value} {w0 W : World}
theorem DecS.free (h : DecS B ga q n c ge e xs0 w0 W) (k : Nat) : W.frozen? ⟨ga, k, none⟩ = false := by
  obtain ⟨_, _, xs, h1, _⟩ := h
  exact h1.frozenAt k
theorem DecS.cell (h : DecS B ga q n c ge e xs0 w0 W) (k : Nat) (hk : k < n * 6) : W.cell? ⟨ga, k, none⟩ = some (cellD W ⟨ga, k, none⟩) := by
  obtain ⟨_, _, xs, h1, _⟩ := h
  have h2 := h1.cellAt k hk
  rw [List.getElem?_eq_getElem (by rw [h1.1]; exact hk)] at h2
  exact cellD_eq h2
theorem DecS.box (h : DecS B ga q n c ge e xs0 w0 W) : BoxEv ge e W := h.1
theorem DecS.store (h : DecS B ga q n c ge e xs0 w0 W) (j : Nat) (hj : 2 ≤ j ∧ j < 6) (u : Value) : DecS B ga q n c ge e xs0 w0 (W.setCell ⟨ga, q + j, none⟩ u) := by
  obtain ⟨h0, hg, xs, h1, h2⟩ := h
  obtain ⟨h3, h4⟩ := h1.stored (q + j) u
  refine ⟨Blk.far h0 (fun e => own_blk_ne h1 h0 (by decide) (by rw [e]; rfl)) _, ⟨h4.os.trans hg.os, h4.tape.trans hg.tape, h4.output.trans hg.output, Nat.le_trans hg.size h4.size, fun k hk hne => (h4.block k (Nat.lt_of_lt_of_le hk hg.size) hne).trans (hg.block k hk hne)⟩, _, h3, fun k hk => ?_⟩
  rw [List.getElem?_set_ne (by omega)]
  exact h2 k hk
theorem DecS.store' (h : DecS B ga q n c ge e xs0 w0 W.drew) (j : Nat) (hj : 2 ≤ j ∧ j < 6) (u : Value) : DecS B ga q n c ge e xs0 w0 (W.setCell ⟨ga, q + j, none⟩ u).drew := DecS.store h j hj u
end
/-- The value that a decision puts into an appeal's cell. -/
def decVal (e : BEv) (j : Nat) : Value := if j = 2 then .bool true else if j = 3 then .bool e.acc else if j = 4 then .int .i64 e.tick else .string (str e.text)
def decAp (e : BEv) (a : BAp) : BAp := { a with dec := true, acc := e.acc, att := e.tick, ans := e.text }
theorem decAp_cell (e : BEv) (a : BAp) (j : Nat) (h1 : 2 ≤ j) (h2 : j < 6) : (apCs (decAp e a))[j]? = some (decVal e j) := by
  rcases j with _ | _ | _ | _ | _ | _ | j <;> first | omega | rfl
/-- The row behind the four stores, in whatever order. -/
theorem dec_row (e : BEv) (l : List BAp) (a : BAp) (q j1 j2 j3 j4 : Nat) (hq : q = l.length * 6) (h1 : 2 ≤ j1 ∧ j1 < 6) (h2 : 2 ≤ j2 ∧ j2 < 6) (h3 : 2 ≤ j3 ∧ j3 < 6) (h4 : 2 ≤ j4 ∧ j4 < 6) (hd : j1 ≠ j2 ∧ j1 ≠ j3 ∧ j1 ≠ j4 ∧ j2 ≠ j3 ∧ j2 ≠ j4 ∧ j3 ≠ j4) :
    ((((flatCs apCs (l ++ [a])).set (q + j1) (decVal e j1)).set (q + j2) (decVal e j2)).set (q + j3) (decVal e j3)).set (q + j4) (decVal e j4) = flatCs apCs (l ++ [decAp e a]) := by
  have hl : ∀ x, (flatCs apCs (l ++ [x])).length = q + 6 := fun x => by rw [flatCs_length apCs_len, List.length_append, List.length_singleton, Nat.add_mul, hq]
  have hlast : ∀ x j, j < 6 → (flatCs apCs (l ++ [x]))[q + j]? = (apCs x)[j]? := fun x j hj => by
    rw [flatCs_append, flatCs_one, List.getElem?_append_right (by rw [flatCs_length apCs_len]; omega), flatCs_length apCs_len, ← hq, Nat.add_sub_cancel_left]
  apply List.ext_getElem?
  intro k
  simp only [List.getElem?_set, List.length_set, hl]
  by_cases hk : k < q
  · rw [if_neg (by omega), if_neg (by omega), if_neg (by omega), if_neg (by omega), flatCs_append, flatCs_append, List.getElem?_append_left (by rw [flatCs_length apCs_len]; omega), List.getElem?_append_left (by rw [flatCs_length apCs_len]; omega)]
  · obtain ⟨j, rfl⟩ : ∃ j, k = q + j := ⟨k - q, by omega⟩
    by_cases hj : j < 6
    · rw [hlast _ j hj, hlast _ j hj]
      by_cases hj2 : j < 2
      · rw [if_neg (by omega), if_neg (by omega), if_neg (by omega), if_neg (by omega)]
        rcases j with _ | _ | j <;> first | rfl | omega
      · rw [decAp_cell e a j (by omega) hj]
        by_cases e4 : j = j4
        · subst e4; rw [if_pos rfl, if_pos (by omega)]
        rw [if_neg (by omega)]
        by_cases e3 : j = j3
        · subst e3; rw [if_pos rfl, if_pos (by omega)]
        rw [if_neg (by omega)]
        by_cases e2 : j = j2
        · subst e2; rw [if_pos rfl, if_pos (by omega)]
        rw [if_neg (by omega)]
        by_cases e1 : j = j1
        · subst e1; rw [if_pos rfl, if_pos (by omega)]
        omega
    · rw [if_neg (by omega), if_neg (by omega), if_neg (by omega), if_neg (by omega), List.getElem?_eq_none (by rw [hl]; omega), List.getElem?_eq_none (by rw [hl]; omega)]
def EnR.dec (r : EnR) (e : BEv) (l : List BAp) (a : BAp) : EnR := ⟨{ r.y with appeals := l ++ [decAp e a] }, r.g, r.a⟩
theorem OwnBld.decide4 {B G n ac ga q : Nat} {w0 w : World} {tick : Int} {ev : Value} {rows : List EnR} {i : Nat} {e : BEv} {l : List BAp} {a : BAp} (h : OwnBld B w G tick ev rows) (hi : i < rows.length) (hB : Frm B w0 w) (hav : rows[i].a = .slice (some ⟨ga, 0, none⟩) n ac)
    (hap : rows[i].y.appeals = l ++ [a]) (hn : n = rows[i].y.appeals.length) (hq : q = (n - 1) * 6) (j1 j2 j3 j4 : Nat) (u1 u2 u3 u4 : Value) (h1 : 2 ≤ j1 ∧ j1 < 6) (h2 : 2 ≤ j2 ∧ j2 < 6) (h3 : 2 ≤ j3 ∧ j3 < 6) (h4 : 2 ≤ j4 ∧ j4 < 6) (hd : j1 ≠ j2 ∧ j1 ≠ j3 ∧ j1 ≠ j4 ∧ j2 ≠ j3 ∧ j2 ≠ j4 ∧ j3 ≠ j4)
    (e1 : u1 = decVal e j1) (e2 : u2 = decVal e j2) (e3 : u3 = decVal e j3) (e4 : u4 = decVal e j4) :
    OwnBld B ((((w.setCell ⟨ga, q + j1, none⟩ u1).setCell ⟨ga, q + j2, none⟩ u2).setCell ⟨ga, q + j3, none⟩ u3).setCell ⟨ga, q + j4, none⟩ u4) G tick ev (rows.set i (rows[i].dec e l a)) ∧
    Frm B w0 ((((w.setCell ⟨ga, q + j1, none⟩ u1).setCell ⟨ga, q + j2, none⟩ u2).setCell ⟨ga, q + j3, none⟩ u3).setCell ⟨ga, q + j4, none⟩ u4) := by
  subst e1 e2 e3 e4
  have hr := h.own.each _ (List.getElem_mem hi)
  have hlen : l.length + 1 = n := by rw [hn, hap]; simp
  have hrow := hr.2
  rw [← hn, hav] at hrow
  have hgb := (hrow.lt ga rfl).1
  obtain ⟨s1, g1⟩ := hrow.stored (q + j1) (decVal e j1)
  obtain ⟨s2, g2⟩ := s1.stored (q + j2) (decVal e j2)
  obtain ⟨s3, g3⟩ := s2.stored (q + j3) (decVal e j3)
  obtain ⟨s4, g4⟩ := s3.stored (q + j4) (decVal e j4)
  have hg := ((g1.trans g2).trans g3).trans g4
  rw [hap, dec_row e l a q j1 j2 j3 j4 (by omega) h1 h2 h3 h4 hd] at s4
  refine ⟨h.inA hi (r := rows[i].dec e l a) rfl (by rw [hav]; exact hg) ⟨?_, ?_⟩, hB.step (((((Below.refl B w).setCell hgb _).setCell hgb _).setCell hgb _).setCell hgb _) fun g T cs a1 a2 a3 a4 hb => hb.grown hg (fun e => own_blk_ne hrow hb (fun e => a3 e.symm) e.symm)⟩
  · have hne := own_own_ne hr.1 hr.2 (by decide)
    rw [hav] at hne
    exact hr.1.kept hg hne
  · have : (rows[i].dec e l a).y.appeals.length = n := by show (l ++ [decAp e a]).length = n; simpa using hlen
    rw [this]
    show World.ownsRow _ _ _ _ rows[i].a _ _
    rw [hav]
    exact s4

set_option maxHeartbeats 4000000 in
set_option maxRecDepth 100000 in
theorem decide_walk (B G : Nat) (tick : Int) (gE c : Nat) (rows : List EnR) (e : BEv) (i : Nat) (hi : i < rows.length) (w : World) (h : OwnBld B w G tick (.slice (some ⟨gE, 0, none⟩) rows.length c) rows) (hlen : rows[i].y.appeals.length ≤ 1000000000) (hk : e.kind ≠ 1 ∧ e.kind ≠ 2) :
    Calls Tryz.prog 79 #[.pointer (some ⟨G, 0, none⟩), evV e, .pointer (some ⟨gE, i * 7, none⟩)] w (BldPost B G tick w (rows.map EnR.y) (stepR (rows.map EnR.y) i (stepEn rows[i].y e))) := by
  have hGl := h.blk.lt
  have hle := h.le
  have hB0 : Frm B w (w.alloc (.cells #[.int .i64 e.kind, .string (str e.key.st), .string (str e.key.ex), .int .i64 e.key.att, .int .i64 e.tick, .int .i64 e.ver, .int .i64 e.hun, .string (str e.text), .bool e.acc] 26)) := (Frm.refl (by omega)).alloc _
  have h1 := h.alloc (.cells #[.int .i64 e.kind, .string (str e.key.st), .string (str e.key.ex), .int .i64 e.key.att, .int .i64 e.tick, .int .i64 e.ver, .int .i64 e.hun, .string (str e.text), .bool e.acc] 26)
  have hK : BoxEv w.heap.size e (w.alloc (.cells #[.int .i64 e.kind, .string (str e.key.st), .string (str e.key.ex), .int .i64 e.key.att, .int .i64 e.tick, .int .i64 e.ver, .int .i64 e.hun, .string (str e.text), .bool e.acc] 26)) := Blk.new w 26 #[.int .i64 e.kind, .string (str e.key.st), .string (str e.key.ex), .int .i64 e.key.att, .int .i64 e.tick, .int .i64 e.ver, .int .i64 e.hun, .string (str e.text), .bool e.acc]
  have hr := h1.own.each _ (List.getElem_mem hi)
  obtain ⟨n, hn⟩ : ∃ n, n = rows[i].y.appeals.length := ⟨_, rfl⟩
  obtain ⟨R, hR⟩ : ∃ R, R = stepR (rows.map EnR.y) i (stepEn rows[i].y e) := ⟨_, rfl⟩
  rw [← hR]
  have OW := open_walk B gE c rows i hi _ h1.own hlen
  by_cases ho : rows[i].y.isOpen = true
  · have hnp : 0 < rows[i].y.appeals.length := by
      rcases Nat.eq_zero_or_pos rows[i].y.appeals.length with h0 | h0
      · rw [isOpen_nil h0] at ho; cases ho
      · exact h0
    obtain ⟨l, a, hap⟩ : ∃ l a, rows[i].y.appeals = l ++ [a] := ⟨_, _, (List.dropLast_concat_getLast (l := rows[i].y.appeals) (by intro e0; rw [e0] at hnp; cases hnp)).symm⟩
    have hR2 : R = .ok ((rows.set i (rows[i].dec e l a)).map EnR.y) := by
      rw [hR]
      unfold stepEn
      rw [if_neg hk.1, if_neg hk.2, if_neg (by rw [ho]; decide), hap]
      simp only [List.dropLast_concat, List.getLast?_concat, stepR, List.map_set]
      rfl
    obtain ⟨ga, ac, hav, _, _⟩ := hr.2.form hnp
    rw [← hn] at hav
    have q6 := (h1.own.at_ i hi).2.2.1
    rw [hav] at q6
    have hn0 : 0 < n := by omega
    rw [ho] at OW
    rw [← hn] at hlen
    have H1 := Lib.hid h1
    have HB := Lib.hid hB0
    have HKB := Lib.hid hK
    replace OW := Lib.hid OW
    replace hR2 := Lib.hid hR2
    replace hav := Lib.hid hav
    replace hap := Lib.hid hap
    replace hn := Lib.hid hn
    clear h h1 hB0 hK hr hR ho hk hnp
    have b1 : IntKind.i64.wrap ((n : Int) - 1) = (n : Int) - 1 := IntWalk.i64_in _ (by omega)
    have b2 : (0 : Int) ≤ (n : Int) - 1 := by omega
    have b3 : (n : Int) - 1 < (n : Int) := by omega
    have b4 : ((n : Int) - 1).toNat = n - 1 := by omega
    go_enter Tryz.func79, Tryz.ntmps79
    go_wp2_with fail
    refine OW.out.mono ?_
    rintro z wc ⟨rfl, hwc⟩
    obtain ⟨ge, hge⟩ : ∃ ge, ge = w.heap.size := ⟨_, rfl⟩
    rw [hwc] at q6 H1 HB HKB
    rw [← hge] at HKB ⊢
    clear hwc hge OW
    go_wp2_with fail
    go_quiet (fail)
    obtain ⟨wq, hwq⟩ : ∃ wq, wq = wc.drewN nq := ⟨_, rfl⟩
    have H2 : OwnBld B wq G tick (.slice (some ⟨gE, 0, none⟩) rows.length c) rows := by rw [hwq]; exact H1.out.old (below_of_drewN _)
    have HK2 : BoxEv ge e wq := by rw [hwq]; exact HKB.out.below (below_of_drewN _)
    have HB2 : Frm B w wq := by rw [hwq]; exact HB.out.drewN _
    rw [← hwq]
    clear H1 HKB HB q6 b1 b2 b3 b4
    obtain ⟨q, hq⟩ : ∃ q, q = (n - 1) * 6 := ⟨_, rfl⟩
    rw [← hq]
    have hrow := (H2.own.each _ (List.getElem_mem hi)).2
    rw [hav.out, ← hn.out] at hrow
    have HD0 : DecS B ga q n ac ge e (flatCs apCs rows[i].y.appeals) wq wq.drew := ⟨HK2.drew, ⟨rfl, rfl, rfl, Nat.le_refl _, fun _ _ _ => rfl⟩, _, hrow.drew, fun _ _ => rfl⟩
    have hq6 : q + 6 = n * 6 := by omega
    replace HD0 := Lib.hid HD0
    have FIN := fun j1 j2 j3 j4 u1 u2 u3 u4 => H2.drew.decide4 (e := e) hi HB2.drew hav.out hap.out hn.out hq j1 j2 j3 j4 u1 u2 u3 u4
    replace FIN := Lib.hid FIN
    obtain ⟨c0, c1, c2, c3, c4, c5, c6, c7, c8⟩ := BoxEv.rules ge e
    have d0 : ∀ W, DecS B ga q n ac ge e (flatCs apCs rows[i].y.appeals) wq W → BoxEv ge e W := fun W h => h.box
    have d4 : ∀ W, DecS B ga q n ac ge e (flatCs apCs rows[i].y.appeals) wq W → W.cell? ⟨ge, 4, none⟩ = some (.int .i64 e.tick) := fun W h => c4 W h.box
    have d7 : ∀ W, DecS B ga q n ac ge e (flatCs apCs rows[i].y.appeals) wq W → W.cell? ⟨ge, 7, none⟩ = some (.string (str e.text)) := fun W h => c7 W h.box
    have d8 : ∀ W, DecS B ga q n ac ge e (flatCs apCs rows[i].y.appeals) wq W → W.cell? ⟨ge, 8, none⟩ = some (.bool e.acc) := fun W h => c8 W h.box
    have f2 : ∀ W, DecS B ga q n ac ge e (flatCs apCs rows[i].y.appeals) wq W → ∀ k, W.frozen? ⟨ga, k, none⟩ = false := fun W h k => h.free k
    have l2 : ∀ W, DecS B ga q n ac ge e (flatCs apCs rows[i].y.appeals) wq W → W.cell? ⟨ga, q + 2, none⟩ = some (cellD W ⟨ga, q + 2, none⟩) := fun W h => h.cell _ (by omega)
    have l3 : ∀ W, DecS B ga q n ac ge e (flatCs apCs rows[i].y.appeals) wq W → W.cell? ⟨ga, q + 3, none⟩ = some (cellD W ⟨ga, q + 3, none⟩) := fun W h => h.cell _ (by omega)
    have l4 : ∀ W, DecS B ga q n ac ge e (flatCs apCs rows[i].y.appeals) wq W → W.cell? ⟨ga, q + 4, none⟩ = some (cellD W ⟨ga, q + 4, none⟩) := fun W h => h.cell _ (by omega)
    have l5 : ∀ W, DecS B ga q n ac ge e (flatCs apCs rows[i].y.appeals) wq W → W.cell? ⟨ga, q + 5, none⟩ = some (cellD W ⟨ga, q + 5, none⟩) := fun W h => h.cell _ (by omega)
    clear c0 c1 c2 c3 c4 c5 c6 c7 c8 d0 hwq H2 HK2 HB2 hrow
    replace hq := Lib.hid hq
    go_wp2_with fail
    go_upto_region 4 with fail
    go_cut [] (fun wr => Hid (OwnBld B wr G tick (.slice (some ⟨gE, 0, none⟩) rows.length c) (rows.set i (rows[i].dec e l a))) ∧ Hid (Frm B w wr))
    case first =>
      go_region_held3 (DecS B ga q n ac ge e (flatCs apCs rows[i].y.appeals) wq) (first | exact HD0.out | (refine DecS.store' ?_ _ ?_ _ <;> first | assumption | exact HD0.out | decide)) (fail)
      all_goals go_wp2_with fail
      all_goals go_meet
      exact FIN.out 2 3 4 5 _ _ _ _ (by decide) (by decide) (by decide) (by decide) (by decide) rfl rfl rfl rfl
    case rest =>
      obtain ⟨h1, h2⟩ := hcut
      go_wp2_with fail
      go_ret
      exact ⟨_, _, by rw [hR2.out]; rfl, h1.out, by rw [hR2.out]; rfl, h2.out⟩
  · have hR2 : R = .error 9 := by
      rw [hR]
      unfold stepEn
      rw [if_neg hk.1, if_neg hk.2, if_pos (by simpa using ho)]; rfl
    have ho2 : rows[i].y.isOpen = false := by simpa using ho
    rw [ho2] at OW
    have H1 := Lib.hid h1
    have HB := Lib.hid hB0
    replace OW := Lib.hid OW
    replace hR2 := Lib.hid hR2
    clear h h1 hB0 hK hr hR ho ho2 hk hn
    go_enter Tryz.func79, Tryz.ntmps79
    go_wp2_with fail
    refine OW.out.mono ?_
    rintro z w1 ⟨rfl, rfl⟩
    go_wp2_with fail
    go_ret
    exact ⟨_, _, by rw [hR2.out]; rfl, H1.out, by rw [hR2.out]; rfl, HB.out⟩
end Go.Proofs.YtnjiomggbafkmaaGreatDoor
