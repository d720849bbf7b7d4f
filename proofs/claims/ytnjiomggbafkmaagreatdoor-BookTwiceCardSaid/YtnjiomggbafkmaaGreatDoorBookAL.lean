/- BookTwice. -/
import Derived.Test.YtnjiomggbafkmaaGreatDoorBookAK
namespace Go.Proofs.YtnjiomggbafkmaaGreatDoor
open Go.RowKit Go.Lib

/-- Strings of a length that the reference allows. -/
theorem few_lens {es : List BEv} {n : Int} (h : fewEv es n = true) : (es.length : Int) ≤ n ∧ ∀ x ∈ es, x.key.st.length ≤ 40 ∧ x.key.ex.length ≤ 40 ∧ x.text.length ≤ 60 := by
  unfold fewEv at h
  simp only [Bool.and_eq_true, decide_eq_true_eq, List.all_eq_true] at h
  refine ⟨h.2, fun x hx => ?_⟩
  have := h.1 x hx
  unfold shortEv at this
  simp only [Bool.and_eq_true, decide_eq_true_eq] at this
  exact ⟨this.1.2, this.2, this.1.1⟩
/-- A slice literal of one event. -/
theorem one_event (W : World) (e : BEv) : RowsIn evCs 9 (W.alloc (.cells #[.int .i64 e.kind, .string (str e.key.st), .string (str e.key.ex), .int .i64 e.key.att, .int .i64 e.tick, .int .i64 e.ver, .int .i64 e.hun, .string (str e.text), .bool e.acc] 26)) (.slice (some ⟨W.heap.size, 0, none⟩) 1 1) [e] :=
  (RowsIn.of_own (B := W.heap.size) (T := 26) evCs_len (by decide) (by have := World.ownsRow_lit (base := W.heap.size) (e := 26) (size := 9) W #[.int .i64 e.kind, .string (str e.key.st), .string (str e.key.ex), .int .i64 e.key.att, .int .i64 e.tick, .int .i64 e.ver, .int .i64 e.hun, .string (str e.text), .bool e.acc] 1 (Nat.le_refl _) (by decide) rfl; simpa [flatCs] using this)).1

set_option maxHeartbeats 4000000 in
set_option maxRecDepth 100000 in
theorem BookTwice_walk (v : Value) (l : List BEv) (e : BEv) (w : World) (h : RowsIn evCs 9 w v l) (hn : l.length ≤ 4000000000000) (ht : Tab w) :
    Calls Tryz.prog 5 #[v, evV e] w fun z w' => z = .returned (.bool true) ∧ Below w.heap.size w w' := by
  have hb0 := (Below.refl w.heap.size w).alloc (Nat.le_refl _) (.cells #[.int .i64 e.kind, .string (str e.key.st), .string (str e.key.ex), .int .i64 e.key.att, .int .i64 e.tick, .int .i64 e.ver, .int .i64 e.hun, .string (str e.text), .bool e.acc] 26)
  have hk0 : BoxEv w.heap.size e (w.alloc (.cells #[.int .i64 e.kind, .string (str e.key.st), .string (str e.key.ex), .int .i64 e.key.att, .int .i64 e.tick, .int .i64 e.ver, .int .i64 e.hun, .string (str e.text), .bool e.acc] 26)) := Blk.new w 26 #[.int .i64 e.kind, .string (str e.key.st), .string (str e.key.ex), .int .i64 e.key.att, .int .i64 e.tick, .int .i64 e.ver, .int .i64 e.hun, .string (str e.text), .bool e.acc]
  have AW := awake55 (w.alloc (.cells #[.int .i64 e.kind, .string (str e.key.st), .string (str e.key.ex), .int .i64 e.key.att, .int .i64 e.tick, .int .i64 e.ver, .int .i64 e.hun, .string (str e.text), .bool e.acc] 26)) (ht.below hb0)
  have F1 := fun W (hW : Below w.heap.size w W) => fewEv_walk v l 24 W (h.below hW) hn
  have F2 := fun W => fewEv_walk (.slice (some ⟨World.heap W |>.size, 0, none⟩) 1 1) [e] 1 (W.alloc (.cells #[.int .i64 e.kind, .string (str e.key.st), .string (str e.key.ex), .int .i64 e.key.att, .int .i64 e.tick, .int .i64 e.ver, .int .i64 e.hun, .string (str e.text), .bool e.acc] 26)) (one_event W e) (by simp)
  obtain ⟨f1, hf1⟩ : ∃ f, f = fewEv l 24 := ⟨_, rfl⟩
  obtain ⟨f2, hf2⟩ : ∃ f, f = fewEv [e] 1 := ⟨_, rfl⟩
  rw [← hf1] at F1
  rw [← hf2] at F2
  have HB0 := Lib.hid hb0
  have HK0 := Lib.hid hk0
  have H := Lib.hid h
  obtain ⟨a, c, rfl, hlc, _⟩ := h
  clear hlc
  replace AW := Lib.hid AW
  replace F1 := Lib.hid F1
  replace F2 := Lib.hid F2
  replace hf1 := Lib.hid hf1
  replace hf2 := Lib.hid hf2
  clear hb0 hk0 ht
  go_enter Tryz.func5, Tryz.ntmps5
  go_wp2_with fail
  refine AW.out.mono ?_
  rintro z w1 ⟨rfl, hb1⟩
  have HB1 := Lib.hid (below_seq HB0.out hb1)
  have HK1 := Lib.hid (HK0.out.below hb1)
  clear hb1
  go_wp2_with fail
  refine (F1.out _ HB1.out).mono ?_
  rintro z w2 ⟨rfl, rfl⟩
  cases f1 with
  | false =>
    go_wp2_with fail
    go_ret
    exact ⟨rfl, HB1.out⟩
  | true =>
    obtain ⟨e0, e1, e2, e3, e4, e5, e6, e7, e8⟩ := HK1.out.cells
    go_wp2_with fail
    refine (F2.out _).mono ?_
    rintro z w2 ⟨rfl, hw2⟩
    have hb2 := (Below.refl w1.heap.size w1).alloc (Nat.le_refl _) (.cells #[.int .i64 e.kind, .string (str e.key.st), .string (str e.key.ex), .int .i64 e.key.att, .int .i64 e.tick, .int .i64 e.ver, .int .i64 e.hun, .string (str e.text), .bool e.acc] 26)
    rw [hw2] at hb2
    have HB2 := Lib.hid (below_seq HB1.out hb2)
    have HK2 := Lib.hid (HK1.out.below hb2)
    clear hb2 hw2 e0 e1 e2 e3 e4 e5 e6 e7 e8 HB1 HK1
    cases f2 with
    | false =>
      go_wp2_with fail
      go_ret
      exact ⟨rfl, HB2.out⟩
    | true =>
      go_wp2_with fail
      have hl1 := few_lens hf1.out.symm
      have hl2 := (few_lens hf2.out.symm).2 e (by simp)
      have MK := Make_walk (.slice a l.length c) l w2 (H.out.below HB2.out) (by omega) (fun x hx => by have := hl1.2 x hx; omega)
      refine MK.mono ?_
      rintro z w3 ⟨vb, rfl, hob, hb3⟩
      have hvb := valid_make l
      obtain ⟨b, hbd⟩ : ∃ b, b = makeB l := ⟨_, rfl⟩
      rw [← hbd] at hob hvb
      clear hbd MK
      obtain ⟨a5, c5, rfl, hin5, _⟩ := hob.ev
      obtain ⟨n5, hn5⟩ : ∃ n, n = b.entries.length := ⟨_, rfl⟩
      rw [← hn5] at hin5 ⊢
      obtain ⟨g0, hg0⟩ : ∃ g, g = w.heap.size := ⟨_, rfl⟩
      have kk3 := HK2.out.below hb3
      have HB3 := Lib.hid (below_seq HB2.out hb3)
      rw [← hg0] at kk3 ⊢
      clear hg0 hob hb3
      have hl3 := kk3.lt
      have hb4 := (Below.refl w3.heap.size w3).alloc (Nat.le_refl _) (.cells #[.int .i64 b.tick, .slice a5 n5 c5] 31)
      have AP := Apply_walk b.tick (.slice a5 n5 c5) b.entries e _ (hin5.below hb4) (strsOk_lit b hvb).1 (strsOk_lit b hvb).2 (by omega) (by omega) (by omega)
      simp only [show (⟨b.tick, b.entries⟩ : Bk) = b from rfl] at AP
      obtain ⟨R, hR⟩ : ∃ R, R = applyR b e := ⟨_, rfl⟩
      rw [← hR] at AP
      obtain ⟨κ, hκ⟩ : ∃ κ, κ = codeOf R := ⟨_, rfl⟩
      rw [← hκ] at AP
      have k5 := Blk.new w3 31 #[.int .i64 b.tick, .slice a5 n5 c5]
      obtain ⟨e0, e1, e2, e3, e4, e5, e6, e7, e8⟩ := kk3.cells
      have hne0 : ¬ (g0 = w3.heap.size) := by omega
      have KK3 := Lib.hid kk3
      have K5 := Lib.hid k5
      have HIN5 := Lib.hid hin5
      have HB4 := Lib.hid hb4
      replace AP := Lib.hid AP
      replace hR := Lib.hid hR
      replace hκ := Lib.hid hκ
      replace hvb := Lib.hid hvb
      clear kk3 k5 hin5 hb4
      replace hn5 := Lib.hid hn5
      go_wp2_with fail
      refine AP.out.mono ?_
      rintro z w4 ⟨vb2, rfl, hob2, hb5⟩
      obtain ⟨a6, c6, rfl, hin6, _⟩ := hob2.ev
      obtain ⟨b2, hb2d⟩ : ∃ b2, b2 = outOf Bk.empty R := ⟨_, rfl⟩
      rw [← hb2d] at hin6 ⊢
      obtain ⟨n6, hn6⟩ : ∃ n, n = b2.entries.length := ⟨_, rfl⟩
      rw [← hn6] at hin6 ⊢
      replace hb2d := Lib.hid hb2d
      replace hn6 := Lib.hid hn6
      obtain ⟨g5, hg5⟩ : ∃ g, g = w3.heap.size := ⟨_, rfl⟩
      have kk5 := K5.out.below hb5
      have hb45 := below_seq HB4.out hb5
      have kk0 := KK3.out.below hb45
      have HIN5' := Lib.hid (HIN5.out.below hb45)
      have HB5 := Lib.hid (below_seq HB3.out hb45)
      rw [← hg5] at kk5 ⊢
      clear hob2 hb5 hb45 hg5 e0 e1 e2 e3 e4 e5 e6 e7 e8 HB4 K5 KK3 HIN5 HB3 hl3 hne0 AP
      have hl0 := kk0.lt
      have hl5 := kk5.lt
      obtain ⟨e0, e1, e2, e3, e4, e5, e6, e7, e8⟩ := kk0.cells
      have f5 := kk5.cell
      have hne0 : ¬ (g0 = w4.heap.size) := by omega
      have hne5 : ¬ (g5 = w4.heap.size) := by omega
      have hb6 := (Below.refl w4.heap.size w4).alloc (Nat.le_refl _) (.cells #[.int .i64 b2.tick, .slice a6 n6 c6] 31)
      have HS := Has_walk b.tick (.slice a5 n5 c5) b.entries e _ (HIN5'.out.below hb6) (strsOk_lit b hvb.out).1 (strsOk_lit b hvb.out).2 (by omega) (by omega) (by omega)
      simp only [show (⟨b.tick, b.entries⟩ : Bk) = b from rfl] at HS
      obtain ⟨δ, hδ⟩ : ∃ δ, δ = (evB e && validB b && hasE b.entries e) := ⟨_, rfl⟩
      rw [← hδ] at HS
      have k6 := Blk.new w4 31 #[.int .i64 b2.tick, .slice a6 n6 c6]
      have K0 := Lib.hid kk0
      have K5 := Lib.hid kk5
      have K6 := Lib.hid k6
      have HIN6 := Lib.hid hin6
      have HB6 := Lib.hid hb6
      replace HS := Lib.hid HS
      replace hδ := Lib.hid hδ
      clear kk0 kk5 k6 hin6 hb6
      go_wp2_with fail
      refine HS.out.mono ?_
      rintro z w5 ⟨rfl, hb7⟩
      clear e0 e1 e2 e3 e4 e5 e6 e7 e8 f5 hne0 hne5
      cases R with
      | error q =>
        have hq : κ = q := hκ.out
        have hqp := applyR_pos hR.out.symm
        have hdq : δ = (q == 6) := by
          rw [hδ.out]
          cases hx : (evB e && validB b && hasE b.entries e) with
          | true =>
            have h6 := code6.2 hx
            rw [← hR.out] at h6
            injection h6 with h6
            rw [h6]; rfl
          | false =>
            symm
            rw [beq_eq_false_iff_ne]
            intro h6
            have : applyR b e = .error 6 := by rw [← hR.out, h6]
            rw [code6.1 this] at hx; cases hx
        have h1 : ((κ == 6) == δ) = true := by rw [hq, hdq]; simp
        have h2 : (κ != 0) = true := by rw [bne_iff_ne, hq]; omega
        have hbe : b2 = Bk.empty := hb2d.out
        have hn0 : n6 = 0 := by rw [hn6.out, hbe]; rfl
        have ht0 : b2.tick = 0 := by rw [hbe]; rfl
        have k6 := K6.out.below hb7
        subst hn0
        rw [ht0] at k6 ⊢
        have f6 := k6.cell
        have HF := Lib.hid (below_seq (below_seq HB5.out HB6.out) hb7)
        clear hbe ht0 hq hdq hqp k6 hb7
        go_wp2_with fail
        go_ret
        exact ⟨rfl, HF.out⟩
      | ok c2 =>
        have hq : κ = 0 := hκ.out
        subst hq
        have hd : δ = false := by
          rw [hδ.out]
          cases hx : (evB e && validB b && hasE b.entries e) with
          | true => have h6 := code6.2 hx; rw [← hR.out] at h6; cases h6
          | false => rfl
        subst hd
        have hbe : b2 = c2 := hb2d.out
        subst hbe
        obtain ⟨tw1, tw2, tw3, tw4⟩ := twice_ok hR.out.symm
        obtain ⟨_, hve, _⟩ := applyR_ok hR.out.symm
        have hb67 := below_seq HB6.out hb7
        have k0 := K0.out.below hb67
        have k5 := K5.out.below hb67
        have k6 := K6.out.below hb7
        have in5 := HIN5'.out.below hb67
        have in6 := HIN6.out.below hb67
        have HB7 := Lib.hid (below_seq HB5.out hb67)
        have AP2 := Apply_walk b2.tick (.slice a6 n6 c6) b2.entries e _ in6 (strsOk_lit b2 tw1).1 (strsOk_lit b2 tw1).2 (by omega) (by omega) (by omega)
        rw [show applyR ⟨b2.tick, b2.entries⟩ e = .error 6 from tw3] at AP2
        simp only [codeOf, outOf] at AP2
        obtain ⟨e0, e1, e2, e3, e4, e5, e6, e7, e8⟩ := k0.cells
        have f6 := k6.cell
        obtain ⟨g6, hg6⟩ : ∃ g, g = w4.heap.size := ⟨_, rfl⟩
        rw [← hg6] at f6 k6 ⊢
        have X0 := Lib.hid k0
        have X5 := Lib.hid k5
        have X6 := Lib.hid k6
        have Y5 := Lib.hid in5
        have Y6 := Lib.hid in6
        replace AP2 := Lib.hid AP2
        replace tw1 := Lib.hid tw1
        replace tw2 := Lib.hid tw2
        replace tw3 := Lib.hid tw3
        replace tw4 := Lib.hid tw4
        replace hve := Lib.hid hve
        clear k0 k5 k6 in5 in6 hb67 hb7 K0 K5 K6 HB6 HB5 HIN5' HIN6 HS hl0 hl5 hg6
        go_wp2_with fail
        refine AP2.out.mono ?_
        rintro z w6 ⟨vb3, rfl, hob3, hb8⟩
        obtain ⟨a8, c8, rfl, _, _⟩ : ∃ a c, vb3 = .agg #[.int .i64 0, .slice a 0 c] ∧ EntriesIn w6 (.slice a 0 c) Bk.empty.entries ∧ ∃ rows, OwnEnts w5.heap.size w6 (.slice a 0 c) rows ∧ rows.map EnR.y = Bk.empty.entries := OwnBook.ev (b := Bk.empty) hob3
        clear e0 e1 e2 e3 e4 e5 e6 e7 e8 f6 hob3 AP2
        go_wp2_with fail
        obtain ⟨S, hSd⟩ : ∃ S, S = fun W => BoxEv g0 e W ∧ Blk W g5 31 #[.int .i64 b.tick, .slice a5 n5 c5] ∧ Blk W g6 31 #[.int .i64 b2.tick, .slice a6 n6 c6] ∧ Blk W w6.heap.size 31 #[.int .i64 0, .slice a8 0 c8] ∧ EntriesIn W (.slice a5 n5 c5) b.entries ∧ EntriesIn W (.slice a6 n6 c6) b2.entries ∧ Below w.heap.size w W := ⟨_, rfl⟩
        have hS : ∀ W, Holds S W → BoxEv g0 e W ∧ Blk W g5 31 #[.int .i64 b.tick, .slice a5 n5 c5] ∧ Blk W g6 31 #[.int .i64 b2.tick, .slice a6 n6 c6] ∧ Blk W w6.heap.size 31 #[.int .i64 0, .slice a8 0 c8] ∧ EntriesIn W (.slice a5 n5 c5) b.entries ∧ EntriesIn W (.slice a6 n6 c6) b2.entries ∧ Below w.heap.size w W := fun W h => by rw [hSd] at h; exact h
        have KS : ∀ W W', Holds S W → Below W.heap.size W W' → Holds S W' := fun W W' h1 h2 => by
          obtain ⟨x1, x2, x3, x4, x5, x6, x7⟩ := hS W h1
          rw [hSd]
          exact (show _ ∧ _ ∧ _ ∧ _ ∧ _ ∧ _ ∧ _ from ⟨x1.below h2, x2.below h2, x3.below h2, x4.below h2, x5.below h2, x6.below h2, below_seq x7 h2⟩)
        have hS0 : Holds S (w6.alloc (.cells #[.int .i64 0, .slice a8 0 c8] 31)) := by
          have hb9 := (Below.refl w6.heap.size w6).alloc (Nat.le_refl _) (.cells #[.int .i64 0, .slice a8 0 c8] 31)
          have hb89 := below_seq hb8 hb9
          rw [hSd]
          exact (show _ ∧ _ ∧ _ ∧ _ ∧ _ ∧ _ ∧ _ from ⟨X0.out.below hb89, X5.out.below hb89, X6.out.below hb89, Blk.new w6 _ _, Y5.out.below hb89, Y6.out.below hb89, below_seq HB7.out hb89⟩)
        obtain ⟨k, hk9⟩ : ∃ k : Nat, k = 9 := ⟨9, rfl⟩
        have zE : ∀ W, (Go.sizeOf 26).run Tryz.prog W = .ok k W := fun W => by rw [hk9]; kernel_rfl
        have ldE : ∀ W, Holds S W → (loadCellsFrom ⟨g0, 0, none⟩ 0 k #[]).run Tryz.prog W = .ok (evCs e).toArray W := fun W h => by rw [hk9]; exact Blk.loadC (hS W h).1 _
        have p50 : ∀ W, Holds S W → W.cell? ⟨g5, 0, none⟩ = some (.int .i64 b.tick) := fun W h => (hS W h).2.1.cell 0
        have p51 : ∀ W, Holds S W → W.cell? ⟨g5, 1, none⟩ = some (.slice a5 n5 c5) := fun W h => (hS W h).2.1.cell 1
        have p60 : ∀ W, Holds S W → W.cell? ⟨g6, 0, none⟩ = some (.int .i64 b2.tick) := fun W h => (hS W h).2.2.1.cell 0
        have p61 : ∀ W, Holds S W → W.cell? ⟨g6, 1, none⟩ = some (.slice a6 n6 c6) := fun W h => (hS W h).2.2.1.cell 1
        have p81 : ∀ W, Holds S W → W.cell? ⟨w6.heap.size, 1, none⟩ = some (.slice a8 0 c8) := fun W h => (hS W h).2.2.2.1.cell 1
        have hvb2 := tw1.out
        have HA := fun W (hW : Holds S W) => Has_walk b2.tick (.slice a6 n6 c6) b2.entries e W (hS W hW).2.2.2.2.2.1 (strsOk_lit b2 hvb2).1 (strsOk_lit b2 hvb2).2 (by omega) (by omega) (by omega)
        simp only [show (⟨b2.tick, b2.entries⟩ : Bk) = b2 from rfl, hve.out, tw1.out, tw2.out, Bool.and_self] at HA
        have E6 := fun W (hW : Holds S W) => Events_walk b2.tick (.slice a6 n6 c6) b2.entries W (hS W hW).2.2.2.2.2.1 (strsOk_lit b2 hvb2).1 (strsOk_lit b2 hvb2).2
        have E5 := fun W (hW : Holds S W) => Events_walk b.tick (.slice a5 n5 c5) b.entries W (hS W hW).2.2.2.2.1 (strsOk_lit b hvb.out).1 (strsOk_lit b hvb.out).2
        simp only [show (⟨b2.tick, b2.entries⟩ : Bk) = b2 from rfl, tw1.out, if_true] at E6
        simp only [show (⟨b.tick, b.entries⟩ : Bk) = b from rfl, hvb.out, if_true] at E5
        have hL : (evsOf b.entries).length ≤ 100000000 := by unfold evsOf; rw [sortBy_length]; exact (strsOk_lit b hvb.out).1
        obtain ⟨l5, hl5⟩ : ∃ l5, l5 = evsOf b.entries := ⟨_, rfl⟩
        obtain ⟨l6, hl6⟩ : ∃ l6, l6 = evsOf b2.entries := ⟨_, rfl⟩
        rw [← hl5] at E5 hL
        rw [← hl6] at E6
        have hL6 : l6.length = l5.length + 1 := by rw [hl5, hl6]; exact tw4.out
        rw [show EvOwn = fun (B : Nat) (w : World) (v : Value) (es : List BEv) => EvOwn B w v es from rfl] at E6
        have wz : IntKind.i64.wrap ((l5.length : Int) + 1) = (l5.length : Int) + 1 := IntWalk.i64_in _ (by omega)
        replace hL6 := Lib.hid hL6
        replace hk9 := Lib.hid hk9
        replace HA := Lib.hid HA
        replace E5 := Lib.hid E5
        replace E6 := Lib.hid E6
        replace hS := Lib.hid hS
        have HS0 := Lib.hid hS0
        clear hl5 hl6 hS0 hSd hb8 X0 X5 X6 Y5 Y6 HB7 tw1 tw2 tw3 tw4 hve hvb2 hvb
        go_region_held3 (Holds S) (first | exact KS _ _ HS0.out (Below.refl _ _).drew | exact KS _ _ (by assumption) hb1)
          (first
            | (go_at_call 20; refine (HA.out _ (by assumption)).mono ?_; rintro z w7 ⟨rfl, hb1⟩)
            | (go_at_call 24; refine (E6.out _ (by assumption)).mono ?_; rintro z w7 ⟨u, rfl, hu, hb1⟩; obtain ⟨au, cu, rfl⟩ := own_slice' hu; rw [hL6.out])
            | (go_at_call 24; refine (E5.out _ (by assumption)).mono ?_; rintro z w7 ⟨u, rfl, hu, hb1⟩; obtain ⟨au, cu, rfl⟩ := own_slice' hu))
        have HE := Lib.hid (hS.out _ (show Holds S w7 by assumption)).2.2.2.2.2.2
        go_wp2_with fail
        go_ret
        exact ⟨rfl, HE.out⟩
end Go.Proofs.YtnjiomggbafkmaaGreatDoor
