/- Has and Events of package book. -/
import Derived.Test.YtnjiomggbafkmaaGreatDoorBookAF
namespace Go.Proofs.YtnjiomggbafkmaaGreatDoor
open Go.RowKit Go.Lib

theorem raw_lens {es : List BEn} : es.length ≤ (rawEvs es).length := by
  induction es with
  | nil => simp
  | cons y l ih => simp only [rawEvs, List.flatMap_cons, List.length_append, BEn.evs, List.length_cons] at ih ⊢; omega
set_option maxHeartbeats 2000000 in
set_option maxRecDepth 100000 in
theorem Events_walk (t : Int) (v : Value) (es : List BEn) (w : World) (h : EntriesIn w v es) (hn : (rawEvs es).length ≤ 100000000) (hs : StrsOk es) :
    Calls Tryz.prog 24 #[.agg #[.int .i64 t, v]] w fun z w' => ∃ u, z = .returned u ∧ EvOwn w.heap.size w' u (if validB ⟨t, es⟩ = true then evsOf es else []) ∧ Below w.heap.size w w' := by
  have hb := (Below.refl w.heap.size w).alloc (Nat.le_refl _) (.cells #[.int .i64 t, v] 31)
  have hk := Blk.new w 31 #[.int .i64 t, v]
  have V := valid_walk t v es _ (h.below hb) hn hs
  have E := fun W (hW : Below w.heap.size w W) => events_walk t v es W (h.below hW) hn
  obtain ⟨β, hβ⟩ : ∃ β, β = validB ⟨t, es⟩ := ⟨_, rfl⟩
  rw [← hβ] at V ⊢
  obtain ⟨a, c, rfl⟩ := h.form
  obtain ⟨n, hnl⟩ : ∃ n, n = es.length := ⟨_, rfl⟩
  rw [← hnl] at V E hb hk ⊢
  replace V := Lib.hid V
  replace E := Lib.hid E
  have HB := Lib.hid hb
  have HK := Lib.hid hk
  clear h hb hk hβ hnl
  go_enter Tryz.func24, Tryz.ntmps24
  go_wp2_with fail
  refine V.out.mono ?_
  rintro z w1 ⟨rfl, hb1⟩
  have hb2 := below_seq HB.out hb1
  have hk2 := (HK.out.below hb1).cell
  have HB2 := Lib.hid hb2
  clear hb2 hb1
  cases β with
  | false =>
    go_wp2_with fail
    go_ret
    exact ⟨_, rfl, World.ownsRow_nil _ _ _ _, HB2.out⟩
  | true =>
    go_wp2_with fail
    refine (E.out _ HB2.out).mono ?_
    rintro z w2 ⟨u, rfl, ho, hb3⟩
    have HF := Lib.hid (below_seq HB2.out hb3)
    have HO := Lib.hid (World.ownsRow.mono ho HB2.out.size)
    clear ho hb3
    go_wp2_with fail
    go_ret
    exact ⟨_, rfl, HO.out, HF.out⟩
set_option maxHeartbeats 2000000 in
set_option maxRecDepth 100000 in
theorem Has_walk (t : Int) (v : Value) (es : List BEn) (e : BEv) (w : World) (h : EntriesIn w v es) (hn : (rawEvs es).length ≤ 100000000) (hs : StrsOk es) (h1 : e.key.st.length ≤ 9223372036854775806) (h2 : e.key.ex.length ≤ 9223372036854775806) (h3 : e.text.length ≤ 9223372036854775806) :
    Calls Tryz.prog 20 #[.agg #[.int .i64 t, v], evV e] w fun z w' => z = .returned (.bool (evB e && validB ⟨t, es⟩ && hasE es e)) ∧ Below w.heap.size w w' := by
  have hb := ((Below.refl w.heap.size w).alloc (Nat.le_refl _) (.cells #[.int .i64 t, v] 31)).alloc (by simp) (.cells #[.int .i64 e.kind, .string (str e.key.st), .string (str e.key.ex), .int .i64 e.key.att, .int .i64 e.tick, .int .i64 e.ver, .int .i64 e.hun, .string (str e.text), .bool e.acc] 26)
  have hk := (Blk.new w 31 #[.int .i64 t, v]).alloc (.cells #[.int .i64 e.kind, .string (str e.key.st), .string (str e.key.ex), .int .i64 e.key.att, .int .i64 e.tick, .int .i64 e.ver, .int .i64 e.hun, .string (str e.text), .bool e.acc] 26)
  have hk2 : BoxEv (w.heap.size + 1) e ((w.alloc (.cells #[.int .i64 t, v] 31)).alloc (.cells #[.int .i64 e.kind, .string (str e.key.st), .string (str e.key.ex), .int .i64 e.key.att, .int .i64 e.tick, .int .i64 e.ver, .int .i64 e.hun, .string (str e.text), .bool e.acc] 26)) := by
    have := Blk.new (w.alloc (.cells #[.int .i64 t, v] 31)) 26 #[.int .i64 e.kind, .string (str e.key.st), .string (str e.key.ex), .int .i64 e.key.att, .int .i64 e.tick, .int .i64 e.ver, .int .i64 e.hun, .string (str e.text), .bool e.acc]
    simp only [World.size_alloc] at this
    exact this
  have VE := validEvent_walk e ((w.alloc (.cells #[.int .i64 t, v] 31)).alloc (.cells #[.int .i64 e.kind, .string (str e.key.st), .string (str e.key.ex), .int .i64 e.key.att, .int .i64 e.tick, .int .i64 e.ver, .int .i64 e.hun, .string (str e.text), .bool e.acc] 26)) h1 h2 h3
  have V := fun W (hW : Below w.heap.size w W) => valid_walk t v es W (h.below hW) hn hs
  have HS := fun W (hW : Below w.heap.size w W) => has_walk t v es e W (h.below hW) hn (Nat.le_trans raw_lens hn)
  obtain ⟨β, hβ⟩ : ∃ β, β = validB ⟨t, es⟩ := ⟨_, rfl⟩
  obtain ⟨γ, hγ⟩ : ∃ γ, γ = evB e := ⟨_, rfl⟩
  obtain ⟨δ, hδ⟩ : ∃ δ, δ = hasE es e := ⟨_, rfl⟩
  rw [← hβ] at V
  rw [← hγ] at VE
  rw [← hδ] at HS
  rw [← hβ, ← hγ, ← hδ]
  obtain ⟨a, c, rfl⟩ := h.form
  obtain ⟨n, hnl⟩ : ∃ n, n = es.length := ⟨_, rfl⟩
  rw [← hnl] at V VE HS hb hk hk2 ⊢
  replace V := Lib.hid V
  replace VE := Lib.hid VE
  replace HS := Lib.hid HS
  have HB := Lib.hid hb
  have HK := Lib.hid hk
  have HK2 := Lib.hid hk2
  clear h hb hk hk2 hβ hγ hδ hnl
  go_enter Tryz.func20, Tryz.ntmps20
  go_wp2_with fail
  refine VE.out.mono ?_
  rintro z w1 ⟨rfl, hb1⟩
  have HB1 := Lib.hid (below_seq HB.out hb1)
  have HK1 := Lib.hid (HK.out.below hb1)
  have HKE1 := Lib.hid (HK2.out.below hb1)
  have q1 := HK1.out.cell
  clear hb1
  cases γ with
  | false =>
    go_wp2_with fail
    go_ret
    exact ⟨rfl, HB1.out⟩
  | true =>
    go_wp2_with fail
    refine (V.out _ HB1.out).mono ?_
    rintro z w2 ⟨rfl, hb2⟩
    have HB2 := Lib.hid (below_seq HB1.out hb2)
    have HK3 := Lib.hid (HK1.out.below hb2)
    have HKE2 := Lib.hid (HKE1.out.below hb2)
    clear hb2 q1
    have q1 := HK3.out.cell
    obtain ⟨e0, e1, e2, e3, e4, e5, e6, e7, e8⟩ := HKE2.out.cells
    cases β with
    | false =>
      go_wp2_with fail
      go_ret
      exact ⟨rfl, HB2.out⟩
    | true =>
      go_wp2_with fail
      refine (HS.out _ HB2.out).mono ?_
      rintro z w3 ⟨rfl, hb3⟩
      have HB3 := Lib.hid (below_seq HB2.out hb3)
      clear hb3
      go_wp2_with fail
      go_ret
      exact ⟨by simp, HB3.out⟩
end Go.Proofs.YtnjiomggbafkmaaGreatDoor
