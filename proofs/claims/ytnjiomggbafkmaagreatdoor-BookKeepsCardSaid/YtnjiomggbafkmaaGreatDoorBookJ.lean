/- has of package book. -/
import Derived.Test.YtnjiomggbafkmaaGreatDoorBookI
import Derived.Deep.RegionHeld3
import Derived.Deep.MidRow
namespace Go.Proofs.YtnjiomggbafkmaaGreatDoor
open Go.RowKit Go.Lib

theorem evsOf_one (y : BEn) (e : BEv) : e ∈ evsOf [y] ↔ e ∈ y.evs := by
  unfold evsOf
  rw [mem_sortBy]
  simp [rawEvs]
theorem findR_some {es : List BEn} {k : BKey} {i : Nat} {y : BEn} (h : entryOf es k = some (i, y)) : findR es k = i := by unfold findR; rw [h]
theorem findR_no {es : List BEn} {k : BKey} (h : entryOf es k = none) : findR es k = -1 := by unfold findR; rw [h]
/-- One entry's slice. -/
theorem EntriesIn.one {w : World} {b off c : Nat} {rows : List EnR} (hb : b < w.heap.size) (hr : RowsAt enCs 7 w b off rows) (hin : ∀ r ∈ rows, EnIn w r) (i : Nat) (hi : i < rows.length) (hc : 1 ≤ c) : EntriesIn w (.slice (some ⟨b, off + i * 7, none⟩) 1 c) [rows[i].y] :=
  ⟨[rows[i]], rfl, ⟨some ⟨b, off + i * 7, none⟩, c, rfl, hc, fun _ => ⟨b, off + i * 7, rfl, hb, hr.one i hi⟩⟩, fun r hr' => by rw [List.mem_singleton.1 hr']; exact hin _ (List.getElem_mem hi)⟩

theorem Blk.loadC {w : World} {g : Nat} {t : TypeId} {cs : Array Value} (h : Blk w g t cs) (P : Program) : (loadCellsFrom ⟨g, 0, none⟩ 0 cs.size #[]).run P w = .ok cs w := by
  have := run_loadCells_list (P := P) w ⟨g, 0, none⟩ cs.toList (fun j v hv => by
    rw [Addr.add_mid, Nat.zero_add, h.cell]
    simpa using hv)
  simpa [loadCells] using this
/-- What a region of has keeps: the two boxes, and all that was there. -/
def HasS (w0 : World) (g1 g2 : Nat) (c1 c2 : Array Value) (W : World) : Prop := Blk W g1 31 c1 ∧ Blk W g2 26 c2 ∧ Below w0.heap.size w0 W
theorem HasS.below {w0 W W' : World} {g1 g2 : Nat} {c1 c2 : Array Value} (h : HasS w0 g1 g2 c1 c2 W) (hb : Below W.heap.size W W') : HasS w0 g1 g2 c1 c2 W' :=
  ⟨h.1.below hb, h.2.1.below hb, below_seq h.2.2 hb⟩

set_option maxHeartbeats 4000000 in
set_option maxRecDepth 100000 in
theorem has_walk (tick : Int) (v : Value) (es : List BEn) (e : BEv) (w : World) (h : EntriesIn w v es) (hn : (rawEvs es).length ≤ 100000000) (hl : es.length ≤ 100000000) :
    Calls Tryz.prog 49 #[.agg #[.int .i64 tick, v], evV e] w fun z w' => z = .returned (.bool (hasE es e)) ∧ Below w.heap.size w w' := by
  have hb2 := (((Below.refl w.heap.size w).alloc (Nat.le_refl _) (.cells #[.int .i64 tick, v] 31))).alloc (by simp) (.cells #[.int .i64 e.kind, .string (str e.key.st), .string (str e.key.ex), .int .i64 e.key.att, .int .i64 e.tick, .int .i64 e.ver, .int .i64 e.hun, .string (str e.text), .bool e.acc] 26)
  have hK1 := (Blk.new w 31 #[.int .i64 tick, v]).alloc (.cells #[.int .i64 e.kind, .string (str e.key.st), .string (str e.key.ex), .int .i64 e.key.att, .int .i64 e.tick, .int .i64 e.ver, .int .i64 e.hun, .string (str e.text), .bool e.acc] 26)
  have hK2 := Blk.new (w.alloc (.cells #[.int .i64 tick, v] 31)) 26 #[.int .i64 e.kind, .string (str e.key.st), .string (str e.key.ex), .int .i64 e.key.att, .int .i64 e.tick, .int .i64 e.ver, .int .i64 e.hun, .string (str e.text), .bool e.acc]
  have F := fun W hW => find_walk tick v es e.key W hW (by omega)
  have HE := Lib.hid (h.below hb2)
  have H0 := Lib.hid h
  have HB := Lib.hid hb2
  cases hen : entryOf es e.key with
  | none =>
    have hz := Lib.hid (show hasE es e = false by unfold hasE; rw [hen])
    rw [findR_no hen] at F
    replace F := Lib.hid (F _ HE.out)
    clear h hb2 hK1 hK2 hen
    go_enter Tryz.func49, Tryz.ntmps49
    go_wp2_with fail
    refine F.out.mono ?_
    rintro z w1 ⟨rfl, hb1⟩
    go_wp2_with fail
    go_ret
    exact ⟨by rw [hz.out]; rfl, below_seq HB.out hb1⟩
  | some p =>
    obtain ⟨i, y⟩ := p
    have hz := Lib.hid (show hasE es e = decide (e ∈ y.evs) by unfold hasE; rw [hen])
    rw [findR_some hen] at F
    replace F := Lib.hid (F _ HE.out)
    obtain ⟨hy1, hy2, _⟩ := entryOf_some hen
    obtain ⟨rows, hrows, hv, hin⟩ := h
    subst hrows
    rw [List.getElem?_map] at hy1
    obtain ⟨r, hr1, hr2⟩ := Option.map_eq_some_iff.1 hy1
    obtain ⟨hir, hr3⟩ := List.getElem?_eq_some_iff.1 hr1
    rcases hv.splitC with ⟨rfl, _⟩ | ⟨b, off, c, rfl, hcap, hb, hra⟩
    · cases hir
    have hone : EntriesIn w (.slice (some ⟨b, off + i * 7, none⟩) 1 (c - i)) [y] := by
      have := EntriesIn.one (c := c - i) hb hra hin i hir (by omega)
      rwa [hr3, hr2] at this
    replace hone := Lib.hid hone
    have hy3 : (rawEvs [y]).length ≤ 100000000 := by
      refine Nat.le_trans ?_ hn
      have hm : y ∈ rows.map EnR.y := by rw [← hr2, ← hr3]; exact List.mem_map_of_mem (List.getElem_mem hir)
      obtain ⟨s, t, hst⟩ := List.append_of_mem hm
      rw [hst]; simp [rawEvs]; omega
    have hlen : i < rows.length ∧ rows.length ≤ c := ⟨hir, hcap⟩
    clear hr1 hr2 hr3 hra hin hb hv hen hy1 hy2 hb2
    have q1 : IntKind.i64.wrap ((i : Int) + 1) = (i : Int) + 1 := IntWalk.i64_in _ (by rw [List.length_map] at hl; omega)
    have q2 : (0 : Int) ≤ (i : Int) + 1 := by omega
    have q3 : (i : Int) ≤ (i : Int) + 1 := by omega
    have q4 : (i : Int) + 1 ≤ (c : Int) := by omega
    have q5 : ((i : Int) + 1).toNat = i + 1 := by omega
    have q6 : ¬ (c = i) := by omega
    have HK1 := Lib.hid hK1
    have HK2 := Lib.hid hK2
    clear hK1 hK2
    go_enter Tryz.func49, Tryz.ntmps49
    go_wp2_with fail
    refine F.out.mono ?_
    rintro z w1 ⟨rfl, hb1⟩
    have hS : HasS w w.heap.size (w.heap.size + 1) #[.int .i64 tick, .slice (some ⟨b, off, none⟩) rows.length c] (evCs e).toArray w1 :=
      ⟨HK1.out.below hb1, by have := HK2.out.below hb1; simp only [World.size_alloc] at this; exact this, below_seq HB.out hb1⟩
    replace hS := Lib.hid hS
    clear hb1
    go_wp2_with fail
    clear F HE H0 HB HK1 HK2
    obtain ⟨k, hk⟩ : ∃ k : Nat, k = 9 := ⟨9, rfl⟩
    have zE : ∀ W, (Go.sizeOf 26).run Tryz.prog W = .ok k W := fun W => by rw [hk]; kernel_rfl
    have EV := fun W (hW : HasS w w.heap.size (w.heap.size + 1) #[.int .i64 tick, .slice (some ⟨b, off, none⟩) rows.length c] (evCs e).toArray W) => events_walk 0 _ _ W (hone.out.below hW.2.2) hy3
    replace EV := Lib.hid EV
    have hy4 : (evsOf [y]).length ≤ 1000000000000 := by unfold evsOf; rw [sortBy_length]; omega
    have ld0 : ∀ W, HasS w w.heap.size (w.heap.size + 1) #[.int .i64 tick, .slice (some ⟨b, off, none⟩) rows.length c] (evCs e).toArray W → W.cell? ⟨w.heap.size, 1, none⟩ = some (.slice (some ⟨b, off, none⟩) rows.length c) := fun W h => h.1.cell 1
    have ldE : ∀ W, HasS w w.heap.size (w.heap.size + 1) #[.int .i64 tick, .slice (some ⟨b, off, none⟩) rows.length c] (evCs e).toArray W → (loadCellsFrom ⟨w.heap.size + 1, 0, none⟩ 0 k #[]).run Tryz.prog W = .ok (evCs e).toArray W := fun W h => by rw [hk]; exact h.2.1.loadC _
    have CE := Lib.hid (fun W (u : Value) (hu : RowsIn evCs 9 W u (evsOf [y])) => containsEv_walk u (evsOf [y]) e W hu hy4)
    replace hk := Lib.hid hk
    go_region_held3 (HasS w w.heap.size (w.heap.size + 1) #[.int .i64 tick, .slice (some ⟨b, off, none⟩) rows.length c] (evCs e).toArray) (first | exact HasS.below hS.out ((Below.refl _ _).drew) | exact HasS.below (HasS.below hS.out ((Below.refl _ _).drew)) hb1 | exact HasS.below (by assumption) hb2)
      (first
        | (go_at_call 53; refine (EV.out _ (by assumption)).mono ?_; rintro z w1 ⟨u, rfl, hev, hb1⟩; replace hev := Lib.hid (RowsIn.of_own evCs_len (by decide) hev).1)
        | (go_at_call 83; refine (CE.out _ _ hev.out).mono ?_; rintro z w2 ⟨rfl, hb2⟩))
    go_wp2_with fail
    go_ret
    have hz2 : hasE (rows.map EnR.y) e = decide (e ∈ evsOf [y]) := by rw [hz.out]; exact decide_eq_decide.2 (evsOf_one y e).symm
    refine ⟨by rw [hz2]; rfl, ?_⟩
    first | exact (HasS.below (by assumption) hb2).2.2 | exact (show HasS _ _ _ _ _ _ by assumption).2.2
end Go.Proofs.YtnjiomggbafkmaaGreatDoor
