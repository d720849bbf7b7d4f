/- Entries in memory; the events of a book. -/
import Derived.Test.YtnjiomggbafkmaaGreatDoorSortZ
import Derived.OwnWalk
import Derived.Maps.AppendAt
import Derived.Deep.AppendLies
namespace Go.Proofs.YtnjiomggbafkmaaGreatDoor
open Go.RowKit Go.Lib

/-- An entry with its slices. -/
structure EnR where
  y : BEn
  g : Value
  a : Value
instance : Inhabited BEn := ⟨⟨⟨[], [], 0⟩, 0, [], [], []⟩⟩
abbrev enCs (r : EnR) : List Value := [.string (str r.y.key.st), .string (str r.y.key.ex), .int .i64 r.y.key.att, .int .i64 r.y.tick, .string (str r.y.text), r.g, r.a]
theorem enCs_len (r : EnR) : (enCs r).length = 7 := rfl
theorem grCs_len (g : BGr) : (grCs g).length = 4 := rfl
theorem apCs_len (a : BAp) : (apCs a).length = 6 := rfl
/-- The entry's slices read as its lists. -/
def EnIn (w : World) (r : EnR) : Prop := RowsIn grCs 4 w r.g r.y.grades ∧ RowsIn apCs 6 w r.a r.y.appeals
/-- The value is a slice that reads as these entries. -/
def EntriesIn (w : World) (v : Value) (ys : List BEn) : Prop := ∃ rows : List EnR, rows.map EnR.y = ys ∧ RowsIn enCs 7 w v rows ∧ ∀ r ∈ rows, EnIn w r
theorem EnIn.below {w w' : World} {r : EnR} (h : EnIn w r) (hb : Below w.heap.size w w') : EnIn w' r := ⟨h.1.below hb, h.2.below hb⟩
theorem EntriesIn.below {w w' : World} {v : Value} {ys : List BEn} (h : EntriesIn w v ys) (hb : Below w.heap.size w w') : EntriesIn w' v ys := by
  obtain ⟨rows, h1, h2, h3⟩ := h
  exact ⟨rows, h1, h2.below hb, fun r hr => (h3 r hr).below hb⟩
theorem EntriesIn.nil (w : World) : EntriesIn w (.slice none 0 0) [] := ⟨[], rfl, RowsIn.nil w, by simp⟩
/-- The value reads as this book. -/
def BookIn (w : World) (v : Value) (b : Bk) : Prop := ∃ ev, v = .agg #[.int .i64 b.tick, ev] ∧ EntriesIn w ev b.entries
theorem BookIn.below {w w' : World} {v : Value} {b : Bk} (h : BookIn w v b) (hb : Below w.heap.size w w') : BookIn w' v b := by
  obtain ⟨ev, hv, he⟩ := h
  exact ⟨ev, hv, he.below hb⟩

theorem en_cells {w : World} {b off : Nat} {xs : List EnR} (h : RowsAt enCs 7 w b off xs) (i : Nat) (hi : i < xs.length) :
    w.cell? ⟨b, off + i * 7, none⟩ = some (.string (str xs[i].y.key.st)) ∧ w.cell? ⟨b, off + i * 7 + 1, none⟩ = some (.string (str xs[i].y.key.ex)) ∧ w.cell? ⟨b, off + i * 7 + 2, none⟩ = some (.int .i64 xs[i].y.key.att) ∧
    w.cell? ⟨b, off + i * 7 + 3, none⟩ = some (.int .i64 xs[i].y.tick) ∧ w.cell? ⟨b, off + i * 7 + 4, none⟩ = some (.string (str xs[i].y.text)) ∧ w.cell? ⟨b, off + i * 7 + 5, none⟩ = some xs[i].g ∧ w.cell? ⟨b, off + i * 7 + 6, none⟩ = some xs[i].a :=
  ⟨h i hi 0 (by simp), h i hi 1 (by simp), h i hi 2 (by simp), h i hi 3 (by simp), h i hi 4 (by simp), h i hi 5 (by simp), h i hi 6 (by simp)⟩
theorem gr_cells {w : World} {b off : Nat} {xs : List BGr} (h : RowsAt grCs 4 w b off xs) (i : Nat) (hi : i < xs.length) :
    w.cell? ⟨b, off + i * 4, none⟩ = some (.int .i64 xs[i].ver) ∧ w.cell? ⟨b, off + i * 4 + 1, none⟩ = some (.int .i64 xs[i].hun) ∧ w.cell? ⟨b, off + i * 4 + 2, none⟩ = some (.int .i64 xs[i].tick) ∧ w.cell? ⟨b, off + i * 4 + 3, none⟩ = some (.string (str xs[i].text)) :=
  ⟨h i hi 0 (by simp), h i hi 1 (by simp), h i hi 2 (by simp), h i hi 3 (by simp)⟩
theorem ap_cells {w : World} {b off : Nat} {xs : List BAp} (h : RowsAt apCs 6 w b off xs) (i : Nat) (hi : i < xs.length) :
    w.cell? ⟨b, off + i * 6, none⟩ = some (.int .i64 xs[i].tick) ∧ w.cell? ⟨b, off + i * 6 + 1, none⟩ = some (.string (str xs[i].text)) ∧ w.cell? ⟨b, off + i * 6 + 2, none⟩ = some (.bool xs[i].dec) ∧
    w.cell? ⟨b, off + i * 6 + 3, none⟩ = some (.bool xs[i].acc) ∧ w.cell? ⟨b, off + i * 6 + 4, none⟩ = some (.int .i64 xs[i].att) ∧ w.cell? ⟨b, off + i * 6 + 5, none⟩ = some (.string (str xs[i].ans)) :=
  ⟨h i hi 0 (by simp), h i hi 1 (by simp), h i hi 2 (by simp), h i hi 3 (by simp), h i hi 4 (by simp), h i hi 5 (by simp)⟩

def evZero : Value := .agg #[.int .i64 0, .string ⟨#[]⟩, .string ⟨#[]⟩, .int .i64 0, .int .i64 0, .int .i64 0, .int .i64 0, .string ⟨#[]⟩, .bool false]
theorem infoEv : (Tryz.prog.info? 26).map (fun i => (i.zero, i.size, i.bytes)) = some (some evZero, 9, 96) := by kernel_rfl

/-- A row of events that the call owns. -/
def EvOwn (B : Nat) (w : World) (v : Value) (es : List BEv) : Prop := w.ownsRow B 26 9 v es.length (flatCs evCs es)
theorem EvOwn.push {B : Nat} {w w1 : World} {v v' : Value} {es : List BEv} {e : BEv} {o : Obj} (h : EvOwn B w v es) (h1 : w1.ownsRow B 26 9 v' (es.length + 1) (flatCs evCs es ++ evCs e)) (hg : (w.alloc o).grownBy w1 v.ownBlock) {B0 : Nat} {w0 : World} (hb : Below B0 w0 w) (hB : B0 ≤ B) (hs : B0 ≤ w.heap.size) :
    EvOwn B w1 v' (es ++ [e]) ∧ Below B0 w0 w1 := by
  refine ⟨?_, (hb.alloc hs o).grown hg (by simp; omega) fun q hq => Nat.le_trans hB (h.lt q hq).1⟩
  unfold EvOwn
  rw [flatCs_append, flatCs_one, List.length_append]
  exact h1

/-- A block of another kind of element is kept by a push. -/
theorem EvOwn.blk {B g : Nat} {w w1 : World} {v : Value} {es : List BEv} {o : Obj} {T : TypeId} {cs : Array Value} (h : EvOwn B w v es) (hg : (w.alloc o).grownBy w1 v.ownBlock) (hT : 26 ≠ T) (hk : Blk w g T cs) : Blk w1 g T cs :=
  (hk.alloc o).grown hg (fun e => own_blk_ne h hk hT e.symm)
theorem own_slice' {w : World} {B n size : Nat} {T : TypeId} {v : Value} {xs : List Value} (h : w.ownsRow B T size v n xs) : ∃ a c, v = .slice a n c := by
  rcases h.2 with ⟨rfl, rfl⟩ | ⟨g, cap, cur, rfl, _⟩
  · exact ⟨_, _, rfl⟩
  · exact ⟨_, _, rfl⟩
theorem evCs_all (e : BEv) : ∀ u ∈ evCs e, u.oneCell' = true := evCs_one e
theorem new_ev (W : World) (e : BEv) (T : TypeId) (H : Nat) (hH : W.heap.size = H) : ∀ j u, (evCs e)[j]? = some u → (W.alloc (.cells (evCs e).toArray T)).cell? ((⟨H, 0, none⟩ : Addr).add j) = some u := by
  subst hH
  exact World.news_of_block (cs := (evCs e).toArray) (heap_alloc_new W _)
theorem raw_take {rows : List EnR} {k : Nat} (h : k < rows.length) : rawEvs ((rows.take (k + 1)).map EnR.y) = rawEvs ((rows.take k).map EnR.y) ++ rows[k].y.evs := by
  rw [take_snoc' rows k h, List.map_append]; simp only [rawEvs, List.flatMap_append, List.map_cons, List.map_nil, List.flatMap_cons, List.flatMap_nil, List.append_nil]
theorem raw_take_le (rows : List EnR) (k : Nat) : (rawEvs ((rows.take k).map EnR.y)).length ≤ (rawEvs (rows.map EnR.y)).length := by
  conv => rhs; rw [← List.take_append_drop k rows, List.map_append]
  simp only [rawEvs, List.flatMap_append, List.length_append]
  omega
set_option maxHeartbeats 4000000 in
set_option maxRecDepth 100000 in
theorem events_some (b off c : Nat) (tick : Int) (rows : List EnR) (w : World) (hb : b < w.heap.size) (hr : RowsAt enCs 7 w b off rows) (hin : ∀ r ∈ rows, EnIn w r) (hn : (rawEvs (rows.map EnR.y)).length ≤ 100000000) :
    Calls Tryz.prog 53 #[.agg #[.int .i64 tick, .slice (some ⟨b, off, none⟩) rows.length c]] w fun e w' => ∃ v, e = .returned v ∧ EvOwn w.heap.size w' v (evsOf (rows.map EnR.y)) ∧ Below w.heap.size w w' := by
  obtain ⟨i0, hi, hz0, hz1, hz2⟩ := info_parts infoEv
  have hlen : rows.length ≤ 100000000 := by
    refine Nat.le_trans ?_ hn
    clear hr hin hn
    induction rows with
    | nil => simp
    | cons r rows ih => simp [rawEvs, BEn.evs] at *; omega
  have HR := Lib.hid hr
  have HI := Lib.hid hin
  have HN := Lib.hid hn
  clear hr hin hn
  go_enter Tryz.func53, Tryz.ntmps53
  go_wp2_with fail
  go_loopw [3, 13] (fun v3 v13 wr => ∃ k : Nat, k ≤ rows.length ∧ v13 = .int .i64 k ∧ Hid (EvOwn w.heap.size wr v3 (rawEvs ((rows.take k).map EnR.y))) ∧ Hid (Below w.heap.size w wr)) (fun _ i _ => rows.length - (RowKit.intOf i).toNat)
  case atStart => exact ⟨0, Nat.zero_le _, rfl, Lib.hid (World.ownsRow_nil _ _ _ _), Lib.hid ((Below.refl _ _).alloc (Nat.le_refl _) _)⟩
  case round =>
    obtain ⟨k, hk, rfl, hO, hB⟩ := hrel
    by_cases hlt : k < rows.length
    · obtain ⟨c0, c1, c2, c3, c4, c5, c6⟩ := en_cells (HR.out.below hB.out hb) k hlt
      obtain ⟨hI1, hI2⟩ := HI.out rows[k] (List.getElem_mem hlt)
      have hnx := raw_take hlt
      have hle := raw_take_le rows (k + 1)
      rw [hnx, List.length_append] at hle
      have hN := HN.out
      obtain ⟨r, hrk⟩ : ∃ r, r = rows[k] := ⟨_, rfl⟩
      rw [← hrk] at c0 c1 c2 c3 c4 c5 c6 hI1 hI2 hnx hle
      clear hrk
      obtain ⟨ys, gv, av⟩ := r
      obtain ⟨ga, gc, hgv, hgl, hgr⟩ := hI1
      obtain ⟨aa, ac, hav, hal, har⟩ := hI2
      clear hgl hal
      simp only at hgv hav c0 c1 c2 c3 c4 c5 c6 hgr har hnx hle
      subst hgv
      subst hav
      replace hgr := Lib.hid hgr
      replace har := Lib.hid har
      obtain ⟨pre, hpre⟩ : ∃ pre, pre = rawEvs ((rows.take k).map EnR.y) := ⟨_, rfl⟩
      rw [← hpre] at hO hnx hle
      have hev : ys.evs.length = 1 + ys.grades.length + (ys.appeals.flatMap (BAp.evs ys.key)).length := by simp [BEn.evs]; omega
      have hap : ys.appeals.length ≤ (ys.appeals.flatMap (BAp.evs ys.key)).length := by
        generalize ys.appeals = l
        induction l with
        | nil => simp
        | cons x l ih => simp only [List.flatMap_cons, List.length_append, List.length_cons, BAp.evs]; omega
      replace hnx := Lib.hid hnx
      replace hpre := Lib.hid hpre
      have hsz := hB.out.size
      obtain ⟨a3, c3', he3⟩ := own_slice' hO.out
      subst he3
      have hb1 := Lib.hid (hB.out.alloc hsz (.cells #[.string (str ys.key.st), .string (str ys.key.ex), .int .i64 ys.key.att, .int .i64 ys.tick, .string (str ys.text), .slice ga ys.grades.length gc, .slice aa ys.appeals.length ac] 39))
      have hk1 := Lib.hid (Blk.new wr 39 #[.string (str ys.key.st), .string (str ys.key.ex), .int .i64 ys.key.att, .int .i64 ys.tick, .string (str ys.text), .slice ga ys.grades.length gc, .slice aa ys.appeals.length ac])
      go_wp2_with (at_builtin; refine wpList_append_own _ rfl _ _ 22 rfl w.heap.size 26 i0 evZero 9 96 Tryz.underlying22 hi hz0 hz1 hz2 rfl (by decide) (.slice a3 pre.length c3') pre.length (flatCs evCs pre) rfl ((hO.out.alloc _).alloc _) ⟨wr.heap.size + 1, 0, none⟩ 1 1 (evCs ⟨0, ys.key, ys.tick, 0, 0, ys.text, false⟩) rfl rfl ?c1 ?c2 ?c3 ?c4 ?c5 ?_)
      case c1 => exact new_ev _ _ _ _ (by simp)
      case c2 => exact evCs_all _
      case c3 => unfold maxLen; omega
      case c4 => omega
      case c5 => simp; omega
      intro v' w1 hown1 hgr1 _
      obtain ⟨hO1, hB1⟩ := EvOwn.push (e := ⟨0, ys.key, ys.tick, 0, 0, ys.text, false⟩) (hO.out.alloc _) hown1 hgr1 hb1.out (Nat.le_refl _) (by simp; omega)
      have hK1 := EvOwn.blk (hO.out.alloc _) hgr1 (by decide) hk1.out
      replace hO1 := Lib.hid hO1
      replace hB1 := Lib.hid hB1
      clear hown1 hgr1 hk1 hb1 c0 c1 c2 c3 c4 c5 c6 hO hB
      generalize wr.heap.size = yb at *
      have hyc := hK1.cell
      replace hK1 := Lib.hid hK1
      go_wp2_with fail
      clear hyc
      obtain ⟨pre1, hpre1⟩ : ∃ pre1, pre1 = pre ++ [⟨0, ys.key, ys.tick, 0, 0, ys.text, false⟩] := ⟨_, rfl⟩
      rw [← hpre1] at hO1
      have hl1 : pre1.length ≤ pre.length + 1 := by rw [hpre1]; simp
      replace hpre1 := Lib.hid hpre1
      go_loopw [3, 30] (fun v3 v30 wr1 => ∃ j : Nat, j ≤ ys.grades.length ∧ v30 = .int .i64 j ∧ Hid (EvOwn w.heap.size wr1 v3 (pre1 ++ (ys.grades.take j).map (BGr.ev ys.key))) ∧ Hid (Below w.heap.size w wr1) ∧ Hid (Blk wr1 yb 39 #[.string (str ys.key.st), .string (str ys.key.ex), .int .i64 ys.key.att, .int .i64 ys.tick, .string (str ys.text), .slice ga ys.grades.length gc, .slice aa ys.appeals.length ac])) (fun _ i _ => ys.grades.length - (RowKit.intOf i).toNat)
      case atStart => exact ⟨0, Nat.zero_le _, rfl, by simpa using hO1, hB1, hK1⟩
      case round =>
        obtain ⟨j, hj, rfl, hO, hB, hK⟩ := hrel
        clear hO1 hB1 hK1 hsz
        have hyc := hK.out.cell
        have hsz1 := hB.out.size
        have hyl := hK.out.lt
        have hyne : ¬ (yb = wr.heap.size) := by omega
        by_cases hltj : j < ys.grades.length
        · obtain ⟨b', off', rfl, hlt', hra⟩ := hgr.out (by intro e; rw [e] at hltj; cases hltj)
          obtain ⟨d0, d1, d2, d3⟩ := gr_cells (hra.below hB.out hlt') j hltj
          have hmm : pre1 ++ (ys.grades.take (j + 1)).map (BGr.ev ys.key) = (pre1 ++ (ys.grades.take j).map (BGr.ev ys.key)) ++ [BGr.ev ys.key ys.grades[j]] := by
            rw [take_snoc' ys.grades j hltj, List.map_append, List.append_assoc]; rfl
          obtain ⟨q, hq⟩ : ∃ q, q = pre1 ++ (ys.grades.take j).map (BGr.ev ys.key) := ⟨_, rfl⟩
          have hql : q.length ≤ pre1.length + j := by rw [hq]; simp; omega
          rw [← hq] at hmm hO
          obtain ⟨g, hgg⟩ : ∃ g, g = ys.grades[j] := ⟨_, rfl⟩
          rw [← hgg] at hmm d0 d1 d2 d3
          replace hmm := Lib.hid hmm
          clear hq hgg hra
          obtain ⟨a4, c4', he4⟩ := own_slice' hO.out
          subst he4
          have hb1 := Lib.hid (hB.out.alloc hsz1 (.cells #[.int .i64 g.ver, .int .i64 g.hun, .int .i64 g.tick, .string (str g.text)] 42))
          have hk1 := Lib.hid (hK.out.alloc (.cells #[.int .i64 g.ver, .int .i64 g.hun, .int .i64 g.tick, .string (str g.text)] 42))
          go_wp2_with (at_builtin; refine wpList_append_own _ rfl _ _ 22 rfl w.heap.size 26 i0 evZero 9 96 Tryz.underlying22 hi hz0 hz1 hz2 rfl (by decide) (.slice a4 q.length c4') q.length (flatCs evCs q) rfl ((hO.out.alloc _).alloc _) ⟨wr.heap.size + 1, 0, none⟩ 1 1 (evCs (BGr.ev ys.key g)) rfl rfl ?c1 ?c2 ?c3 ?c4 ?c5 ?_)
          case c1 => exact new_ev _ _ _ _ (by simp)
          case c2 => exact evCs_all _
          case c3 => unfold maxLen; omega
          case c4 => omega
          case c5 => simp; omega
          intro v' w1 hown1 hgr1 _
          obtain ⟨hO1, hB1⟩ := EvOwn.push (e := BGr.ev ys.key g) (hO.out.alloc _) hown1 hgr1 hb1.out (Nat.le_refl _) (by simp; omega)
          have hK1 := EvOwn.blk (hO.out.alloc _) hgr1 (by decide) hk1.out
          rw [← hmm.out] at hO1
          replace hO1 := Lib.hid hO1
          replace hB1 := Lib.hid hB1
          replace hK1 := Lib.hid hK1
          clear hown1 hgr1 hk1 hb1 d0 d1 d2 d3 hO hB hyc
          go_wp2_with fail
          exact ⟨⟨j + 1, by omega, by go_num, hO1, hB1, hK1⟩, by simp [RowKit.intOf]; omega⟩
        · go_wp2_with fail
          clear hyc
          obtain ⟨wo, hwo⟩ : ∃ wo : World, wo = wr := ⟨_, rfl⟩
          subst hwo
          obtain ⟨pre2, hpre2⟩ : ∃ pre2, pre2 = pre1 ++ (ys.grades.take j).map (BGr.ev ys.key) := ⟨_, rfl⟩
          have hl2 : pre2.length ≤ pre1.length + ys.grades.length := by rw [hpre2]; simp; omega
          rw [← hpre2] at hO
          have hfin : pre2 ++ ys.appeals.flatMap (BAp.evs ys.key) = pre ++ ys.evs := by
            rw [hpre2, hpre1.out, List.take_of_length_le (by omega)]; simp [BEn.evs]
          replace hfin := Lib.hid hfin
          clear hpre2 hyne
          go_loopw [3, 52] (fun v3 v52 wr2 => ∃ m : Nat, m ≤ ys.appeals.length ∧ v52 = .int .i64 m ∧ Hid (EvOwn w.heap.size wr2 v3 (pre2 ++ (ys.appeals.take m).flatMap (BAp.evs ys.key))) ∧ Hid (Below w.heap.size w wr2) ∧ Hid (Blk wr2 yb 39 #[.string (str ys.key.st), .string (str ys.key.ex), .int .i64 ys.key.att, .int .i64 ys.tick, .string (str ys.text), .slice ga ys.grades.length gc, .slice aa ys.appeals.length ac])) (fun _ i _ => ys.appeals.length - (RowKit.intOf i).toNat)
          case atStart => exact ⟨0, Nat.zero_le _, rfl, by simpa using hO, hB, hK⟩
          case round =>
            clear hO hB hK hsz1 hyl
            obtain ⟨m, hm, rfl, hO, hB, hK⟩ := hrel
            have hyc := hK.out.cell
            have hsz1 := hB.out.size
            have hyl := hK.out.lt
            have hyne : ¬ (yb = wr.heap.size) := by omega
            by_cases hltm : m < ys.appeals.length
            · obtain ⟨b', off', rfl, hlt', hra⟩ := har.out (by intro e; rw [e] at hltm; cases hltm)
              obtain ⟨d0, d1, d2, d3, d4, d5⟩ := ap_cells (hra.below hB.out hlt') m hltm
              have hmm : pre2 ++ (ys.appeals.take (m + 1)).flatMap (BAp.evs ys.key) = (pre2 ++ (ys.appeals.take m).flatMap (BAp.evs ys.key)) ++ BAp.evs ys.key ys.appeals[m] := by
                rw [take_snoc' ys.appeals m hltm, List.flatMap_append, List.append_assoc]; simp
              obtain ⟨q, hq⟩ : ∃ q, q = pre2 ++ (ys.appeals.take m).flatMap (BAp.evs ys.key) := ⟨_, rfl⟩
              have hql : q.length + (BAp.evs ys.key ys.appeals[m]).length ≤ pre2.length + (ys.appeals.flatMap (BAp.evs ys.key)).length := by
                rw [← List.length_append, hq, ← hmm, List.length_append]
                have : (ys.appeals.flatMap (BAp.evs ys.key)) = (ys.appeals.take (m + 1)).flatMap (BAp.evs ys.key) ++ (ys.appeals.drop (m + 1)).flatMap (BAp.evs ys.key) := by
                  rw [← List.flatMap_append, List.take_append_drop]
                rw [this, List.length_append]; omega
              rw [← hq] at hmm hO
              obtain ⟨g, hgg⟩ : ∃ g, g = ys.appeals[m] := ⟨_, rfl⟩
              rw [← hgg] at hmm d0 d1 d2 d3 d4 d5 hql
              clear hq hgg hra
              obtain ⟨a4, c4', he4⟩ := own_slice' hO.out
              subst he4
              have hb1 := Lib.hid (hB.out.alloc hsz1 (.cells #[.int .i64 g.tick, .string (str g.text), .bool g.dec, .bool g.acc, .int .i64 g.att, .string (str g.ans)] 44))
              have hk1 := Lib.hid (hK.out.alloc (.cells #[.int .i64 g.tick, .string (str g.text), .bool g.dec, .bool g.acc, .int .i64 g.att, .string (str g.ans)] 44))
              have hj1 := Lib.hid (Blk.new wr 44 #[.int .i64 g.tick, .string (str g.text), .bool g.dec, .bool g.acc, .int .i64 g.att, .string (str g.ans)])
              cases hdec : g.dec with
              | false =>
                have hae : BAp.evs ys.key g = [⟨2, ys.key, g.tick, 0, 0, g.text, false⟩] := by simp [BAp.evs, hdec]
                rw [hae] at hmm hql
                simp only [List.length_singleton] at hql
                replace hmm := Lib.hid hmm
                have hae := Lib.hid hae
                rw [hdec] at d2 hb1 hk1 hj1
                clear hdec
                go_wp2_with (at_builtin; refine wpList_append_own _ rfl _ _ 22 rfl w.heap.size 26 i0 evZero 9 96 Tryz.underlying22 hi hz0 hz1 hz2 rfl (by decide) (.slice a4 q.length c4') q.length (flatCs evCs q) rfl ((hO.out.alloc _).alloc _) ⟨wr.heap.size + 1, 0, none⟩ 1 1 (evCs ⟨2, ys.key, g.tick, 0, 0, g.text, false⟩) rfl rfl ?c1 ?c2 ?c3 ?c4 ?c5 ?_)
                case c1 => exact new_ev _ _ _ _ (by simp)
                case c2 => exact evCs_all _
                case c3 => unfold maxLen; omega
                case c4 => omega
                case c5 => simp; omega
                intro v' w1 hown1 hgr1 _
                obtain ⟨hO1, hB1⟩ := EvOwn.push (e := ⟨2, ys.key, g.tick, 0, 0, g.text, false⟩) (hO.out.alloc _) hown1 hgr1 hb1.out (Nat.le_refl _) (by simp; omega)
                have hK1 := EvOwn.blk (hO.out.alloc _) hgr1 (by decide) hk1.out
                have hJ1 := (EvOwn.blk (hO.out.alloc _) hgr1 (by decide) hj1.out).cell
                rw [← hmm.out] at hO1
                replace hO1 := Lib.hid hO1
                replace hB1 := Lib.hid hB1
                replace hK1 := Lib.hid hK1
                clear hown1 hgr1 hk1 hb1 d0 d1 d2 d3 d4 d5 hO hB hyc hj1
                go_wp2_with fail
                exact ⟨⟨m + 1, by omega, by go_num, hO1, hB1, hK1⟩, by simp [RowKit.intOf]; omega⟩
              | true =>
                have hae : BAp.evs ys.key g = [⟨2, ys.key, g.tick, 0, 0, g.text, false⟩] ++ [⟨3, ys.key, g.att, 0, 0, g.ans, g.acc⟩] := by simp [BAp.evs, hdec]
                rw [hae, ← List.append_assoc] at hmm
                rw [hae] at hql
                simp only [List.length_append, List.length_singleton] at hql
                replace hmm := Lib.hid hmm
                have hae := Lib.hid hae
                rw [hdec] at d2 hb1 hk1 hj1
                clear hdec
                go_wp2_with (at_builtin; refine wpList_append_own _ rfl _ _ 22 rfl w.heap.size 26 i0 evZero 9 96 Tryz.underlying22 hi hz0 hz1 hz2 rfl (by decide) (.slice a4 q.length c4') q.length (flatCs evCs q) rfl ((hO.out.alloc _).alloc _) ⟨wr.heap.size + 1, 0, none⟩ 1 1 (evCs ⟨2, ys.key, g.tick, 0, 0, g.text, false⟩) rfl rfl ?c1 ?c2 ?c3 ?c4 ?c5 ?_)
                case c1 => exact new_ev _ _ _ _ (by simp)
                case c2 => exact evCs_all _
                case c3 => unfold maxLen; omega
                case c4 => omega
                case c5 => simp; omega
                intro v' w1 hown1 hgr1 _
                obtain ⟨hO1, hB1⟩ := EvOwn.push (e := ⟨2, ys.key, g.tick, 0, 0, g.text, false⟩) (hO.out.alloc _) hown1 hgr1 hb1.out (Nat.le_refl _) (by simp; omega)
                have hK1 := EvOwn.blk (hO.out.alloc _) hgr1 (by decide) hk1.out
                have hJ1 := (EvOwn.blk (hO.out.alloc _) hgr1 (by decide) hj1.out).cell
                have hyc1 := hK1.cell
                replace hO1 := Lib.hid hO1
                replace hB1 := Lib.hid hB1
                replace hK1 := Lib.hid hK1
                clear hown1 hgr1 hk1 hb1 d0 d1 d2 d3 d4 d5 hO hB hyc hj1
                generalize wr.heap.size = gb at *
                obtain ⟨q2, hq2⟩ : ∃ q2, q2 = q ++ [⟨2, ys.key, g.tick, 0, 0, g.text, false⟩] := ⟨_, rfl⟩
                have hq2l : q2.length ≤ q.length + 1 := by rw [hq2]; simp
                rw [← hq2] at hO1 hmm
                clear hq2
                obtain ⟨a5, c5', he5⟩ := own_slice' hO1.out
                subst he5
                have hsz2 := hB1.out.size
                go_wp2_with (at_builtin; refine wpList_append_own _ rfl _ _ 22 rfl w.heap.size 26 i0 evZero 9 96 Tryz.underlying22 hi hz0 hz1 hz2 rfl (by decide) (.slice a5 q2.length c5') q2.length (flatCs evCs q2) rfl (hO1.out.alloc _) ⟨w1.heap.size, 0, none⟩ 1 1 (evCs ⟨3, ys.key, g.att, 0, 0, g.ans, g.acc⟩) rfl rfl ?c1 ?c2 ?c3 ?c4 ?c5 ?_)
                case c1 => exact new_ev _ _ _ _ (by simp)
                case c2 => exact evCs_all _
                case c3 => unfold maxLen; omega
                case c4 => omega
                case c5 => simp; omega
                intro v'' w2 hown2 hgr2 _
                obtain ⟨hO2, hB2⟩ := EvOwn.push (e := ⟨3, ys.key, g.att, 0, 0, g.ans, g.acc⟩) hO1.out hown2 hgr2 hB1.out (Nat.le_refl _) hsz2
                have hK2 := EvOwn.blk hO1.out hgr2 (by decide) hK1.out
                rw [← hmm.out] at hO2
                replace hO2 := Lib.hid hO2
                replace hB2 := Lib.hid hB2
                replace hK2 := Lib.hid hK2
                clear hown2 hgr2 hJ1 hyc1
                go_wp2_with fail
                exact ⟨⟨m + 1, by omega, by go_num, hO2, hB2, hK2⟩, by simp [RowKit.intOf]; omega⟩
            · clear hyc
              have hO' := hO.out
              rw [List.take_of_length_le (by omega), hfin.out, ← hnx.out] at hO'
              replace hO' := Lib.hid hO'
              clear hO
              go_wp2_with fail
              exact ⟨⟨k + 1, by omega, by go_num, hO', hB⟩, by simp [RowKit.intOf]; omega⟩
    · have hO' := hO.out
      rw [List.take_of_length_le (by omega)] at hO'
      have hN := HN.out
      replace hO' := Lib.hid hO'
      clear hO
      go_wp2_with fail
      refine (sortStable_walk w.heap.size _ _ _ hO'.out (by omega)).mono ?_
      rintro e w1 ⟨rfl, hs, hg⟩
      have hE := Lib.hid (show EvOwn w.heap.size w1 _ (evsOf (rows.map EnR.y)) by
        unfold EvOwn evsOf
        rw [sortBy_length]
        exact hs)
      have hB' := Lib.hid (hB.out.grown hg hB.out.size fun q hq => (hO'.out.lt q hq).1)
      clear hs hg hO' hB
      go_wp2_with fail
      go_ret
      exact ⟨_, rfl, hE.out, hB'.out⟩
end Go.Proofs.YtnjiomggbafkmaaGreatDoor
