/- The builder's memory. -/
import Derived.Test.YtnjiomggbafkmaaGreatDoorBookJ
namespace Go.Proofs.YtnjiomggbafkmaaGreatDoor
open Go.RowKit Go.Lib

theorem own_own_ne {w : World} {B B' k k' n n' : Nat} {T T' : TypeId} {v v' : Value} {xs xs' : List Value} (h : w.ownsRow B T k v n xs) (h' : w.ownsRow B' T' k' v' n' xs') (hT : T ≠ T') : v.ownBlock = none ∨ v.ownBlock ≠ v'.ownBlock := by
  rcases h.2 with ⟨rfl, _⟩ | ⟨g, cap, cur, rfl, _, hg, _⟩
  · exact .inl rfl
  · right
    rcases h'.2 with ⟨rfl, _⟩ | ⟨g', cap', cur', rfl, _, hg', _⟩
    · simp [Value.ownBlock]
    · intro e
      have : g = g' := by simpa [Value.ownBlock] using e
      subst this
      exact Blk.ne_ (w := w) hg hg' hT rfl
theorem own_ne_some {w : World} {B B' k k' n n' g c : Nat} {T T' : TypeId} {v : Value} {xs xs' : List Value} (h : w.ownsRow B T k v n xs) (h' : w.ownsRow B' T' k' (.slice (some ⟨g, 0, none⟩) n' c) n' xs') (hT : T ≠ T') : v.ownBlock ≠ some g := by
  rcases own_own_ne h h' hT with e | e
  · rw [e]; simp
  · exact e
theorem flatCs_set {α : Type} {f : α → List Value} {k : Nat} (hk : ∀ x, (f x).length = k) (u : Value) (j : Nat) (hj : j < k) : ∀ (xs : List α) (i : Nat) (hi : i < xs.length) (x' : α), f x' = (f xs[i]).set j u → (flatCs f xs).set (i * k + j) u = flatCs f (xs.set i x')
  | [], i, hi, _, _ => by cases hi
  | x :: xs, 0, _, x', h => by
    simp only [flatCs, List.set_cons_zero, List.flatMap_cons, Nat.zero_mul, Nat.zero_add]
    rw [List.set_append_left _ _ (by rw [hk]; exact hj)]
    rw [show f x' = (f x).set j u from h]
  | x :: xs, i + 1, hi, x', h => by
    simp only [flatCs, List.set_cons_succ, List.flatMap_cons]
    rw [List.set_append_right _ _ (by rw [hk, Nat.succ_mul]; omega), hk, show (i + 1) * k + j - k = i * k + j by rw [Nat.succ_mul]; omega]
    have := flatCs_set hk u j hj xs i (by simpa using hi) x' h
    simp only [flatCs] at this
    rw [this]

/-- The rows of grades and of appeals of an entry are the call's own. -/
def RowOwn (B : Nat) (w : World) (r : EnR) : Prop := w.ownsRow B 42 4 r.g r.y.grades.length (flatCs grCs r.y.grades) ∧ w.ownsRow B 44 6 r.a r.y.appeals.length (flatCs apCs r.y.appeals)
def OwnApart (v v' : Value) : Prop := v.ownBlock = none ∨ v.ownBlock ≠ v'.ownBlock
/-- No two entries share a block. -/
def RowsApart (rows : List EnR) : Prop := ∀ i j (hi : i < rows.length) (hj : j < rows.length), i ≠ j → OwnApart rows[i].g rows[j].g ∧ OwnApart rows[i].a rows[j].a
/-- The entries of a book in hand. -/
structure OwnEnts (B : Nat) (w : World) (ev : Value) (rows : List EnR) : Prop where
  ents : w.ownsRow B 39 7 ev rows.length (flatCs enCs rows)
  each : ∀ r ∈ rows, RowOwn B w r
  apart : RowsApart rows
/-- The builder at block G, its book in hand. -/
structure OwnBld (B : Nat) (w : World) (G : Nat) (tick : Int) (ev : Value) (rows : List EnR) : Prop where
  blk : Blk w G 76 #[.int .i64 tick, ev]
  le : B ≤ G
  own : OwnEnts B w ev rows

theorem RowOwn.in_ {B : Nat} {w : World} {r : EnR} (h : RowOwn B w r) : EnIn w r := ⟨(RowsIn.of_own grCs_len (by decide) h.1).1, (RowsIn.of_own apCs_len (by decide) h.2).1⟩
theorem OwnEnts.in_ {B : Nat} {w : World} {ev : Value} {rows : List EnR} (h : OwnEnts B w ev rows) : EntriesIn w ev (rows.map EnR.y) :=
  ⟨rows, rfl, (RowsIn.of_own enCs_len (by decide) h.ents).1, fun r hr => (h.each r hr).in_⟩
theorem RowOwn.kept {B : Nat} {w w' : World} {r : EnR} {row : Option Nat} (h : RowOwn B w r) (hg : w.grownBy w' row) (h1 : r.g.ownBlock = none ∨ r.g.ownBlock ≠ row) (h2 : r.a.ownBlock = none ∨ r.a.ownBlock ≠ row) : RowOwn B w' r := ⟨h.1.kept hg h1, h.2.kept hg h2⟩
theorem RowOwn.set_ {B : Nat} {w : World} {r : EnR} (h : RowOwn B w r) {p : Addr} (h1 : r.g.ownBlock ≠ some p.block) (h2 : r.a.ownBlock ≠ some p.block) (u : Value) : RowOwn B (w.setCell p u) r := ⟨ownsRow_setCell_other h.1 h1 u, ownsRow_setCell_other h.2 h2 u⟩
theorem none_or (o : Option Nat) : o = none ∨ o ≠ none := by cases o <;> simp
theorem OwnEnts.old {B : Nat} {w w' : World} {ev : Value} {rows : List EnR} (h : OwnEnts B w ev rows) (hb : Below w.heap.size w w') : OwnEnts B w' ev rows :=
  ⟨ownsRow_old h.ents hb, fun r hr => ⟨ownsRow_old (h.each r hr).1 hb, ownsRow_old (h.each r hr).2 hb⟩, h.apart⟩
theorem OwnBld.old {B G : Nat} {w w' : World} {tick : Int} {ev : Value} {rows : List EnR} (h : OwnBld B w G tick ev rows) (hb : Below w.heap.size w w') : OwnBld B w' G tick ev rows :=
  ⟨h.blk.below hb, h.le, h.own.old hb⟩
theorem OwnBld.drew {B G : Nat} {w : World} {tick : Int} {ev : Value} {rows : List EnR} (h : OwnBld B w G tick ev rows) : OwnBld B w.drew G tick ev rows := h.old (Below.refl _ _).drew
theorem OwnBld.alloc {B G : Nat} {w : World} {tick : Int} {ev : Value} {rows : List EnR} (h : OwnBld B w G tick ev rows) (o : Obj) : OwnBld B (w.alloc o) G tick ev rows := h.old ((Below.refl _ _).alloc (Nat.le_refl _) o)
/-- The tick is written. -/
theorem OwnBld.tick_ {B G : Nat} {w : World} {tick : Int} {ev : Value} {rows : List EnR} (h : OwnBld B w G tick ev rows) (t : Int) : OwnBld B (w.setCell ⟨G, 0, none⟩ (.int .i64 t)) G t ev rows := by
  have ne : ∀ {T : TypeId} {k n : Nat} {v : Value} {xs : List Value}, w.ownsRow B T k v n xs → T ≠ 76 → v.ownBlock ≠ some (⟨G, 0, none⟩ : Addr).block := fun h1 hT => own_blk_ne h1 h.blk hT
  refine ⟨h.blk.set_ 0 _, h.le, ownsRow_setCell_other h.own.ents (ne h.own.ents (by decide)) _, fun r hr => (h.own.each r hr).set_ (ne (h.own.each r hr).1 (by decide)) (ne (h.own.each r hr).2 (by decide)) _, h.own.apart⟩
theorem RowsApart.push {rows : List EnR} {r : EnR} (h : RowsApart rows) (h1 : r.g.ownBlock = none) (h2 : r.a.ownBlock = none) : RowsApart (rows ++ [r]) := by
  intro i j hi hj hne
  rw [List.length_append, List.length_singleton] at hi hj
  rcases Nat.lt_or_ge i rows.length with hi' | hi'
  · rw [List.getElem_append_left hi']
    rcases Nat.lt_or_ge j rows.length with hj' | hj'
    · rw [List.getElem_append_left hj']; exact h i j hi' hj' hne
    · rw [List.getElem_append_right hj']
      simp only [List.getElem_singleton]
      refine ⟨?_, ?_⟩
      · unfold OwnApart; rw [h1]; exact none_or _
      · unfold OwnApart; rw [h2]; exact none_or _
  · rw [List.getElem_append_right hi']
    simp only [List.getElem_singleton]
    exact ⟨.inl h1, .inl h2⟩
theorem apart_set {rows : List EnR} {r : EnR} {i : Nat} (h : RowsApart rows) (hi : i < rows.length) (h1 : ∀ j (hj : j < rows.length), j ≠ i → (OwnApart r.g rows[j].g ∧ OwnApart rows[j].g r.g) ∧ OwnApart r.a rows[j].a ∧ OwnApart rows[j].a r.a) : RowsApart (rows.set i r) := by
  intro p q hp0 hq0 hne
  have hp : p < rows.length := by rwa [List.length_set] at hp0
  have hq : q < rows.length := by rwa [List.length_set] at hq0
  by_cases hpi : p = i
  · subst hpi
    rw [List.getElem_set_self, List.getElem_set_ne (by omega)]
    exact ⟨(h1 q hq (by omega)).1.1, (h1 q hq (by omega)).2.1⟩
  · rw [List.getElem_set_ne (fun e => hpi e.symm)]
    by_cases hqi : q = i
    · subst hqi
      rw [List.getElem_set_self]
      exact ⟨(h1 p hp hpi).1.2, (h1 p hp hpi).2.2⟩
    · rw [List.getElem_set_ne (fun e => hqi e.symm)]
      exact h p q hp hq hne
/-- An entry is put behind. -/
theorem OwnBld.push {B G : Nat} {w w1 : World} {tick : Int} {ev ev' : Value} {rows : List EnR} {r : EnR} (h : OwnBld B w G tick ev rows) (h1 : w1.ownsRow B 39 7 ev' (rows.length + 1) (flatCs enCs rows ++ enCs r)) (hg : w.grownBy w1 ev.ownBlock)
    (hr : r.g = .slice none 0 0 ∧ r.a = .slice none 0 0 ∧ r.y.grades = [] ∧ r.y.appeals = []) : OwnBld B (w1.setCell ⟨G, 1, none⟩ ev') G tick ev' (rows ++ [r]) := by
  have hblk : Blk w1 G 76 #[.int .i64 tick, ev] := h.blk.grown hg (fun e => own_blk_ne h.own.ents h.blk (by decide) e.symm)
  have ne : ∀ {T : TypeId} {k n : Nat} {v : Value} {xs : List Value}, w1.ownsRow B T k v n xs → T ≠ 76 → v.ownBlock ≠ some (⟨G, 1, none⟩ : Addr).block := fun h1 hT => own_blk_ne h1 hblk hT
  have hold : ∀ s ∈ rows, RowOwn B w1 s := fun s hs => (h.own.each s hs).kept hg (own_own_ne (h.own.each s hs).1 h.own.ents (by decide)) (own_own_ne (h.own.each s hs).2 h.own.ents (by decide))
  have hall : ∀ s ∈ rows ++ [r], RowOwn B w1 s := by
    intro s hs
    rcases List.mem_append.1 hs with hs | hs
    · exact hold s hs
    · rw [List.mem_singleton.1 hs]
      unfold RowOwn
      rw [hr.1, hr.2.1, hr.2.2.1, hr.2.2.2]
      exact ⟨World.ownsRow_nil _ _ _ _, World.ownsRow_nil _ _ _ _⟩
  refine ⟨hblk.set_ 1 _, h.le, ?_, fun s hs => (hall s hs).set_ (ne (hall s hs).1 (by decide)) (ne (hall s hs).2 (by decide)) _, h.own.apart.push (by rw [hr.1]; rfl) (by rw [hr.2.1]; rfl)⟩
  rw [flatCs_append, flatCs_one, List.length_append]
  exact ownsRow_setCell_other h1 (ne h1 (by decide)) _
theorem OwnEnts.far {B : Nat} {w : World} {ev : Value} {rows : List EnR} (_ : OwnEnts B w ev rows) {v v' : Value} (hv : v.ownBlock = v'.ownBlock ∨ ∃ q, v.ownBlock = some q ∧ w.heap.size ≤ q) {u : Value} (hu : ∀ q, u.ownBlock = some q → q < w.heap.size) (h1 : OwnApart v' u) (h2 : OwnApart u v') : OwnApart v u ∧ OwnApart u v := by
  unfold OwnApart at *
  rcases hv with e | ⟨q, e, hq⟩
  · rw [e]; exact ⟨h1, h2⟩
  · rw [e]
    refine ⟨.inr fun e' => ?_, .inr fun e' => ?_⟩
    · have := hu q e'.symm; omega
    · have := hu q e'; omega
/-- An entry is put in another's place: a new row of grades or of appeals, its value stored at a cell of the entry. -/
theorem OwnBld.replace {B G gE c : Nat} {w w1 : World} {tick : Int} {rows : List EnR} {i j : Nat} {r : EnR} {u : Value} {row : Option Nat} (h : OwnBld B w G tick (.slice (some ⟨gE, 0, none⟩) rows.length c) rows) (hi : i < rows.length) (hj : j < 7)
    (hcs : enCs r = (enCs rows[i]).set j u) (hg : w.grownBy w1 row) (hrow : row = rows[i].g.ownBlock ∨ row = rows[i].a.ownBlock) (hr : RowOwn B w1 r)
    (hvg : r.g.ownBlock = rows[i].g.ownBlock ∨ ∃ q, r.g.ownBlock = some q ∧ w.heap.size ≤ q) (hva : r.a.ownBlock = rows[i].a.ownBlock ∨ ∃ q, r.a.ownBlock = some q ∧ w.heap.size ≤ q) :
    OwnBld B (w1.setCell ⟨gE, i * 7 + j, none⟩ u) G tick (.slice (some ⟨gE, 0, none⟩) (rows.set i r).length c) (rows.set i r) := by
  have hri := h.own.each _ (List.getElem_mem hi)
  have hGr : some G ≠ row := by
    rcases hrow with e | e <;> rw [e]
    · exact fun e => own_blk_ne hri.1 h.blk (by decide) e.symm
    · exact fun e => own_blk_ne hri.2 h.blk (by decide) e.symm
  have hEr : some gE ≠ row := by
    rcases hrow with e | e <;> rw [e]
    · exact fun e => own_ne_some hri.1 h.own.ents (by decide) e.symm
    · exact fun e => own_ne_some hri.2 h.own.ents (by decide) e.symm
  have hblk : Blk w1 G 76 #[.int .i64 tick, .slice (some ⟨gE, 0, none⟩) rows.length c] := h.blk.grown hg hGr
  have hE1 : w1.ownsRow B 39 7 (.slice (some ⟨gE, 0, none⟩) rows.length c) rows.length (flatCs enCs rows) := h.own.ents.kept hg (.inr (by simpa [Value.ownBlock] using hEr))
  have hGE : G ≠ gE := fun e => own_blk_ne hE1 hblk (by decide) (by rw [e]; rfl)
  have hoth : ∀ q (hq : q < rows.length), q ≠ i → RowOwn B w1 rows[q] := fun q hq hne => by
    have hs := h.own.each _ (List.getElem_mem hq)
    refine hs.kept hg ?_ ?_
    · rcases hrow with e | e <;> rw [e]
      · exact (h.own.apart q i hq hi hne).1
      · exact own_own_ne hs.1 hri.2 (by decide)
    · rcases hrow with e | e <;> rw [e]
      · exact own_own_ne hs.2 hri.1 (by decide)
      · exact (h.own.apart q i hq hi hne).2
  have hall : ∀ s ∈ rows.set i r, RowOwn B w1 s := by
    intro s hs
    obtain ⟨q, hq, rfl⟩ := List.getElem_of_mem hs
    rw [List.length_set] at hq
    by_cases hqi : q = i
    · subst hqi; rw [List.getElem_set_self]; exact hr
    · rw [List.getElem_set_ne (fun e => hqi e.symm)]; exact hoth q hq hqi
  refine ⟨?_, h.le, ?_, fun s hs => (hall s hs).set_ (own_ne_some (hall s hs).1 hE1 (by decide)) (own_ne_some (hall s hs).2 hE1 (by decide)) _, ?_⟩
  · rw [List.length_set]; exact hblk.far hGE _
  · rw [List.length_set, ← flatCs_set enCs_len u j hj rows i hi r hcs]
    exact (hE1.stored (i * 7 + j) u).1
  · refine apart_set h.own.apart hi fun q hq hne => ?_
    have hs := h.own.each _ (List.getElem_mem hq)
    exact ⟨h.own.far hvg (fun k hk => (hs.1.lt k hk).2) (h.own.apart i q hi hq (fun e => hne e.symm)).1 (h.own.apart q i hq hi hne).1,
      h.own.far hva (fun k hk => (hs.2.lt k hk).2) (h.own.apart i q hi hq (fun e => hne e.symm)).2 (h.own.apart q i hq hi hne).2⟩
/-- What an entry's row of appeals holds is changed in place. -/
theorem OwnBld.inA {B G : Nat} {w w1 : World} {tick : Int} {ev : Value} {rows : List EnR} {i : Nat} {r : EnR} (h : OwnBld B w G tick ev rows) (hi : i < rows.length)
    (hcs : enCs r = enCs rows[i]) (hg : w.grownBy w1 rows[i].a.ownBlock) (hr : RowOwn B w1 r) : OwnBld B w1 G tick ev (rows.set i r) := by
  have hri := h.own.each _ (List.getElem_mem hi)
  have hgr : r.g = rows[i].g ∧ r.a = rows[i].a := by simp only [List.cons.injEq] at hcs; exact ⟨hcs.2.2.2.2.2.1, hcs.2.2.2.2.2.2.1⟩
  have hall : ∀ s ∈ rows.set i r, RowOwn B w1 s := by
    intro s hs
    obtain ⟨q, hq, rfl⟩ := List.getElem_of_mem hs
    rw [List.length_set] at hq
    by_cases hqi : q = i
    · subst hqi; rw [List.getElem_set_self]; exact hr
    · rw [List.getElem_set_ne (fun e => hqi e.symm)]
      have hs := h.own.each _ (List.getElem_mem hq)
      exact hs.kept hg (own_own_ne hs.1 hri.2 (by decide)) (h.own.apart q i hq hi hqi).2
  have hset : flatCs enCs (rows.set i r) = flatCs enCs rows := by
    rw [← flatCs_set enCs_len (.string (str r.y.key.st)) 0 (by decide) rows i hi r (by rw [hcs]; simp only [List.cons.injEq] at hcs; simp [hcs.1])]
    apply List.ext_getElem?
    intro q
    rw [List.getElem?_set]
    by_cases hq : i * 7 + 0 = q
    · subst hq
      have h1 := flatCs_get enCs_len rows i hi 0 (by simp)
      rw [if_pos rfl, h1]
      simp only [List.cons.injEq] at hcs
      have hlt : i * 7 + 0 < (flatCs enCs rows).length := by rw [flatCs_length enCs_len]; omega
      rw [if_pos hlt, hcs.1]; rfl
    · rw [if_neg hq]
  refine ⟨h.blk.grown hg (fun e => own_blk_ne hri.2 h.blk (by decide) e.symm), h.le, ?_, hall, ?_⟩
  · rw [List.length_set, hset]
    exact h.own.ents.kept hg (own_own_ne h.own.ents hri.2 (by decide))
  · refine apart_set h.own.apart hi fun q hq hne => ?_
    rw [hgr.1, hgr.2]
    exact ⟨⟨(h.own.apart i q hi hq (fun e => hne e.symm)).1, (h.own.apart q i hq hi hne).1⟩, (h.own.apart i q hi hq (fun e => hne e.symm)).2, (h.own.apart q i hq hi hne).2⟩

/-- What is kept: every block but the builder's and the rows of its book. -/
def KeepBlk (w w' : World) : Prop := ∀ g T cs, T ≠ 39 → T ≠ 42 → T ≠ 44 → T ≠ 76 → Blk w g T cs → Blk w' g T cs
structure Frm (B : Nat) (w w' : World) : Prop where
  le : B ≤ w.heap.size
  far : Below B w w'
  keep : KeepBlk w w'
theorem Frm.refl {B : Nat} {w : World} (h : B ≤ w.heap.size) : Frm B w w := ⟨h, Below.refl _ _, fun _ _ _ _ _ _ _ h => h⟩
theorem Frm.step {B : Nat} {w0 w w' : World} (h : Frm B w0 w) (h1 : Below B w w') (h2 : KeepBlk w w') : Frm B w0 w' := ⟨h.le, h.far.trans h1, fun g T cs a b c d e => h2 g T cs a b c d (h.keep g T cs a b c d e)⟩
theorem Frm.below {B : Nat} {w0 w w' : World} (h : Frm B w0 w) (hb : Below w.heap.size w w') : Frm B w0 w' :=
  h.step (hb.mono (Nat.le_trans h.le h.far.size)) fun _ _ _ _ _ _ _ e => e.below hb
theorem Frm.drew {B : Nat} {w0 w : World} (h : Frm B w0 w) : Frm B w0 w.drew := h.below (Below.refl _ _).drew
theorem Frm.drewN {B : Nat} {w0 w : World} (h : Frm B w0 w) (n : Nat) : Frm B w0 (w.drewN n) := h.below (below_of_drewN n)
theorem Frm.alloc {B : Nat} {w0 w : World} (h : Frm B w0 w) (o : Obj) : Frm B w0 (w.alloc o) := h.below ((Below.refl _ _).alloc (Nat.le_refl _) o)
theorem Frm.trans {B : Nat} {w0 w w' : World} (h : Frm B w0 w) (k : Frm B w w') : Frm B w0 w' := h.step k.far k.keep
end Go.Proofs.YtnjiomggbafkmaaGreatDoor
