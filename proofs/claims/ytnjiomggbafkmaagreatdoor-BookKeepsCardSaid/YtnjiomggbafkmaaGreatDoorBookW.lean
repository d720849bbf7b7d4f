/- Plain laws of the gradebook: events that can change places; a valid book with an applied event is valid. -/
import Derived.Test.YtnjiomggbafkmaaGreatDoorBookV
namespace Go.Proofs.YtnjiomggbafkmaaGreatDoor

theorem applyE_submit {b c : Bk} {e : BEv} (hk : e.kind = 0) : applyE b e = .ok c ↔ hasE b.entries e = false ∧ b.tick ≤ e.tick ∧ e.key.att = (countE b.entries e.key : Int) + 1 ∧ b.entries.length < 256 ∧ c = ⟨e.tick, b.entries ++ [⟨e.key, e.tick, e.text, [], []⟩]⟩ := by
  unfold applyE
  by_cases h1 : hasE b.entries e = true
  · rw [if_pos h1]
    constructor
    · intro h; cases h
    · rintro ⟨h, _⟩; rw [h1] at h; cases h
  · rw [if_neg h1]
    by_cases h2 : e.tick < b.tick
    · rw [if_pos h2]
      constructor
      · intro h; cases h
      · rintro ⟨_, h, _⟩; omega
    · rw [if_neg h2, if_pos hk]
      by_cases h3 : e.key.att = (countE b.entries e.key : Int) + 1
      · rw [if_neg (fun h => h h3)]
        by_cases h4 : 256 ≤ b.entries.length
        · rw [if_pos h4]
          constructor
          · intro h; cases h
          · rintro ⟨_, _, _, h, _⟩; omega
        · rw [if_neg h4]
          constructor
          · intro h; injection h with h; exact ⟨by simpa using h1, by omega, h3, by omega, h.symm⟩
          · rintro ⟨_, _, _, _, h⟩; rw [h]
      · rw [if_pos h3]
        constructor
        · intro h; cases h
        · rintro ⟨_, _, h, _⟩; exact absurd h h3
theorem applyE_other {b c : Bk} {e : BEv} (hk : e.kind ≠ 0) : applyE b e = .ok c ↔ hasE b.entries e = false ∧ b.tick ≤ e.tick ∧ ∃ i y z, entryOf b.entries e.key = some (i, y) ∧ stepEn y e = .ok z ∧ c = ⟨e.tick, b.entries.set i z⟩ := by
  unfold applyE
  by_cases h1 : hasE b.entries e = true
  · rw [if_pos h1]
    constructor
    · intro h; cases h
    · rintro ⟨h, _⟩; rw [h1] at h; cases h
  · rw [if_neg h1]
    by_cases h2 : e.tick < b.tick
    · rw [if_pos h2]
      constructor
      · intro h; cases h
      · rintro ⟨_, h, _⟩; omega
    · rw [if_neg h2, if_neg hk]
      cases h3 : entryOf b.entries e.key with
      | none =>
        constructor
        · intro h; cases h
        · rintro ⟨_, _, i, y, z, h, _⟩; cases h
      | some p =>
        obtain ⟨i, y⟩ := p
        simp only
        cases h4 : stepEn y e with
        | error c =>
          constructor
          · intro h; cases h
          · rintro ⟨_, _, i', y', z, h, h5, _⟩
            simp only [Option.some.injEq, Prod.mk.injEq] at h
            obtain ⟨rfl, rfl⟩ := h
            rw [h4] at h5; cases h5
        | ok z =>
          constructor
          · intro h
            injection h with h
            exact ⟨by simpa using h1, by omega, i, y, z, rfl, h4, h.symm⟩
          · rintro ⟨_, _, i', y', z', h, h5, h6⟩
            simp only [Option.some.injEq, Prod.mk.injEq] at h
            obtain ⟨rfl, rfl⟩ := h
            rw [h4] at h5
            injection h5 with h5
            rw [h6, h5]

theorem hasE_congr {es fs : List BEn} {e : BEv} (h : entryOf es e.key = entryOf fs e.key) : hasE es e = hasE fs e := by unfold hasE; rw [h]
theorem hasE_of {es : List BEn} {e : BEv} {i : Nat} {y : BEn} (h : entryOf es e.key = some (i, y)) : hasE es e = decide (e ∈ y.evs) := by unfold hasE; rw [h]

theorem mem_evs_grade {x : BEv} {y : BEn} (h : x.kind = 1) : x ∈ y.evs ↔ x ∈ y.grades.map (BGr.ev y.key) := by
  unfold BEn.evs
  rw [List.mem_cons, List.mem_append]
  constructor
  · rintro (rfl | h1 | h1)
    · cases h
    · exact h1
    · obtain ⟨a, _, h1⟩ := List.mem_flatMap.1 h1
      unfold BAp.evs at h1
      rcases List.mem_cons.1 h1 with rfl | h1
      · simp at h
      · split at h1
        · rw [List.mem_singleton.1 h1] at h; simp at h
        · cases h1
  · exact fun h1 => .inr (.inl h1)
theorem mem_evs_appeal {x : BEv} {y : BEn} (h : x.kind = 2 ∨ x.kind = 3) : x ∈ y.evs ↔ x ∈ y.appeals.flatMap (BAp.evs y.key) := by
  unfold BEn.evs
  rw [List.mem_cons, List.mem_append]
  constructor
  · rintro (rfl | h1 | h1)
    · simp at h
    · obtain ⟨g, _, rfl⟩ := List.mem_map.1 h1
      simp [BGr.ev] at h
    · exact h1
  · exact fun h1 => .inr (.inr h1)

/-- Two events of one tick change places. -/
theorem swapE {m m1 m2 : Bk} {x y : BEv} (_ : evB y = true) (ht : y.tick = x.tick) (hA : Apart x y) (h1 : applyE m y = .ok m1) (h2 : applyE m1 x = .ok m2) : ∃ m', applyE m x = .ok m' ∧ applyE m' y = .ok m2 := by
  obtain ⟨hx0, hxt, i, q, z, he, hs, rfl⟩ := (applyE_other hA.1).1 h2
  obtain ⟨hq1, hq2, _⟩ := entryOf_some he
  have hzk : z.key = q.key := stepEn_key hs
  by_cases hne : y.key = x.key
  · have hk : x.kind = 1 ∧ (y.kind = 2 ∨ y.kind = 3) := by
      rcases hA.2 with h | h
      · exact absurd hne h
      · exact h
    have hyk : y.kind ≠ 0 := by omega
    obtain ⟨hy0, hyt, j, p, w, he', hs', rfl⟩ := (applyE_other hyk).1 h1
    obtain ⟨hp1, hp2, _⟩ := entryOf_some he'
    have hwk : w.key = p.key := stepEn_key hs'
    rw [hne] at he'
    have he2 := entryOf_set (z := w) he' (by rw [hwk, hp2, hne])
    simp only at he
    rw [he2] at he
    simp only [Option.some.injEq, Prod.mk.injEq] at he
    obtain ⟨rfl, rfl⟩ := he
    obtain ⟨g1, g2, rfl⟩ := (stepEn_grade hk.1).1 hs
    have hgr : w.grades = p.grades := by
      rcases hk.2 with k2 | k2
      · obtain ⟨_, _, _, rfl⟩ := (stepEn_appeal k2).1 hs'; rfl
      · obtain ⟨_, _, _, _, rfl⟩ := (stepEn_decide k2).1 hs'; rfl
    have hxp : stepEn p x = .ok { p with grades := p.grades ++ [⟨x.ver, x.hun, x.tick, x.text⟩] } := (stepEn_grade hk.1).2 ⟨by rwa [hgr] at g1, by rwa [hgr] at g2, rfl⟩
    have hyz : stepEn { p with grades := p.grades ++ [⟨x.ver, x.hun, x.tick, x.text⟩] } y = .ok { w with grades := w.grades ++ [⟨x.ver, x.hun, x.tick, x.text⟩] } := by
      rcases hk.2 with k2 | k2
      · obtain ⟨a1, a2, a3, rfl⟩ := (stepEn_appeal k2).1 hs'
        exact (stepEn_appeal k2).2 ⟨by simp, a2, a3, rfl⟩
      · obtain ⟨r, a, a1, a2, rfl⟩ := (stepEn_decide k2).1 hs'
        exact (stepEn_decide k2).2 ⟨r, a, a1, a2, rfl⟩
    refine ⟨⟨x.tick, m.entries.set j { p with grades := p.grades ++ [⟨x.ver, x.hun, x.tick, x.text⟩] }⟩, (applyE_other hA.1).2 ⟨?_, by omega, j, p, _, he', hxp, rfl⟩, (applyE_other hyk).2 ⟨?_, by simp only; omega, j, _, _, entryOf_set (by rw [hne]; exact he') hp2, hyz, ?_⟩⟩
    · rw [hasE_of he2] at hx0
      rw [hasE_of he']
      rw [decide_eq_false_iff_not] at hx0 ⊢
      rw [mem_evs_grade hk.1] at hx0 ⊢
      rwa [hgr, hwk] at hx0
    · rw [hasE_of (y := p) (i := j) (by rw [hne]; exact he')] at hy0
      have hq := entryOf_set (z := { p with grades := p.grades ++ [⟨x.ver, x.hun, x.tick, x.text⟩] }) (show entryOf m.entries y.key = some (j, p) by rw [hne]; exact he') hp2
      simp only
      rw [hasE_of hq]
      rw [decide_eq_false_iff_not] at hy0 ⊢
      rwa [mem_evs_appeal hk.2] at hy0 ⊢
    · simp only [List.set_set, ht]
  · by_cases hyk : y.kind = 0
    · obtain ⟨hy0, hyt, hatt, hlen, rfl⟩ := (applyE_submit hyk).1 h1
      simp only at he hxt
      have hen : entryOf (m.entries ++ [⟨y.key, y.tick, y.text, [], []⟩]) x.key = entryOf m.entries x.key := entryOf_append_ne hne
      have he' := he
      rw [hen] at he'
      obtain ⟨hq1', _, _⟩ := entryOf_some he'
      have hi : i < m.entries.length := (List.getElem?_eq_some_iff.1 hq1').1
      refine ⟨⟨x.tick, m.entries.set i z⟩, (applyE_other hA.1).2 ⟨?_, by omega, i, q, z, he', hs, rfl⟩, (applyE_submit hyk).2 ⟨?_, by simp only; omega, ?_, by simpa using hlen, ?_⟩⟩
      · rw [← hasE_congr hen]; exact hx0
      · rw [hasE_congr (entryOf_set_ne hq1' hzk (by rw [hq2]; exact fun h => hne h.symm))]; exact hy0
      · rw [countE_map (map_key_set hq1' hzk)]; exact hatt
      · simp only [ht]
        rw [List.set_append_left _ _ hi]
    · obtain ⟨hy0, hyt, j, p, w, he', hs', rfl⟩ := (applyE_other hyk).1 h1
      obtain ⟨hp1, hp2, _⟩ := entryOf_some he'
      have hwk : w.key = p.key := stepEn_key hs'
      simp only at he hxt
      have hen : entryOf (m.entries.set j w) x.key = entryOf m.entries x.key := entryOf_set_ne hp1 hwk (by rw [hp2]; exact hne)
      have he2 := he
      rw [hen] at he2
      obtain ⟨hq1', _, _⟩ := entryOf_some he2
      have hen2 : entryOf (m.entries.set i z) y.key = entryOf m.entries y.key := entryOf_set_ne hq1' hzk (by rw [hq2]; exact fun h => hne h.symm)
      have hij : i ≠ j := fun e => by
        subst e
        rw [hp1] at hq1'
        have e2 := Option.some.inj hq1'
        exact hne (by rw [← hp2, e2, hq2])
      refine ⟨⟨x.tick, m.entries.set i z⟩, (applyE_other hA.1).2 ⟨?_, by omega, i, q, z, he2, hs, rfl⟩, (applyE_other hyk).2 ⟨?_, by simp only; omega, j, p, w, by rw [hen2]; exact he', hs', ?_⟩⟩
      · rw [← hasE_congr hen]; exact hx0
      · rw [hasE_congr hen2]; exact hy0
      · simp only [ht]
        rw [List.set_comm _ _ hij]

theorem replayE_append (s : Bk) (l r : List BEv) : replayE s (l ++ r) = (replayE s l).bind fun m => replayE m r := by
  induction l generalizing s with
  | nil => rfl
  | cons e l ih =>
    have hc : ∀ q, replayE s (e :: q) = if evB e = true then (match applyE s e with | .ok c => replayE c q | .error _ => none) else none := fun _ => rfl
    rw [List.cons_append, hc, hc]
    by_cases h : evB e = true
    · rw [if_pos h, if_pos h]
      cases applyE s e with
      | ok c => exact ih c
      | error c => rfl
    · rw [if_neg h, if_neg h]; rfl
theorem replayE_cons {s b : Bk} {e : BEv} {l : List BEv} (h : replayE s (e :: l) = some b) : evB e = true ∧ ∃ m, applyE s e = .ok m ∧ replayE m l = some b := by
  unfold replayE at h
  by_cases h1 : evB e = true
  · rw [if_pos h1] at h
    cases h2 : applyE s e with
    | ok c => rw [h2] at h; exact ⟨h1, c, rfl, h⟩
    | error c => rw [h2] at h; cases h
  · rw [if_neg h1] at h; cases h
theorem replayE_cons_of {s b m : Bk} {e : BEv} {l : List BEv} (h1 : evB e = true) (h2 : applyE s e = .ok m) (h3 : replayE m l = some b) : replayE s (e :: l) = some b := by
  unfold replayE; rw [if_pos h1, h2]; exact h3

theorem pushE {x : BEv} (hx : evB x = true) : ∀ (l : List BEv) (m b c : Bk), replayE m l = some b → applyE b x = .ok c → (∀ y ∈ l, y.tick = x.tick ∧ Apart x y) → replayE m (x :: l) = some c
  | [], m, b, c, h, hc, _ => by
    obtain rfl := Option.some.inj h
    exact replayE_cons_of hx hc rfl
  | y :: l, m, b, c, h, hc, hl => by
    obtain ⟨hy, m1, h1, h2⟩ := replayE_cons h
    have ih := pushE hx l m1 b c h2 hc fun z hz => hl z (List.mem_cons_of_mem _ hz)
    obtain ⟨_, m2, h3, h4⟩ := replayE_cons ih
    obtain ⟨ht, hA⟩ := hl y List.mem_cons_self
    obtain ⟨m', h5, h6⟩ := swapE hy ht hA h1 h3
    exact replayE_cons_of hx h5 (replayE_cons_of hy h6 h4)

/-! ### What holds of every book that events make -/
def cntK (p : List BKey) (k : BKey) : Nat := p.countP fun q => decide (q.st = k.st) && decide (q.ex = k.ex)
theorem countE_cntK (es : List BEn) (k : BKey) : countE es k = cntK (es.map BEn.key) k := by unfold cntK; rw [List.countP_map]; rfl
structure InvB (s : Bk) : Prop where
  keys : ∀ (p : List BKey) (k : BKey) (r : List BKey), s.entries.map BEn.key = p ++ k :: r → k.att = (cntK p k : Int) + 1
  evs : ∀ e ∈ rawEvs s.entries, evB e = true ∧ e.tick ≤ s.tick
  len : s.entries.length ≤ 256
  lens : ∀ y ∈ s.entries, y.grades.length ≤ 16 ∧ y.appeals.length ≤ 16
  tick : 0 ≤ s.tick ∧ s.tick ≤ 1099511627776
theorem InvB.empty : InvB Bk.empty := {
  keys := fun p k r h => by cases p <;> cases h
  evs := fun e h => by cases h
  len := by simp [Bk.empty]
  lens := fun y h => by cases h
  tick := by simp [Bk.empty] }

theorem InvB.apart {s : Bk} (h : InvB s) {P R : List BEn} {y : BEn} (he : s.entries = P ++ y :: R) : ∀ r ∈ R, r.key ≠ y.key := by
  intro r hr hk
  obtain ⟨R1, R2, rfl⟩ := List.append_of_mem hr
  have h1 := h.keys (P.map BEn.key) y.key ((R1 ++ r :: R2).map BEn.key) (by rw [he]; simp)
  have h2 := h.keys ((P ++ y :: R1).map BEn.key) r.key (R2.map BEn.key) (by rw [he]; simp)
  rw [hk] at h2
  have : cntK ((P ++ y :: R1).map BEn.key) y.key = cntK (P.map BEn.key) y.key + 1 + cntK (R1.map BEn.key) y.key := by
    unfold cntK
    rw [List.map_append, List.countP_append, List.map_cons, List.countP_cons_of_pos (by simp)]
    omega
  omega

theorem splitRaw {b c : Bk} {x : BEv} (hI : InvB b) (hx : evB x = true) (h : applyE b x = .ok c) :
    ∃ A B, rawEvs b.entries = A ++ B ∧ rawEvs c.entries = A ++ x :: B ∧ ∀ w ∈ B, Apart x w := by
  by_cases hk : x.kind = 0
  · obtain ⟨_, _, _, _, rfl⟩ := (applyE_submit hk).1 h
    obtain ⟨v0, u0, ac⟩ := ev_other hx (by omega)
    refine ⟨rawEvs b.entries, [], (List.append_nil _).symm, ?_, by simp⟩
    have e : x = ⟨0, x.key, x.tick, 0, 0, x.text, false⟩ := by
      have ha : x.acc = false := by cases hb : x.acc with
        | false => rfl
        | true => have := ac hb; omega
      obtain ⟨kind, key, tick, ver, hun, text, acc⟩ := x
      simp only at *
      simp only [BEv.mk.injEq]
      exact ⟨hk, trivial, trivial, v0, u0, trivial, ha⟩
    simp only [rawEvs, List.flatMap_append, List.flatMap_cons, List.flatMap_nil, List.append_nil, BEn.evs, List.map_nil]
    rw [← e]
  · obtain ⟨_, _, i, y, z, he, hs, rfl⟩ := (applyE_other hk).1 h
    obtain ⟨hy1, hy2, _⟩ := entryOf_some he
    obtain ⟨hi, hy3⟩ := List.getElem?_eq_some_iff.1 hy1
    obtain ⟨A0, B0, h1, h2, h3⟩ := stepEn_evs hx hk hy2 hs
    have hsplit : b.entries = b.entries.take i ++ y :: b.entries.drop (i + 1) := by
      rw [← hy3, ← List.drop_eq_getElem_cons hi, List.take_append_drop]
    have hset : b.entries.set i z = b.entries.take i ++ z :: b.entries.drop (i + 1) := List.set_eq_take_append_cons_drop .. |>.trans (by rw [if_pos hi])
    refine ⟨rawEvs (b.entries.take i) ++ A0, B0 ++ rawEvs (b.entries.drop (i + 1)), ?_, ?_, ?_⟩
    · conv => lhs; rw [hsplit]
      simp only [rawEvs, List.flatMap_append, List.flatMap_cons, h1, List.append_assoc]
    · simp only [hset, rawEvs, List.flatMap_append, List.flatMap_cons, h2, List.append_assoc, List.cons_append]
    · intro w hw
      refine ⟨hk, ?_⟩
      rcases List.mem_append.1 hw with hw | hw
      · exact .inr (h3 w hw)
      · obtain ⟨r, hr, hw⟩ := List.mem_flatMap.1 hw
        rw [evs_key hw]
        exact .inl (fun e => hI.apart hsplit r hr (e.trans hy2.symm))

theorem inv_apply {b c : Bk} {x : BEv} (hI : InvB b) (hx : evB x = true) (h : applyE b x = .ok c) : InvB c := by
  have hxt : 0 ≤ x.tick ∧ x.tick ≤ 1099511627776 := by simp only [evB, Bool.and_eq_true, decide_eq_true_eq] at hx; omega
  have hev : ∀ e ∈ rawEvs c.entries, evB e = true ∧ e.tick ≤ c.tick := by
    obtain ⟨A, B, h1, h2, _⟩ := splitRaw hI hx h
    have hct : c.tick = x.tick ∧ b.tick ≤ x.tick := by
      by_cases hk : x.kind = 0
      · obtain ⟨_, ht, _, _, rfl⟩ := (applyE_submit hk).1 h; exact ⟨rfl, ht⟩
      · obtain ⟨_, ht, _, _, _, _, _, rfl⟩ := (applyE_other hk).1 h; exact ⟨rfl, ht⟩
    intro e he
    rw [h2] at he
    have : e ∈ A ++ B ∨ e = x := by
      rcases List.mem_append.1 he with he | he
      · exact .inl (List.mem_append_left _ he)
      · rcases List.mem_cons.1 he with he | he
        · exact .inr he
        · exact .inl (List.mem_append_right _ he)
    rcases this with he | rfl
    · rw [← h1] at he
      obtain ⟨h3, h4⟩ := hI.evs e he
      exact ⟨h3, by omega⟩
    · exact ⟨hx, by omega⟩
  by_cases hk : x.kind = 0
  · obtain ⟨_, ht, hatt, hlen, rfl⟩ := (applyE_submit hk).1 h
    refine ⟨fun p k r e => ?_, hev, by simp; omega, ?_, hxt⟩
    · rw [List.map_append, List.map_cons, List.map_nil] at e
      rcases List.eq_nil_or_concat r with rfl | ⟨r', l, rfl⟩
      · obtain ⟨e1, e2⟩ := List.append_inj' e rfl
        simp only [List.cons.injEq, and_true] at e2
        rw [← e1, ← e2, ← countE_cntK]
        exact hatt
      · rw [List.concat_eq_append, ← List.cons_append, ← List.append_assoc] at e
        obtain ⟨e1, e2⟩ := List.append_inj' e rfl
        exact hI.keys p k r' e1
    · intro y hy
      rcases List.mem_append.1 hy with hy | hy
      · exact hI.lens y hy
      · rw [List.mem_singleton.1 hy]; simp
  · obtain ⟨_, ht, i, y, z, he, hs, rfl⟩ := (applyE_other hk).1 h
    obtain ⟨hy1, hy2, _⟩ := entryOf_some he
    have hym : y ∈ b.entries := List.mem_of_getElem? hy1
    refine ⟨fun p k r e => ?_, hev, by simpa using hI.len, ?_, hxt⟩
    · simp only [map_key_set hy1 (stepEn_key hs)] at e
      exact hI.keys p k r e
    · intro w hw
      rcases List.mem_or_eq_of_mem_set hw with hw | rfl
      · exact hI.lens w hw
      · have := hI.lens y hym
        rcases kind_cases hx with h1 | h1 | h1 | h1
        · exact absurd h1 hk
        · obtain ⟨_, _, rfl⟩ := (stepEn_grade h1).1 hs
          simp; omega
        · obtain ⟨_, _, _, rfl⟩ := (stepEn_appeal h1).1 hs
          simp; omega
        · obtain ⟨q, a, h2, _, rfl⟩ := (stepEn_decide h1).1 hs
          rw [h2] at this
          simp at this ⊢; omega
theorem replay_inv : ∀ (l : List BEv) {s b : Bk}, InvB s → replayE s l = some b → InvB b
  | [], s, b, hI, h => (Option.some.inj h) ▸ hI
  | e :: l, s, b, hI, h => by
    obtain ⟨h1, m, h2, h3⟩ := replayE_cons h
    exact replay_inv l (inv_apply hI h1 h2) h3
theorem valid_inv {b : Bk} (h : validB b = true) : InvB b := by
  unfold validB at h
  simp only [Bool.and_eq_true, decide_eq_true_eq] at h
  exact replay_inv _ InvB.empty h.2
theorem valid_len {b : Bk} (h : validB b = true) : b.entries.length ≤ 256 := (valid_inv h).len
theorem valid_replay {b : Bk} (h : validB b = true) : replayE Bk.empty (evsOf b.entries) = some b := by
  unfold validB at h
  simp only [Bool.and_eq_true, decide_eq_true_eq] at h
  exact h.2
theorem valid_empty : validB Bk.empty = true := by
  unfold validB Bk.empty evsOf rawEvs sortBy
  simp [replayE]

/-- The events of a book with one more event. -/
theorem evsOf_apply {b c : Bk} {x : BEv} (hI : InvB b) (hx : evB x = true) (h : applyE b x = .ok c) :
    ∃ P Q, evsOf b.entries = P ++ Q ∧ evsOf c.entries = P ++ x :: Q ∧ ∀ y ∈ Q, y.tick = x.tick ∧ Apart x y := by
  obtain ⟨A, B, h1, h2, h3⟩ := splitRaw hI hx h
  have hct : b.tick ≤ x.tick := by
    by_cases hk : x.kind = 0
    · exact ((applyE_submit hk).1 h).2.1
    · exact ((applyE_other hk).1 h).2.1
  have hle : ∀ e ∈ evsOf b.entries, e.tick ≤ x.tick := fun e he => by
    have := (hI.evs e (mem_sortBy.1 he)).2
    omega
  obtain ⟨hs1, hs2⟩ := sortBy_stable BEv.tick (rawEvs b.entries)
  change (evsOf b.entries).Pairwise _ at hs1
  change ∀ t, (evsOf b.entries).filter _ = _ at hs2
  generalize hS : evsOf b.entries = S at *
  have hSsplit : S = S.filter (fun e => decide (e.tick < x.tick)) ++ (A.filter (fun e => e.tick == x.tick) ++ B.filter (fun e => e.tick == x.tick)) := by
    rw [← List.filter_append, ← h1, ← hs2 x.tick]
    refine stable_unique BEv.tick hs1 ?_ fun t => ?_
    · rw [List.pairwise_append]
      refine ⟨hs1.filter _, hs1.filter _, fun a ha c hc => ?_⟩
      rw [List.mem_filter] at ha hc
      have := ha.2; have := hc.2
      simp at *
      omega
    · rw [List.filter_append, List.filter_filter, List.filter_filter]
      by_cases ht : t = x.tick
      · subst ht
        have e1 : S.filter (fun e => (e.tick == x.tick) && decide (e.tick < x.tick)) = [] := by
          rw [List.filter_eq_nil_iff]; intro a _; simp; omega
        rw [e1, List.nil_append]
        simp only [Bool.and_self]
      · have e1 : S.filter (fun e => (e.tick == t) && (e.tick == x.tick)) = [] := by
          rw [List.filter_eq_nil_iff]; intro a _; simp; omega
        rw [e1, List.append_nil]
        refine List.filter_congr fun a ha => ?_
        have := hle a ha
        by_cases hat : a.tick = t
        · simp [hat]; omega
        · simp [hat]
  refine ⟨S.filter (fun e => decide (e.tick < x.tick)) ++ A.filter (fun e => e.tick == x.tick), B.filter (fun e => e.tick == x.tick), by rw [List.append_assoc]; exact hSsplit, ?_, fun y hy => ?_⟩
  · refine (StableBy.eq ⟨?_, fun t => ?_⟩).symm
    · rw [List.append_assoc, List.pairwise_append]
      refine ⟨hs1.filter _, ?_, fun a ha c hc => ?_⟩
      · refine List.pairwise_of_forall_mem_list fun a ha c hc => ?_
        have ha' : a.tick = x.tick := by
          rcases List.mem_append.1 ha with h | h
          · simpa using (List.mem_filter.1 h).2
          · rcases List.mem_cons.1 h with h | h
            · rw [h]
            · simpa using (List.mem_filter.1 h).2
        have hc' : c.tick = x.tick := by
          rcases List.mem_append.1 hc with h | h
          · simpa using (List.mem_filter.1 h).2
          · rcases List.mem_cons.1 h with h | h
            · rw [h]
            · simpa using (List.mem_filter.1 h).2
        omega
      · have ha' : a.tick < x.tick := by simpa using (List.mem_filter.1 ha).2
        have hc' : c.tick = x.tick := by
          rcases List.mem_append.1 hc with h | h
          · simpa using (List.mem_filter.1 h).2
          · rcases List.mem_cons.1 h with h | h
            · rw [h]
            · simpa using (List.mem_filter.1 h).2
        omega
    · rw [h2]
      by_cases ht : t = x.tick
      · subst ht
        rw [List.filter_append, List.filter_append, List.filter_filter, List.filter_append]
        have e1 : S.filter (fun e => (e.tick == x.tick) && decide (e.tick < x.tick)) = [] := by
          rw [List.filter_eq_nil_iff]; intro a _; simp; omega
        rw [e1, List.nil_append, List.filter_filter, List.filter_cons_of_pos (by simp), List.filter_cons_of_pos (by simp), List.filter_filter]
        simp only [Bool.and_self]
      · rw [List.filter_append, List.filter_append, List.filter_filter, List.filter_append, List.filter_filter, List.filter_cons_of_neg (by simp; omega), List.filter_cons_of_neg (by simp; omega), List.filter_filter]
        have e1 : ∀ l : List BEv, l.filter (fun e => (e.tick == t) && (e.tick == x.tick)) = [] := fun l => by
          rw [List.filter_eq_nil_iff]; intro a _; simp; omega
        rw [e1, e1, List.append_nil, List.append_nil, ← List.filter_append, ← h1, ← hs2 t]
        refine List.filter_congr fun a ha => ?_
        have := hle a ha
        by_cases hat : a.tick = t
        · simp [hat]; omega
        · simp [hat]
  · obtain ⟨hy1, hy2⟩ := List.mem_filter.1 hy
    exact ⟨by simpa using hy2, h3 y hy1⟩

theorem valid_apply {b c : Bk} {x : BEv} (hb : validB b = true) (hx : evB x = true) (h : applyE b x = .ok c) : validB c = true := by
  have hI := valid_inv hb
  have hr := valid_replay hb
  obtain ⟨P, Q, h1, h2, h3⟩ := evsOf_apply hI hx h
  unfold validB
  simp only [Bool.and_eq_true, decide_eq_true_eq]
  refine ⟨(inv_apply hI hx h).len, ?_⟩
  rw [h1, replayE_append] at hr
  rw [h2, replayE_append]
  cases hp : replayE Bk.empty P with
  | none => rw [hp] at hr; cases hr
  | some m =>
    rw [hp] at hr
    exact pushE hx Q m b c hr h h3

end Go.Proofs.YtnjiomggbafkmaaGreatDoor
