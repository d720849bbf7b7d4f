/- Plain laws of the gradebook: a valid book with an applied event is valid. -/
import Derived.Test.YtnjiomggbafkmaaGreatDoorBookP
namespace Go.Proofs.YtnjiomggbafkmaaGreatDoor

/-! ### Finding entries -/
theorem entryOf_some {es : List BEn} {k : BKey} {i : Nat} {y : BEn} (h : entryOf es k = some (i, y)) : es[i]? = some y ∧ y.key = k ∧ ∀ j (hj : j < es.length), j < i → es[j].key ≠ k := by
  induction es generalizing i with
  | nil => cases h
  | cons z es ih =>
    unfold entryOf at h
    by_cases hz : z.key = k
    · rw [if_pos hz] at h
      simp only [Option.some.injEq, Prod.mk.injEq] at h
      obtain ⟨rfl, rfl⟩ := h
      exact ⟨rfl, hz, fun j _ hj => absurd hj (Nat.not_lt_zero _)⟩
    · rw [if_neg hz] at h
      cases he : entryOf es k with
      | none => rw [he] at h; cases h
      | some p =>
        rw [he] at h
        simp only [Option.map_some, Option.some.injEq, Prod.mk.injEq] at h
        obtain ⟨rfl, rfl⟩ := h
        obtain ⟨h1, h2, h3⟩ := ih he
        refine ⟨by simpa using h1, h2, fun j hj hlt => ?_⟩
        cases j with
        | zero => exact hz
        | succ j => simpa using h3 j (by simpa using hj) (by omega)
theorem entryOf_of {es : List BEn} {k : BKey} {i : Nat} (hi : i < es.length) (hk : es[i].key = k) (h : ∀ j (hj : j < es.length), j < i → es[j].key ≠ k) : entryOf es k = some (i, es[i]) := by
  induction es generalizing i with
  | nil => cases hi
  | cons z es ih =>
    unfold entryOf
    cases i with
    | zero => rw [if_pos (by simpa using hk)]; rfl
    | succ i =>
      rw [if_neg (show ¬ z.key = k from h 0 (by simp) (by omega)), ih (by simpa using hi) (by simpa using hk) fun j hj hlt => h (j + 1) (by simpa using hj) (by omega)]
      rfl
theorem entryOf_none {es : List BEn} {k : BKey} : entryOf es k = none ↔ ∀ z ∈ es, z.key ≠ k := by
  induction es with
  | nil => simp [entryOf]
  | cons z es ih =>
    unfold entryOf
    by_cases hz : z.key = k
    · rw [if_pos hz]; simp [hz]
    · rw [if_neg hz, Option.map_eq_none_iff, ih]; simp [hz]
theorem entryOf_map_key {es fs : List BEn} (h : es.map BEn.key = fs.map BEn.key) (k : BKey) : (entryOf es k).map (·.1) = (entryOf fs k).map (·.1) := by
  induction es generalizing fs with
  | nil => cases fs with
    | nil => rfl
    | cons z fs => cases h
  | cons y es ih =>
    cases fs with
    | nil => cases h
    | cons z fs =>
      simp only [List.map_cons, List.cons.injEq] at h
      unfold entryOf
      rw [h.1]
      split
      · rfl
      · have := ih h.2
        rw [Option.map_map, Option.map_map]
        have e1 : ((fun x : Nat × BEn => x.1) ∘ fun p : Nat × BEn => (p.1 + 1, p.2)) = (fun n : Nat => n + 1) ∘ fun x => x.1 := rfl
        rw [e1, ← Option.map_map, ← Option.map_map, this]
theorem map_key_set {es : List BEn} {i : Nat} {y z : BEn} (h : es[i]? = some y) (hk : z.key = y.key) : (es.set i z).map BEn.key = es.map BEn.key := by
  rw [List.map_set, hk]
  refine List.ext_getElem? fun j => ?_
  rw [List.getElem?_set]
  split
  · rename_i e; subst e
    obtain ⟨hi, he⟩ := List.getElem?_eq_some_iff.1 h
    simp [hi, he]
  · rfl
theorem entryOf_set {es : List BEn} {k : BKey} {i : Nat} {y z : BEn} (h : entryOf es k = some (i, y)) (hk : z.key = k) : entryOf (es.set i z) k = some (i, z) := by
  obtain ⟨h1, h2, h3⟩ := entryOf_some h
  have hi : i < es.length := (List.getElem?_eq_some_iff.1 h1).1
  have := entryOf_of (es := es.set i z) (k := k) (i := i) (by simpa using hi) (by simpa using hk) fun j hj hlt => by
    rw [List.getElem_set_ne (by omega)]
    exact h3 j (by simpa using hj) hlt
  rw [this]; simp
theorem entryOf_set_ne {es : List BEn} {k : BKey} {i : Nat} {y z : BEn} (h : es[i]? = some y) (hz : z.key = y.key) (hk : y.key ≠ k) : entryOf (es.set i z) k = entryOf es k := by
  cases he : entryOf es k with
  | none =>
    rw [entryOf_none] at he ⊢
    intro w hw
    rcases List.mem_or_eq_of_mem_set hw with hw | rfl
    · exact he w hw
    · rw [hz]; exact hk
  | some p =>
    obtain ⟨j, x⟩ := p
    obtain ⟨h1, h2, h3⟩ := entryOf_some he
    have hj : j < es.length := (List.getElem?_eq_some_iff.1 h1).1
    have hij : i ≠ j := fun e => by
      subst e
      rw [h] at h1
      exact hk ((Option.some.inj h1) ▸ h2)
    have hx : es[j] = x := (List.getElem?_eq_some_iff.1 h1).2
    have := entryOf_of (es := es.set i z) (k := k) (i := j) (by simpa using hj) (by rw [List.getElem_set_ne hij, hx]; exact h2) fun q hq hlt => by
      by_cases hqi : i = q
      · subst hqi
        rw [List.getElem_set_self, hz]; exact hk
      · rw [List.getElem_set_ne hqi]
        exact h3 q (by simpa using hq) hlt
    rw [this, List.getElem_set_ne hij, hx]
theorem entryOf_append_some {es : List BEn} {k : BKey} {p : Nat × BEn} (h : entryOf es k = some p) (n : BEn) : entryOf (es ++ [n]) k = some p := by
  induction es generalizing p with
  | nil => cases h
  | cons z es ih =>
    rw [List.cons_append]
    unfold entryOf at h ⊢
    by_cases hz : z.key = k
    · rw [if_pos hz] at h ⊢; exact h
    · rw [if_neg hz] at h ⊢
      cases he : entryOf es k with
      | none => rw [he] at h; cases h
      | some q => rw [he] at h; rw [ih he]; exact h
theorem entryOf_append_ne {es : List BEn} {k : BKey} {n : BEn} (hn : n.key ≠ k) : entryOf (es ++ [n]) k = entryOf es k := by
  cases he : entryOf es k with
  | some p => exact entryOf_append_some he n
  | none =>
    rw [entryOf_none] at he ⊢
    intro w hw
    rcases List.mem_append.1 hw with hw | hw
    · exact he w hw
    · rw [List.mem_singleton.1 hw]; exact hn
theorem countE_map {es fs : List BEn} (h : es.map BEn.key = fs.map BEn.key) (k : BKey) : countE es k = countE fs k := by
  have e : ∀ l : List BEn, countE l k = (l.map BEn.key).countP fun q => decide (q.st = k.st) && decide (q.ex = k.ex) := fun l => by
    rw [List.countP_map]; rfl
  rw [e, e, h]

/-! ### What a step does -/
theorem stepEn_key {y z : BEn} {e : BEv} (h : stepEn y e = .ok z) : z.key = y.key := by
  unfold stepEn at h
  by_cases h1 : e.kind = 1
  · rw [if_pos h1] at h
    by_cases a : y.grades ≠ [] ∧ e.ver ≤ lastVer y.grades
    · rw [if_pos a] at h; cases h
    · rw [if_neg a] at h
      by_cases b : 16 ≤ y.grades.length
      · rw [if_pos b] at h; cases h
      · rw [if_neg b] at h; injection h with h; rw [← h]
  · rw [if_neg h1] at h
    by_cases h2 : e.kind = 2
    · rw [if_pos h2] at h
      by_cases a : y.grades = [] ∨ y.isOpen = true
      · rw [if_pos a] at h; cases h
      · rw [if_neg a] at h
        by_cases b : 16 ≤ y.appeals.length
        · rw [if_pos b] at h; cases h
        · rw [if_neg b] at h; injection h with h; rw [← h]
    · rw [if_neg h2] at h
      by_cases a : y.isOpen = false
      · rw [if_pos a] at h; cases h
      · rw [if_neg a] at h; injection h with h; rw [← h]

theorem stepEn_grade {y z : BEn} {e : BEv} (hk : e.kind = 1) : stepEn y e = .ok z ↔ (y.grades = [] ∨ lastVer y.grades < e.ver) ∧ y.grades.length < 16 ∧ z = { y with grades := y.grades ++ [⟨e.ver, e.hun, e.tick, e.text⟩] } := by
  unfold stepEn
  rw [if_pos hk]
  by_cases a : y.grades ≠ [] ∧ e.ver ≤ lastVer y.grades
  · rw [if_pos a]
    constructor
    · intro h; cases h
    · rintro ⟨h | h, _⟩
      · exact absurd h a.1
      · omega
  · rw [if_neg a]
    have a' : y.grades = [] ∨ lastVer y.grades < e.ver := by
      by_cases h0 : y.grades = []
      · exact .inl h0
      · exact .inr (by have : ¬ (e.ver ≤ lastVer y.grades) := fun h => a ⟨h0, h⟩
                       omega)
    by_cases b : 16 ≤ y.grades.length
    · rw [if_pos b]
      constructor
      · intro h; cases h
      · rintro ⟨_, h, _⟩; omega
    · rw [if_neg b]
      constructor
      · intro h; injection h with h; exact ⟨a', by omega, h.symm⟩
      · rintro ⟨_, _, h⟩; rw [h]
theorem stepEn_appeal {y z : BEn} {e : BEv} (hk : e.kind = 2) : stepEn y e = .ok z ↔ y.grades ≠ [] ∧ y.isOpen = false ∧ y.appeals.length < 16 ∧ z = { y with appeals := y.appeals ++ [⟨e.tick, e.text, false, false, 0, []⟩] } := by
  unfold stepEn
  rw [if_neg (by omega), if_pos hk]
  by_cases a : y.grades = [] ∨ y.isOpen = true
  · rw [if_pos a]
    constructor
    · intro h; cases h
    · rintro ⟨h1, h2, _⟩
      rcases a with a | a
      · exact absurd a h1
      · rw [a] at h2; cases h2
  · rw [if_neg a]
    have a' : y.grades ≠ [] ∧ y.isOpen = false := ⟨fun h => a (.inl h), by cases h : y.isOpen with
      | false => rfl
      | true => exact absurd (.inr h) a⟩
    by_cases b : 16 ≤ y.appeals.length
    · rw [if_pos b]
      constructor
      · intro h; cases h
      · rintro ⟨_, _, h, _⟩; omega
    · rw [if_neg b]
      constructor
      · intro h; injection h with h; exact ⟨a'.1, a'.2, by omega, h.symm⟩
      · rintro ⟨_, _, _, h⟩; rw [h]
theorem stepEn_decide {y z : BEn} {e : BEv} (hk : e.kind = 3) : stepEn y e = .ok z ↔ ∃ q a, y.appeals = q ++ [a] ∧ a.dec = false ∧ z = { y with appeals := q ++ [{ a with dec := true, acc := e.acc, att := e.tick, ans := e.text }] } := by
  unfold stepEn
  rw [if_neg (by omega), if_neg (by omega)]
  by_cases a : y.isOpen = false
  · rw [if_pos a]
    constructor
    · intro h; cases h
    · rintro ⟨q, x, h1, h2, _⟩
      unfold BEn.isOpen at a
      rw [h1] at a
      simp [h2] at a
  · rw [if_neg a]
    unfold BEn.isOpen at a
    have hl : ∀ q x, y.appeals = q ++ [x] → y.appeals.getLast? = some x ∧ y.appeals.dropLast = q := fun q x h => by rw [h]; simp
    constructor
    · intro h
      injection h with h
      cases hg : y.appeals.getLast? with
      | none => rw [hg] at a; simp at a
      | some x =>
        rw [hg] at a
        obtain ⟨q, hq⟩ := List.getLast?_eq_some_iff.1 hg
        refine ⟨q, x, hq, by simpa using a, ?_⟩
        rw [← h, hg, (hl q x hq).2]
    · rintro ⟨q, x, h1, h2, h3⟩
      rw [(hl q x h1).1, (hl q x h1).2, h3]

theorem kind_cases {e : BEv} (h : evB e = true) : e.kind = 0 ∨ e.kind = 1 ∨ e.kind = 2 ∨ e.kind = 3 := by
  simp only [evB, Bool.and_eq_true, decide_eq_true_eq] at h
  omega

/-- What must be of an event and one that stands behind it in the book's own order. -/
def Apart (x y : BEv) : Prop := x.kind ≠ 0 ∧ (y.key ≠ x.key ∨ (x.kind = 1 ∧ (y.kind = 2 ∨ y.kind = 3)))

theorem evs_key {y : BEn} {e : BEv} (h : e ∈ y.evs) : e.key = y.key := by
  unfold BEn.evs at h
  rcases List.mem_cons.1 h with rfl | h
  · rfl
  · rcases List.mem_append.1 h with h | h
    · obtain ⟨g, _, rfl⟩ := List.mem_map.1 h; rfl
    · obtain ⟨a, _, h⟩ := List.mem_flatMap.1 h
      unfold BAp.evs at h
      rcases List.mem_cons.1 h with rfl | h
      · rfl
      · split at h
        · rw [List.mem_singleton.1 h]
        · cases h

theorem ev_grade {e : BEv} (h : evB e = true) (hk : e.kind = 1) : e = BGr.ev e.key ⟨e.ver, e.hun, e.tick, e.text⟩ := by
  simp only [evB, if_pos hk, Bool.and_eq_true, decide_eq_true_eq, Bool.not_eq_true'] at h
  obtain ⟨kind, key, tick, ver, hun, text, acc⟩ := e
  simp only at h hk
  simp only [BGr.ev, hk, h.2.2]
theorem ev_other {e : BEv} (h : evB e = true) (hk : e.kind ≠ 1) : e.ver = 0 ∧ e.hun = 0 ∧ (e.acc = true → e.kind = 3) := by
  simp only [evB, if_neg hk, Bool.and_eq_true, decide_eq_true_eq, Bool.or_eq_true, Bool.not_eq_true'] at h
  refine ⟨h.2.1.1, h.2.1.2, fun ha => ?_⟩
  rcases h.2.2 with h' | h'
  · rw [ha] at h'; cases h'
  · exact h'

theorem stepEn_evs {y z : BEn} {x : BEv} (hx : evB x = true) (h0 : x.kind ≠ 0) (hk : y.key = x.key) (h : stepEn y x = .ok z) :
    ∃ A B, y.evs = A ++ B ∧ z.evs = A ++ x :: B ∧ ∀ w ∈ B, x.kind = 1 ∧ (w.kind = 2 ∨ w.kind = 3) := by
  rcases kind_cases hx with h1 | h1 | h1 | h1
  · exact absurd h1 h0
  · obtain ⟨_, _, rfl⟩ := (stepEn_grade h1).1 h
    refine ⟨⟨0, y.key, y.tick, 0, 0, y.text, false⟩ :: y.grades.map (BGr.ev y.key), y.appeals.flatMap (BAp.evs y.key), rfl, ?_, ?_⟩
    · have e := ev_grade hx h1
      simp only [BEn.evs, List.map_append, List.map_cons, List.map_nil, List.cons_append, List.append_assoc, List.nil_append]
      rw [hk, ← e]
    · intro w hw
      obtain ⟨a, _, hw⟩ := List.mem_flatMap.1 hw
      unfold BAp.evs at hw
      rcases List.mem_cons.1 hw with rfl | hw
      · exact ⟨h1, .inl rfl⟩
      · split at hw
        · rw [List.mem_singleton.1 hw]; exact ⟨h1, .inr rfl⟩
        · cases hw
  · obtain ⟨_, _, _, rfl⟩ := (stepEn_appeal h1).1 h
    obtain ⟨v0, u0, ac⟩ := ev_other hx (by omega)
    refine ⟨y.evs, [], (List.append_nil _).symm, ?_, by simp⟩
    have e : x = ⟨2, y.key, x.tick, 0, 0, x.text, false⟩ := by
      have ha : x.acc = false := by cases hb : x.acc with
        | false => rfl
        | true => have := ac hb; omega
      obtain ⟨kind, key, tick, ver, hun, text, acc⟩ := x
      simp only at *
      simp only [BEv.mk.injEq]
      exact ⟨h1, hk.symm, trivial, v0, u0, trivial, ha⟩
    simp only [BEn.evs, List.flatMap_append, List.cons_append, List.append_assoc, List.flatMap_cons, List.flatMap_nil, List.append_nil, BAp.evs]
    rw [← e]
    rfl
  · obtain ⟨q, a, ha, hd, rfl⟩ := (stepEn_decide h1).1 h
    obtain ⟨v0, u0, _⟩ := ev_other hx (by omega)
    refine ⟨y.evs, [], (List.append_nil _).symm, ?_, by simp⟩
    have e : x = ⟨3, y.key, x.tick, 0, 0, x.text, x.acc⟩ := by
      obtain ⟨kind, key, tick, ver, hun, text, acc⟩ := x
      simp only at *
      simp only [BEv.mk.injEq]
      exact ⟨h1, hk.symm, trivial, v0, u0, trivial, trivial⟩
    simp only [BEn.evs, ha, List.flatMap_append, List.cons_append, List.append_assoc, List.flatMap_cons, List.flatMap_nil, List.append_nil, BAp.evs, hd]
    rw [← e]
    rfl

end Go.Proofs.YtnjiomggbafkmaaGreatDoor
