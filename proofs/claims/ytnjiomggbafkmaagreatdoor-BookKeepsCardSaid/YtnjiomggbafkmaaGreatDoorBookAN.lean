/- BookKeeps. -/
import Derived.Test.YtnjiomggbafkmaaGreatDoorBookAK
namespace Go.Proofs.YtnjiomggbafkmaaGreatDoor
open Go.RowKit Go.Lib

/-- Strings of a length that the reference allows. -/
theorem few_lens {es : List BEv} {n : Int} (h : fewEv es n = true) : (es.length : Int) ≤ n ∧ ∀ x ∈ es, x.key.st.length ≤ 40 ∧ x.key.ex.length ≤ 40 ∧ x.text.length ≤ 60 := by
  unfold fewEv at h
  simp only [Bool.and_eq_true, decide_eq_true_eq, List.all_eq_true] at h
  refine ⟨h.2, fun x hx => ?_⟩
  have := h.1 x hx
  unfold shortEv at this
  simp only [Bool.and_eq_true, decide_eq_true_eq] at this
  exact ⟨this.1.2, this.2, this.1.1⟩
/-- A slice literal of one event. -/
theorem one_event (W : World) (e : BEv) : RowsIn evCs 9 (W.alloc (.cells #[.int .i64 e.kind, .string (str e.key.st), .string (str e.key.ex), .int .i64 e.key.att, .int .i64 e.tick, .int .i64 e.ver, .int .i64 e.hun, .string (str e.text), .bool e.acc] 26)) (.slice (some ⟨W.heap.size, 0, none⟩) 1 1) [e] :=
  (RowsIn.of_own (B := W.heap.size) (T := 26) evCs_len (by decide) (by have := World.ownsRow_lit (base := W.heap.size) (e := 26) (size := 9) W #[.int .i64 e.kind, .string (str e.key.st), .string (str e.key.ex), .int .i64 e.key.att, .int .i64 e.tick, .int .i64 e.ver, .int .i64 e.hun, .string (str e.text), .bool e.acc] 1 (Nat.le_refl _) (by decide) rfl; simpa [flatCs] using this)).1

def apChg (p q : List BAp) : Nat := (p.zip q).countP fun z => decide (z.1 ≠ z.2)
theorem apChg_self (p : List BAp) : apChg p p = 0 := by
  unfold apChg
  rw [List.countP_eq_zero]
  intro z hz
  obtain ⟨i, hi, rfl⟩ := List.getElem_of_mem hz
  simp
theorem apChg_more (p q : List BAp) : apChg p (p ++ q) = 0 := by
  unfold apChg
  rw [List.countP_eq_zero]
  intro z hz
  obtain ⟨i, hi, rfl⟩ := List.getElem_of_mem hz
  have h2 : i < p.length := by rw [List.length_zip] at hi; omega
  simp [List.getElem_append_left h2]
theorem apChg_last (p : List BAp) (a a' : BAp) (h : a ≠ a') : apChg (p ++ [a]) (p ++ [a']) = 1 := by
  unfold apChg
  rw [List.zip_append rfl, List.countP_append]
  have := apChg_self p
  unfold apChg at this
  rw [this]
  simp [h]
theorem apChg_take {p q : List BAp} {k : Nat} (hp : k < p.length) (hq : k < q.length) : apChg (p.take (k + 1)) q = apChg (p.take k) q + (if p[k] = q[k] then 0 else 1) := by
  unfold apChg
  have h1 : (p.take (k + 1)).zip q = (p.take k).zip q ++ [(p[k], q[k])] := by
    rw [List.take_succ_eq_append_getElem hp]
    conv => lhs; rw [← List.take_append_drop k q]
    rw [List.zip_append (by simp; omega), List.drop_eq_getElem_cons hq]
    congr 1
    apply List.ext_getElem
    · simp; omega
    · intro i h1 h2; simp
  rw [h1, List.countP_append]
  by_cases h : p[k] = q[k]
  · simp [h]
  · simp [h]
theorem sum_zero : ∀ l : List Nat, (∀ x ∈ l, x = 0) → l.sum = 0
  | [], _ => rfl
  | x :: l, h => by rw [List.sum_cons, h x (by simp), sum_zero l fun y hy => h y (by simp [hy])]
def enDelta (p q : BEn) : Nat := (q.grades.length - p.grades.length) + (q.appeals.length - p.appeals.length) + apChg p.appeals q.appeals
def enSum (ps qs : List BEn) : Nat := ((ps.zip qs).map fun z => enDelta z.1 z.2).sum
theorem enSum_take {ps qs : List BEn} {k : Nat} (hp : k < ps.length) (hq : k < qs.length) : enSum (ps.take (k + 1)) qs = enSum (ps.take k) qs + enDelta ps[k] qs[k] := by
  unfold enSum
  have h1 : (ps.take (k + 1)).zip qs = (ps.take k).zip qs ++ [(ps[k], qs[k])] := by
    rw [List.take_succ_eq_append_getElem hp]
    conv => lhs; rw [← List.take_append_drop k qs]
    rw [List.zip_append (by simp; omega), List.drop_eq_getElem_cons hq]
    congr 1
    apply List.ext_getElem
    · simp; omega
    · intro i h1 h2; simp
  rw [h1, List.map_append, List.sum_append]
  simp
theorem zip_take' {α β : Type} (ps : List α) (qs : List β) (k : Nat) : (ps.take k).zip qs = (ps.zip qs).take k := by
  induction ps generalizing qs k with
  | nil => simp
  | cons p ps ih => cases k with
    | zero => simp
    | succ k => cases qs with
      | nil => simp
      | cons q qs => simp [ih]
theorem apChg_le (p q : List BAp) (k : Nat) : apChg (p.take k) q ≤ apChg p q := by
  unfold apChg
  rw [zip_take']
  exact (List.take_sublist _ _).countP_le
theorem sum_take_le (l : List Nat) (k : Nat) : (l.take k).sum ≤ l.sum := by
  conv => rhs; rw [← List.take_append_drop k l, List.sum_append]
  omega
theorem enSum_le (ps qs : List BEn) (k : Nat) : enSum (ps.take k) qs ≤ enSum ps qs := by
  unfold enSum
  rw [zip_take', List.map_take]
  exact sum_take_le _ _
theorem raw_en {es : List BEn} {y : BEn} (h : y ∈ es) : y.grades.length + y.appeals.length + 1 ≤ (rawEvs es).length := by
  obtain ⟨s, t, rfl⟩ := List.append_of_mem h
  have hap : y.appeals.length ≤ (y.appeals.flatMap (BAp.evs y.key)).length := by
    generalize y.appeals = l
    induction l with
    | nil => simp
    | cons x l ih => simp only [List.flatMap_cons, List.length_append, List.length_cons, BAp.evs]; omega
  simp only [rawEvs, List.flatMap_append, List.flatMap_cons, List.length_append, BEn.evs, List.length_cons, List.length_map]
  omega
structure PairOk (x : BEv) (p q : BEn) : Prop where
  key : p.key = q.key
  tick : p.tick = q.tick
  text : p.text = q.text
  gl : p.grades.length ≤ q.grades.length
  al : p.appeals.length ≤ q.appeals.length
  gr : q.grades.take p.grades.length = p.grades
  ap : ∀ k (h : k < p.appeals.length) (h' : k < q.appeals.length), p.appeals[k] = q.appeals[k] ∨ (p.appeals[k].dec = false ∧ k + 1 = p.appeals.length ∧ q.appeals[k].dec = true ∧ p.appeals[k].tick = q.appeals[k].tick ∧ p.appeals[k].text = q.appeals[k].text ∧ p.key = x.key)
theorem PairOk.refl (x : BEv) (p : BEn) : PairOk x p p := ⟨rfl, rfl, rfl, Nat.le_refl _, Nat.le_refl _, by simp, fun _ _ _ => Or.inl rfl⟩
theorem enDelta_self (p : BEn) : enDelta p p = 0 := by unfold enDelta; rw [apChg_self]; omega
theorem stepEn_pair {y y' : BEn} {x : BEv} (hk : y.key = x.key) (h : stepEn y x = .ok y') : PairOk x y y' ∧ enDelta y y' = 1 := by
  unfold stepEn at h
  split at h
  · split at h
    · cases h
    split at h
    · cases h
    injection h with h; subst h
    refine ⟨⟨rfl, rfl, rfl, by simp, Nat.le_refl _, by simp, fun _ _ _ => Or.inl rfl⟩, ?_⟩
    unfold enDelta; simp only [apChg_self, List.length_append, List.length_singleton]; omega
  split at h
  · split at h
    · cases h
    split at h
    · cases h
    injection h with h; subst h
    refine ⟨⟨rfl, rfl, rfl, Nat.le_refl _, by simp, by simp, fun k h1 h2 => Or.inl (by simp [List.getElem_append_left h1])⟩, ?_⟩
    unfold enDelta; simp only [apChg_more, List.length_append, List.length_singleton]; omega
  · split at h
    · cases h
    rename_i ho
    injection h with h; subst h
    unfold BEn.isOpen at ho
    cases hl : y.appeals.getLast? with
    | none => rw [hl] at ho; exact absurd rfl ho
    | some a =>
      rw [hl] at ho
      have hd : a.dec = false := by cases hx : a.dec with
        | false => rfl
        | true => simp [hx] at ho
      obtain ⟨pre, hs⟩ := List.getLast?_eq_some_iff.1 hl
      have hdl : y.appeals.dropLast = pre := by rw [hs]; simp
      simp only [hdl]
      refine ⟨⟨rfl, rfl, rfl, Nat.le_refl _, by rw [hs]; simp, by simp, ?_⟩, ?_⟩
      · intro k h1 h2
        simp only [hs]
        by_cases hk2 : k < pre.length
        · left; rw [List.getElem_append_left hk2, List.getElem_append_left hk2]
        · right
          have hkk : k = pre.length := by rw [hs] at h1; simp at h1; omega
          subst hkk
          simp [hd, hk]
      · unfold enDelta
        simp only [hs]
        rw [apChg_last pre a _ (by intro e; rw [e] at hd; cases hd)]
        simp
/-- What an applied event leaves of the entries. -/
theorem keeps_ok {b c : Bk} {x : BEv} (h : applyR b x = .ok c) :
    c.tick = x.tick ∧ b.entries.length ≤ c.entries.length ∧ c.entries.length ≤ b.entries.length + 1 ∧ (decide (b.entries.length < c.entries.length) = decide (x.kind = 0)) ∧
    (∀ i (h1 : i < b.entries.length) (h2 : i < c.entries.length), PairOk x b.entries[i] c.entries[i]) ∧ (c.entries.length - b.entries.length) + enSum b.entries c.entries = 1 := by
  obtain ⟨_, _, ha⟩ := applyR_ok h
  unfold applyE at ha
  split at ha
  · cases ha
  split at ha
  · cases ha
  split at ha
  · rename_i hk0
    split at ha
    · cases ha
    split at ha
    · cases ha
    injection ha with ha; subst ha
    refine ⟨rfl, by simp, by simp, by simp [hk0], fun i h1 h2 => ?_, ?_⟩
    · simp only [List.getElem_append_left h1]; exact PairOk.refl _ _
    · have : enSum b.entries (b.entries ++ [⟨x.key, x.tick, x.text, [], []⟩]) = 0 := by
        unfold enSum
        refine sum_zero _ ?_
        intro z hz
        obtain ⟨p, hp, rfl⟩ := List.mem_map.1 hz
        obtain ⟨i, hi, rfl⟩ := List.getElem_of_mem hp
        have h2 : i < b.entries.length := by rw [List.length_zip] at hi; omega
        simp [List.getElem_append_left h2, enDelta_self]
      rw [this]; simp
  · rename_i hk0
    cases hen : entryOf b.entries x.key with
    | none => rw [hen] at ha; cases ha
    | some p =>
      obtain ⟨i, y⟩ := p
      rw [hen] at ha
      simp only at ha
      split at ha
      · cases ha
      rename_i y' hst
      injection ha with ha; subst ha
      obtain ⟨g1, g2, _⟩ := entryOf_some hen
      obtain ⟨hi, hy⟩ := List.getElem?_eq_some_iff.1 g1
      obtain ⟨hp, hd⟩ := stepEn_pair g2 hst
      refine ⟨rfl, by simp, by simp, by simp [hk0], fun j h1 h2 => ?_, ?_⟩
      · simp only
        by_cases hji : i = j
        · subst hji; rw [List.getElem_set_self, hy]; exact hp
        · rw [List.getElem_set_ne hji]; exact PairOk.refl _ _
      · simp only [List.length_set]
        have hs : b.entries = b.entries.take i ++ y :: b.entries.drop (i + 1) := by rw [← hy, ← List.drop_eq_getElem_cons hi, List.take_append_drop]
        have hs2 : b.entries.set i y' = b.entries.take i ++ y' :: b.entries.drop (i + 1) := by rw [List.set_eq_take_append_cons_drop, if_pos hi]
        have hself : ∀ l : List BEn, enSum l l = 0 := by
          intro l
          unfold enSum
          refine sum_zero _ ?_
          intro z hz
          obtain ⟨p, hp, rfl⟩ := List.mem_map.1 hz
          obtain ⟨i, hi, rfl⟩ := List.getElem_of_mem hp
          simp [enDelta_self]
        have : enSum b.entries (b.entries.set i y') = 1 := by
          rw [hs2]
          conv => lhs; arg 1; rw [hs]
          unfold enSum
          rw [List.zip_append rfl, List.zip_cons_cons, List.map_append, List.map_cons, List.sum_append, List.sum_cons]
          have h3 := hself (b.entries.take i)
          have h4 := hself (b.entries.drop (i + 1))
          unfold enSum at h3 h4
          rw [h3, h4, hd]
        rw [this]; omega

/-- What the loops of BookKeeps keep. -/
structure KpS (g0 g5 g6 : Nat) (e : BEv) (b c : Bk) (va vc : Value) (w W : World) : Prop where
  ev : BoxEv g0 e W
  bb : Blk W g5 31 #[.int .i64 b.tick, va]
  bc : Blk W g6 31 #[.int .i64 c.tick, vc]
  ib : EntriesIn W va b.entries
  ic : EntriesIn W vc c.entries
  far : Below w.heap.size w W
theorem KpS.below {g0 g5 g6 : Nat} {e : BEv} {b c : Bk} {va vc : Value} {w W W' : World} (h : KpS g0 g5 g6 e b c va vc w W) (hb : Below W.heap.size W W') : KpS g0 g5 g6 e b c va vc w W' :=
  ⟨h.ev.below hb, h.bb.below hb, h.bc.below hb, h.ib.below hb, h.ic.below hb, below_seq h.far hb⟩
/-- The row of one entry. -/
theorem EntriesIn.at_ {W : World} {a : Option Addr} {n c : Nat} {es : List BEn} (h : EntriesIn W (.slice a n c) es) {k : Nat} (hk : k < es.length) :
    ∃ b off r, a = some ⟨b, off, none⟩ ∧ b < W.heap.size ∧ r.y = es[k] ∧ EnIn W r ∧ ∀ j (hj : j < 7), W.cell? ⟨b, off + k * 7 + j, none⟩ = some ((enCs r)[j]'hj) := by
  obtain ⟨rows, hr, hi, he⟩ := h
  subst hr
  have hk2 : k < rows.length := by simpa using hk
  rcases hi.split with ⟨e0, _⟩ | ⟨b, off, c', e1, e3, e2⟩
  · rw [e0] at hk2; cases hk2
  · exact ⟨b, off, rows[k], by injection e1, e3, by simp, he _ (List.getElem_mem hk2), fun j hj => e2 k hk2 j hj⟩

theorem RowsIn.take {α : Type} {f : α → List Value} {k : Nat} {W : World} {a : Option Addr} {m c : Nat} {xs : List α} (h : RowsIn f k W (.slice a m c) xs) {n : Nat} (hn : n ≤ xs.length) : RowsIn f k W (.slice a n c) (xs.take n) := by
  obtain ⟨a', c', e1, e2, e3⟩ := h
  injection e1 with e1 e4 e5
  subst e1; subst e5
  refine ⟨a, c, by rw [List.length_take, Nat.min_eq_left hn], by rw [List.length_take]; omega, fun hx => ?_⟩
  obtain ⟨b, off, h1, h2, h3⟩ := e3 (by intro e; rw [e] at hx; simp at hx)
  refine ⟨b, off, h1, h2, fun i hi j hj => ?_⟩
  have hi' : i < xs.length := by rw [List.length_take] at hi; omega
  have e6 : (xs.take n)[i] = xs[i] := List.getElem_take
  simp only [e6] at hj ⊢
  exact h3 i hi' j hj
/-- Beside it, two entries copied. -/
structure KpP (g0 g5 g6 gp gq : Nat) (e : BEv) (b c : Bk) (va vc : Value) (w : World) (r s : EnR) (W : World) : Prop where
  all : KpS g0 g5 g6 e b c va vc w W
  pb : Blk W gp 39 (enCs r).toArray
  qb : Blk W gq 39 (enCs s).toArray
  pi : EnIn W r
  qi : EnIn W s
theorem KpP.below {g0 g5 g6 gp gq : Nat} {e : BEv} {b c : Bk} {va vc : Value} {w W W' : World} {r s : EnR} (h : KpP g0 g5 g6 gp gq e b c va vc w r s W) (hb : Below W.heap.size W W') : KpP g0 g5 g6 gp gq e b c va vc w r s W' :=
  ⟨h.all.below hb, h.pb.below hb, h.qb.below hb, h.pi.below hb, h.qi.below hb⟩

set_option maxHeartbeats 4000000 in
set_option maxRecDepth 100000 in
theorem BookKeeps_walk (v : Value) (l : List BEv) (e : BEv) (w : World) (h : RowsIn evCs 9 w v l) (hn : l.length ≤ 4000000000000) (ht : Tab w) :
    Calls Tryz.prog 3 #[v, evV e] w fun z w' => z = .returned (.bool true) ∧ Below w.heap.size w w' := by
  have hb0 := (Below.refl w.heap.size w).alloc (Nat.le_refl _) (.cells #[.int .i64 e.kind, .string (str e.key.st), .string (str e.key.ex), .int .i64 e.key.att, .int .i64 e.tick, .int .i64 e.ver, .int .i64 e.hun, .string (str e.text), .bool e.acc] 26)
  have hk0 : BoxEv w.heap.size e (w.alloc (.cells #[.int .i64 e.kind, .string (str e.key.st), .string (str e.key.ex), .int .i64 e.key.att, .int .i64 e.tick, .int .i64 e.ver, .int .i64 e.hun, .string (str e.text), .bool e.acc] 26)) := Blk.new w 26 #[.int .i64 e.kind, .string (str e.key.st), .string (str e.key.ex), .int .i64 e.key.att, .int .i64 e.tick, .int .i64 e.ver, .int .i64 e.hun, .string (str e.text), .bool e.acc]
  have AW := awake55 (w.alloc (.cells #[.int .i64 e.kind, .string (str e.key.st), .string (str e.key.ex), .int .i64 e.key.att, .int .i64 e.tick, .int .i64 e.ver, .int .i64 e.hun, .string (str e.text), .bool e.acc] 26)) (ht.below hb0)
  have F1 := fun W (hW : Below w.heap.size w W) => fewEv_walk v l 24 W (h.below hW) hn
  have F2 := fun W => fewEv_walk (.slice (some ⟨World.heap W |>.size, 0, none⟩) 1 1) [e] 1 (W.alloc (.cells #[.int .i64 e.kind, .string (str e.key.st), .string (str e.key.ex), .int .i64 e.key.att, .int .i64 e.tick, .int .i64 e.ver, .int .i64 e.hun, .string (str e.text), .bool e.acc] 26)) (one_event W e) (by simp)
  obtain ⟨f1, hf1⟩ : ∃ f, f = fewEv l 24 := ⟨_, rfl⟩
  obtain ⟨f2, hf2⟩ : ∃ f, f = fewEv [e] 1 := ⟨_, rfl⟩
  rw [← hf1] at F1
  rw [← hf2] at F2
  have HB0 := Lib.hid hb0
  have HK0 := Lib.hid hk0
  have H := Lib.hid h
  obtain ⟨a, c, rfl, hlc, _⟩ := h
  clear hlc
  replace AW := Lib.hid AW
  replace F1 := Lib.hid F1
  replace F2 := Lib.hid F2
  replace hf1 := Lib.hid hf1
  replace hf2 := Lib.hid hf2
  clear hb0 hk0 ht
  go_enter Tryz.func3, Tryz.ntmps3
  go_wp2_with fail
  refine AW.out.mono ?_
  rintro z w1 ⟨rfl, hb1⟩
  have HB1 := Lib.hid (below_seq HB0.out hb1)
  have HK1 := Lib.hid (HK0.out.below hb1)
  clear hb1
  go_wp2_with fail
  refine (F1.out _ HB1.out).mono ?_
  rintro z w2 ⟨rfl, rfl⟩
  cases f1 with
  | false =>
    go_wp2_with fail
    go_ret
    exact ⟨rfl, HB1.out⟩
  | true =>
    obtain ⟨e0, e1, e2, e3, e4, e5, e6, e7, e8⟩ := HK1.out.cells
    go_wp2_with fail
    refine (F2.out _).mono ?_
    rintro z w2 ⟨rfl, hw2⟩
    have hb2 := (Below.refl w1.heap.size w1).alloc (Nat.le_refl _) (.cells #[.int .i64 e.kind, .string (str e.key.st), .string (str e.key.ex), .int .i64 e.key.att, .int .i64 e.tick, .int .i64 e.ver, .int .i64 e.hun, .string (str e.text), .bool e.acc] 26)
    rw [hw2] at hb2
    have HB2 := Lib.hid (below_seq HB1.out hb2)
    have HK2 := Lib.hid (HK1.out.below hb2)
    clear hb2 hw2 e0 e1 e2 e3 e4 e5 e6 e7 e8 HB1 HK1
    cases f2 with
    | false =>
      go_wp2_with fail
      go_ret
      exact ⟨rfl, HB2.out⟩
    | true =>
      go_wp2_with fail
      have hl1 := few_lens hf1.out.symm
      have hl2 := (few_lens hf2.out.symm).2 e (by simp)
      have MK := Make_walk (.slice a l.length c) l w2 (H.out.below HB2.out) (by omega) (fun x hx => by have := hl1.2 x hx; omega)
      refine MK.mono ?_
      rintro z w3 ⟨vb, rfl, hob, hb3⟩
      have hvb := valid_make l
      obtain ⟨b, hbd⟩ : ∃ b, b = makeB l := ⟨_, rfl⟩
      rw [← hbd] at hob hvb
      clear hbd MK
      obtain ⟨a5, c5, rfl, hin5, _⟩ := hob.ev
      obtain ⟨n5, hn5⟩ : ∃ n, n = b.entries.length := ⟨_, rfl⟩
      rw [← hn5] at hin5 ⊢
      obtain ⟨g0, hg0⟩ : ∃ g, g = w.heap.size := ⟨_, rfl⟩
      have kk3 := HK2.out.below hb3
      have HB3 := Lib.hid (below_seq HB2.out hb3)
      rw [← hg0] at kk3 ⊢
      clear hg0 hob hb3
      have hl3 := kk3.lt
      have hb4 := (Below.refl w3.heap.size w3).alloc (Nat.le_refl _) (.cells #[.int .i64 b.tick, .slice a5 n5 c5] 31)
      have AP := Apply_walk b.tick (.slice a5 n5 c5) b.entries e _ (hin5.below hb4) (strsOk_lit b hvb).1 (strsOk_lit b hvb).2 (by omega) (by omega) (by omega)
      simp only [show (⟨b.tick, b.entries⟩ : Bk) = b from rfl] at AP
      obtain ⟨R, hR⟩ : ∃ R, R = applyR b e := ⟨_, rfl⟩
      rw [← hR] at AP
      obtain ⟨κ, hκ⟩ : ∃ κ, κ = codeOf R := ⟨_, rfl⟩
      rw [← hκ] at AP
      have k5 := Blk.new w3 31 #[.int .i64 b.tick, .slice a5 n5 c5]
      obtain ⟨e0, e1, e2, e3, e4, e5, e6, e7, e8⟩ := kk3.cells
      have hne0 : ¬ (g0 = w3.heap.size) := by omega
      have KK3 := Lib.hid kk3
      have K5 := Lib.hid k5
      have HIN5 := Lib.hid hin5
      have HB4 := Lib.hid hb4
      replace AP := Lib.hid AP
      replace hR := Lib.hid hR
      replace hκ := Lib.hid hκ
      replace hvb := Lib.hid hvb
      clear kk3 k5 hin5 hb4
      replace hn5 := Lib.hid hn5
      go_wp2_with fail
      refine AP.out.mono ?_
      rintro z w4 ⟨vb2, rfl, hob2, hb5⟩
      obtain ⟨a6, c6, rfl, hin6, _⟩ := hob2.ev
      obtain ⟨b2, hb2d⟩ : ∃ b2, b2 = outOf Bk.empty R := ⟨_, rfl⟩
      rw [← hb2d] at hin6 ⊢
      obtain ⟨n6, hn6⟩ : ∃ n, n = b2.entries.length := ⟨_, rfl⟩
      rw [← hn6] at hin6 ⊢
      replace hb2d := Lib.hid hb2d
      replace hn6 := Lib.hid hn6
      obtain ⟨g5, hg5⟩ : ∃ g, g = w3.heap.size := ⟨_, rfl⟩
      have kk5 := K5.out.below hb5
      have hb45 := below_seq HB4.out hb5
      have kk0 := KK3.out.below hb45
      have HIN5' := Lib.hid (HIN5.out.below hb45)
      have HB5 := Lib.hid (below_seq HB3.out hb45)
      rw [← hg5] at kk5 ⊢
      clear hob2 hb5 hb45 hg5 e0 e1 e2 e3 e4 e5 e6 e7 e8 HB4 K5 KK3 HIN5 HB3 hl3 hne0 AP
      have hl0 := kk0.lt
      have hl5 := kk5.lt
      have f5 := kk5.cell
      have hne0 : ¬ (g0 = w4.heap.size) := by omega
      have hne5 : ¬ (g5 = w4.heap.size) := by omega
      have hb6 := (Below.refl w4.heap.size w4).alloc (Nat.le_refl _) (.cells #[.int .i64 b2.tick, .slice a6 n6 c6] 31)
      have k6 := Blk.new w4 31 #[.int .i64 b2.tick, .slice a6 n6 c6]
      have hKp : KpS g0 g5 w4.heap.size e b b2 (.slice a5 n5 c5) (.slice a6 n6 c6) w (w4.alloc (.cells #[.int .i64 b2.tick, .slice a6 n6 c6] 31)) :=
        ⟨kk0.below hb6, kk5.below hb6, k6, HIN5'.out.below hb6, hin6.below hb6, below_seq HB5.out hb6⟩
      have HP := Lib.hid hKp
      have HB6 := Lib.hid (below_seq HB5.out hb6)
      clear kk0 kk5 hb6 hKp k6 hin6 HIN5' HB5 f5 hl0 hl5 hne0 hne5
      cases R with
      | error q =>
        have hq : κ = q := hκ.out
        have hqp := applyR_pos hR.out.symm
        have h2 : (κ != 0) = true := by rw [bne_iff_ne, hq]; omega
        clear hq hqp
        go_wp2_with fail
        go_ret
        exact ⟨rfl, HB6.out⟩
      | ok c2 =>
        have hq : κ = 0 := hκ.out
        subst hq
        have hbe : b2 = c2 := hb2d.out
        subst hbe
        obtain ⟨p1, p2, p3, p4, p5, p6⟩ := keeps_ok hR.out.symm
        have hv2 : validB b2 = true := (twice_ok hR.out.symm).1
        have rb := (strsOk_lit b hvb.out).1
        have rc := (strsOk_lit b2 hv2).1
        obtain ⟨d0, hd0⟩ : ∃ d, d = b2.entries.length - b.entries.length := ⟨_, rfl⟩
        have z6 : n6 = n5 + d0 := by rw [hn5.out, hn6.out]; omega
        have z5 : n5 ≤ 100000000 := by rw [hn5.out]; exact Nat.le_trans raw_lens rb
        have zd : d0 ≤ 1 := by omega
        rw [← hd0] at p6
        have q1 : n5 ≤ n6 := by omega
        have q1' : ¬ n6 < n5 := by omega
        have q2 : IntKind.i64.wrap ((n5 : Int) + 1) = (n5 : Int) + 1 := IntWalk.i64_in _ (by omega)
        have q3 : decide ((n5 : Int) + 1 < (n6 : Int)) = false := by rw [decide_eq_false_iff_not]; omega
        obtain ⟨κ0, hκ0⟩ : ∃ κ0, κ0 = decide (n5 < n6) := ⟨_, rfl⟩
        have q4 : decide (n5 < n6) = κ0 := hκ0.symm
        have q5 : (e.kind == 0) = κ0 := by
          rw [hκ0]
          rw [hn5.out, hn6.out]
          show decide (e.kind = 0) = _
          rw [← p4]
        have q6 : (κ0 != κ0) = false := by simp
        have q7 : IntKind.i64.wrap ((n6 : Int) - (n5 : Int)) = (d0 : Int) := by rw [IntWalk.i64_in _ (by omega)]; omega
        have f0 := HP.out.ev.cells
        have f5 := HP.out.bb.cell
        have f6 := HP.out.bc.cell
        rw [p1] at f6 f5 ⊢
        have HP' : Hid (KpS g0 g5 w4.heap.size e b b2 (.slice a5 n5 c5) (.slice a6 n6 c6) w (w4.alloc (.cells #[.int .i64 e.tick, .slice a6 n6 c6] 31))) := by rw [← p1]; exact HP
        obtain ⟨e0, e1, e2, e3, e4, e5, e6, e7, e8⟩ := f0
        rw [p1] at e0 e1 e2 e3 e4 e5 e6 e7 e8
        replace p1 := Lib.hid p1
        clear HP HB6 p2 p3 p4 hd0 hκ0 rb
        replace p5 := Lib.hid p5
        replace p6 := Lib.hid p6
        replace z6 := Lib.hid z6
        go_wp2_with fail
        obtain ⟨g6, hg6⟩ : ∃ g, g = w4.heap.size := ⟨_, rfl⟩
        rw [← hg6] at HP' ⊢
        clear f5 f6 e0 e1 e2 e3 e4 e5 e6 e7 e8 hg6 q1 q1' q2 q3 q4 q5 q6 q7
        obtain ⟨W0, hW0⟩ : ∃ W0, W0 = w4.alloc (.cells #[.int .i64 e.tick, .slice a6 n6 c6] 31) := ⟨_, rfl⟩
        rw [← hW0] at HP' ⊢
        clear hW0
        go_loopw [8, 84] (fun v8 v84 wr => ∃ k s : Nat, k ≤ n5 ∧ v84 = .int .i64 k ∧ v8 = .int .i64 s ∧ Hid (s = d0 + enSum (b.entries.take k) b2.entries) ∧ Hid (KpS g0 g5 g6 e b b2 (.slice a5 n5 c5) (.slice a6 n6 c6) w wr)) (fun _ i _ => n5 - (RowKit.intOf i).toNat)
        case atStart => exact ⟨0, d0, Nat.zero_le _, rfl, rfl, Lib.hid (by simp [enSum]), HP'⟩
        case round =>
          clear HP'
          obtain ⟨k, s, hk, rfl, rfl, hs, hK⟩ := hrel
          by_cases hlt : k < n5
          · have hkb : k < b.entries.length := by rw [← hn5.out]; exact hlt
            have hkc : k < b2.entries.length := by rw [← hn6.out, z6.out]; omega
            obtain ⟨bb, ob, r, rfl, hbl, hry, hri, hrc⟩ := hK.out.ib.at_ hkb
            obtain ⟨bc, oc, t, rfl, hcl, hty, hti, htc⟩ := hK.out.ic.at_ hkc
            have hp := p5.out k hkb hkc
            have hsum := enSum_take hkb hkc
            have hle := enSum_le b.entries b2.entries (k + 1)
            have h6 := p6.out
            have hrb := raw_en (List.getElem_mem hkb)
            have hrc2 := raw_en (List.getElem_mem hkc)
            rw [← hry] at hp hsum hrb
            rw [← hty] at hp hsum hrc2
            obtain ⟨y, gv, av⟩ := r
            obtain ⟨y', gv', av'⟩ := t
            simp only at hp hsum hrb hrc2
            clear hry hty
            have hr1 : RowsIn grCs 4 wr gv y.grades := hri.1
            have hr2 : RowsIn apCs 6 wr av y.appeals := hri.2
            have ht1 : RowsIn grCs 4 wr gv' y'.grades := hti.1
            have ht2 : RowsIn apCs 6 wr av' y'.appeals := hti.2
            obtain ⟨ga, gc, rfl, hgc, _⟩ := id hr1
            obtain ⟨aa, ac, rfl, hac, _⟩ := id hr2
            obtain ⟨ga', gc', rfl, hgc', _⟩ := id ht1
            obtain ⟨aa', ac', rfl, hac', _⟩ := id ht2
            obtain ⟨n, hn1⟩ : ∃ n, n = y.grades.length := ⟨_, rfl⟩
            obtain ⟨m, hm1⟩ : ∃ n, n = y.appeals.length := ⟨_, rfl⟩
            obtain ⟨n', hn2⟩ : ∃ n, n = y'.grades.length := ⟨_, rfl⟩
            obtain ⟨m', hm2⟩ : ∃ n, n = y'.appeals.length := ⟨_, rfl⟩
            have g1 := hp.gl
            have g2 := hp.al
            rw [← hn1, ← hn2] at g1
            rw [← hm1, ← hm2] at g2
            rw [← hn1, ← hm1] at hri hrc hrb
            rw [← hn2, ← hm2] at hti htc hrc2
            rw [← hn2] at hgc'
            have x0 := hrc 0 (by decide)
            have x1 := hrc 1 (by decide)
            have x2 := hrc 2 (by decide)
            have x3 := hrc 3 (by decide)
            have x4 := hrc 4 (by decide)
            have x5 := hrc 5 (by decide)
            have x6 := hrc 6 (by decide)
            have t0 := htc 0 (by decide)
            have t1 := htc 1 (by decide)
            have t2 := htc 2 (by decide)
            have t3 := htc 3 (by decide)
            have t4 := htc 4 (by decide)
            have t5 := htc 5 (by decide)
            have t6 := htc 6 (by decide)
            simp only [enCs, List.getElem_cons_zero, List.getElem_cons_succ, Nat.add_zero] at x0 x1 x2 x3 x4 x5 x6 t0 t1 t2 t3 t4 t5 t6
            rw [← hp.key] at t0 t1 t2
            rw [← hp.tick] at t3
            rw [← hp.text] at t4
            have hb1 := (Below.refl wr.heap.size wr).alloc (Nat.le_refl _) (.cells #[.string (str y.key.st), .string (str y.key.ex), .int .i64 y.key.att, .int .i64 y.tick, .string (str y.text), .slice ga n gc, .slice aa m ac] 39)
            have hb2 := hb1.alloc (by simp) (.cells #[.string (str y.key.st), .string (str y.key.ex), .int .i64 y.key.att, .int .i64 y.tick, .string (str y.text), .slice ga' n' gc', .slice aa' m' ac'] 39)
            have kP := (Blk.new wr 39 #[.string (str y.key.st), .string (str y.key.ex), .int .i64 y.key.att, .int .i64 y.tick, .string (str y.text), .slice ga n gc, .slice aa m ac]).alloc (.cells #[.string (str y.key.st), .string (str y.key.ex), .int .i64 y.key.att, .int .i64 y.tick, .string (str y.text), .slice ga' n' gc', .slice aa' m' ac'] 39)
            have kQ := Blk.new (wr.alloc (.cells #[.string (str y.key.st), .string (str y.key.ex), .int .i64 y.key.att, .int .i64 y.tick, .string (str y.text), .slice ga n gc, .slice aa m ac] 39)) 39 #[.string (str y.key.st), .string (str y.key.ex), .int .i64 y.key.att, .int .i64 y.tick, .string (str y.text), .slice ga' n' gc', .slice aa' m' ac']
            simp only [World.size_alloc] at kQ
            have hKP : Hid (KpP g0 g5 g6 wr.heap.size (wr.heap.size + 1) e b b2 (.slice (some ⟨bb, ob, none⟩) n5 c5) (.slice (some ⟨bc, oc, none⟩) n6 c6) w ⟨y, .slice ga n gc, .slice aa m ac⟩ ⟨y', .slice ga' n' gc', .slice aa' m' ac'⟩ _) :=
              Lib.hid ⟨hK.out.below hb2, kP, by simpa only [enCs, ← hp.key, ← hp.tick, ← hp.text] using kQ, hri.below hb2, hti.below hb2⟩
            have k1 : (k : Int) < (n5 : Int) := by omega
            have k2 : (k : Int) < (n6 : Int) := by have := z6.out; omega
            have cB := hK.out.bc.cell
            have hl6 := hK.out.bc.lt
            have hne6 : ¬ (g6 = wr.heap.size) := by omega
            replace hp := Lib.hid hp
            replace hsum := Lib.hid hsum
            replace h6 := Lib.hid h6
            replace hle := Lib.hid hle
            replace hn1 := Lib.hid hn1
            replace hn2 := Lib.hid hn2
            replace hm1 := Lib.hid hm1
            replace hm2 := Lib.hid hm2
            clear hri hti hrc htc hr1 hr2 ht1 ht2 hb1 hb2
            go_wp2_with fail
            obtain ⟨W1, hW1⟩ : ∃ W1, W1 = (wr.alloc (.cells #[.string (str y.key.st), .string (str y.key.ex), .int .i64 y.key.att, .int .i64 y.tick, .string (str y.text), .slice ga n gc, .slice aa m ac] 39)).alloc (.cells #[.string (str y.key.st), .string (str y.key.ex), .int .i64 y.key.att, .int .i64 y.tick, .string (str y.text), .slice ga' n' gc', .slice aa' m' ac'] 39) := ⟨_, rfl⟩
            rw [← hW1] at hKP ⊢
            clear x0 x1 x2 x3 x4 x5 x6 t0 t1 t2 t3 t4 t5 t6 kP kQ hbl hcl cB hK hne6
            obtain ⟨gp, hgp⟩ : ∃ g, g = wr.heap.size := ⟨_, rfl⟩
            rw [← hgp] at hKP hl6 ⊢
            clear hgp hW1
            have x5 := hKP.out.pb.cell
            simp only [enCs] at x5
            go_quiet (fail)
            have hKP2 := Lib.hid (hKP.out.below (below_of_drewN nq))
            obtain ⟨W2, hW2⟩ : ∃ W2, W2 = W1.drewN nq := ⟨_, rfl⟩
            rw [← hW2] at hKP2 ⊢
            clear hW2 x5 hKP
            obtain ⟨S, hSd⟩ : ∃ S, S = fun W => KpP g0 g5 g6 gp (gp + 1) e b b2 (.slice (some ⟨bb, ob, none⟩) n5 c5) (.slice (some ⟨bc, oc, none⟩) n6 c6) w ⟨y, .slice ga n gc, .slice aa m ac⟩ ⟨y', .slice ga' n' gc', .slice aa' m' ac'⟩ W := ⟨_, rfl⟩
            have hS : ∀ W, Holds S W → KpP g0 g5 g6 gp (gp + 1) e b b2 (.slice (some ⟨bb, ob, none⟩) n5 c5) (.slice (some ⟨bc, oc, none⟩) n6 c6) w ⟨y, .slice ga n gc, .slice aa m ac⟩ ⟨y', .slice ga' n' gc', .slice aa' m' ac'⟩ W := fun W h => by rw [hSd] at h; exact h
            have KS : ∀ W W', Holds S W → Below W.heap.size W W' → Holds S W' := fun W W' h1 h2 => by
              have := (hS W h1).below h2
              rw [hSd]; exact this
            have hS0 : Holds S W2 := by rw [hSd]; exact hKP2.out
            have pP : ∀ W, Holds S W → ∀ i, W.cell? ⟨gp, i, none⟩ = (#[.string (str y.key.st), .string (str y.key.ex), .int .i64 y.key.att, .int .i64 y.tick, .string (str y.text), .slice ga n gc, .slice aa m ac] : Array Value)[i]? := fun W h => (hS W h).pb.cell
            have pQ : ∀ W, Holds S W → ∀ i, W.cell? ⟨gp + 1, i, none⟩ = (#[.string (str y.key.st), .string (str y.key.ex), .int .i64 y.key.att, .int .i64 y.tick, .string (str y.text), .slice ga' n' gc', .slice aa' m' ac'] : Array Value)[i]? := fun W h => by
              have := (hS W h).qb.cell
              simp only [enCs, ← hp.out.key, ← hp.out.tick, ← hp.out.text] at this
              exact this
            have pP0 : ∀ W, Holds S W → W.cell? ⟨gp, 0, none⟩ = some (.string (str y.key.st)) := fun W h => pP W h 0
            have pP1 : ∀ W, Holds S W → W.cell? ⟨gp, 1, none⟩ = some (.string (str y.key.ex)) := fun W h => pP W h 1
            have pP2 : ∀ W, Holds S W → W.cell? ⟨gp, 2, none⟩ = some (.int .i64 y.key.att) := fun W h => pP W h 2
            have pP3 : ∀ W, Holds S W → W.cell? ⟨gp, 3, none⟩ = some (.int .i64 y.tick) := fun W h => pP W h 3
            have pP4 : ∀ W, Holds S W → W.cell? ⟨gp, 4, none⟩ = some (.string (str y.text)) := fun W h => pP W h 4
            have pP5 : ∀ W, Holds S W → W.cell? ⟨gp, 5, none⟩ = some (.slice ga n gc) := fun W h => pP W h 5
            have pP6 : ∀ W, Holds S W → W.cell? ⟨gp, 6, none⟩ = some (.slice aa m ac) := fun W h => pP W h 6
            have pQ0 : ∀ W, Holds S W → W.cell? ⟨gp + 1, 0, none⟩ = some (.string (str y.key.st)) := fun W h => pQ W h 0
            have pQ1 : ∀ W, Holds S W → W.cell? ⟨gp + 1, 1, none⟩ = some (.string (str y.key.ex)) := fun W h => pQ W h 1
            have pQ2 : ∀ W, Holds S W → W.cell? ⟨gp + 1, 2, none⟩ = some (.int .i64 y.key.att) := fun W h => pQ W h 2
            have pQ3 : ∀ W, Holds S W → W.cell? ⟨gp + 1, 3, none⟩ = some (.int .i64 y.tick) := fun W h => pQ W h 3
            have pQ4 : ∀ W, Holds S W → W.cell? ⟨gp + 1, 4, none⟩ = some (.string (str y.text)) := fun W h => pQ W h 4
            have pQ5 : ∀ W, Holds S W → W.cell? ⟨gp + 1, 5, none⟩ = some (.slice ga' n' gc') := fun W h => pQ W h 5
            have pQ6 : ∀ W, Holds S W → W.cell? ⟨gp + 1, 6, none⟩ = some (.slice aa' m' ac') := fun W h => pQ W h 6
            have heq : ∀ W : World, (binOp .neq 24 (keyV y.key) (keyV y.key)).run Tryz.prog W = .ok (.bool false) W := fun W => by
              rw [neq_key]; simp
            have EG : ∀ W, Holds S W → Calls Tryz.prog 15 #[.slice ga' n gc', .slice ga n gc] W fun z w' => z = .returned (.bool true) ∧ Below W.heap.size W w' := fun W h => by
              have h1 := (hS W h).qi.1
              have h2 := (hS W h).pi.1
              have := equalGr_walk _ _ _ _ W (RowsIn.take h1 hp.out.gl) h2 (by rw [List.length_take, Nat.min_eq_left hp.out.gl]; have := hn1.out; omega)
              rw [hp.out.gr, decide_eq_true rfl, ← hn1.out] at this
              exact this
            have l1 : ¬ n' < n := by omega
            have l2 : ¬ m' < m := by omega
            have l3 : n ≤ gc' := by omega
            have l1' : n ≤ n' := g1
            have l2' : m ≤ m' := g2
            replace EG := Lib.hid EG
            have HS0 := Lib.hid hS0
            replace hS := Lib.hid hS
            clear hSd hKP2 hS0 pP pQ
            go_upto_region 17 with fail
            go_cut [142] (fun v142 wr => v142 = .bool false ∧ Hid (Holds S wr))
            case first =>
              go_region_held3 (Holds S) (first | exact KS _ _ HS0.out (Below.refl _ _).drew | exact KS _ _ (by assumption) hb1)
                (first
                  | (go_at_call 15; refine (EG.out _ (by assumption)).mono ?_; rintro z w7 ⟨rfl, hb1⟩))
              go_wp2_with fail
              go_meet
              exact ⟨rfl, Lib.hid (by assumption)⟩
            case rest =>
            obtain ⟨rfl, hW⟩ := hcut
            clear HS0 EG heq KS
            have hK3 := Lib.hid (hS.out _ hW.out)
            have P5 := pP5 _ hW.out
            have P6 := pP6 _ hW.out
            have Q5 := pQ5 _ hW.out
            have Q6 := pQ6 _ hW.out
            clear pP0 pP1 pP2 pP3 pP4 pP5 pP6 pQ0 pQ1 pQ2 pQ3 pQ4 pQ5 pQ6 hW hS
            obtain ⟨dg, hdg⟩ : ∃ d, d = n' - n := ⟨_, rfl⟩
            obtain ⟨da, hda⟩ : ∃ d, d = m' - m := ⟨_, rfl⟩
            obtain ⟨dd, hdd⟩ : ∃ d, d = dg + da := ⟨_, rfl⟩
            obtain ⟨t, ht⟩ : ∃ t, t = s + dd := ⟨_, rfl⟩
            have hs0 : s ≤ 100 := by have := hs.out; have := hsum.out; have := hle.out; have := h6.out; omega
            have z1 : n ≤ 100000000 := by omega
            have z2 : n' ≤ 100000000 := by omega
            have z3 : m' ≤ 100000000 := by omega
            have v1 : IntKind.i64.wrap ((n' : Int) - (n : Int)) = (dg : Int) := by rw [IntWalk.i64_in _ (by omega)]; omega
            have v2 : IntKind.i64.wrap ((dg : Int) + (m' : Int)) = (dg : Int) + (m' : Int) := IntWalk.i64_in _ (by omega)
            have v3 : IntKind.i64.wrap ((dg : Int) + (m' : Int) - (m : Int)) = (dd : Int) := by rw [IntWalk.i64_in _ (by omega)]; omega
            have v4 : IntKind.i64.wrap ((s : Int) + (dd : Int)) = (t : Int) := by rw [IntWalk.i64_in _ (by omega)]; omega
            have hend : t + apChg y.appeals y'.appeals = d0 + enSum (b.entries.take (k + 1)) b2.entries := by
              rw [hsum.out, ht, hs.out]
              unfold enDelta
              rw [← hn1.out, ← hn2.out, ← hm1.out, ← hm2.out, hdd, hdg, hda]; omega
            have ht0 : t ≤ 100 := by have := hle.out; have := h6.out; have := hend; omega
            replace hend := Lib.hid hend
            replace hdg := Lib.hid hdg
            replace hda := Lib.hid hda
            replace ht := Lib.hid ht
            replace hdd := Lib.hid hdd
            go_wp2_with fail
            clear P5 P6 Q5 Q6 v1 v2 v3 v4 hs0 z1 z2
            obtain ⟨W3, hW3⟩ : ∃ W3, W3 = wc := ⟨_, rfl⟩
            rw [← hW3] at hK3 ⊢
            clear hW3
            go_loopw [8, 159] (fun v8 v159 wr2 => ∃ j u : Nat, j ≤ m ∧ v159 = .int .i64 j ∧ v8 = .int .i64 u ∧ Hid (u = t + apChg (y.appeals.take j) y'.appeals) ∧ Hid (KpP g0 g5 g6 gp (gp + 1) e b b2 (.slice (some ⟨bb, ob, none⟩) n5 c5) (.slice (some ⟨bc, oc, none⟩) n6 c6) w ⟨y, .slice ga n gc, .slice aa m ac⟩ ⟨y', .slice ga' n' gc', .slice aa' m' ac'⟩ wr2)) (fun _ i _ => m - (RowKit.intOf i).toNat)
            case atStart => exact ⟨0, t, Nat.zero_le _, rfl, rfl, Lib.hid (by simp [apChg]), hK3⟩
            case round =>
              clear hK3
              obtain ⟨j, u, hj, rfl, rfl, hu, hK3⟩ := hrel
              by_cases hltj : j < m
              · have hj1 : j < y.appeals.length := by rw [← hm1.out]; exact hltj
                have hj2 : j < y'.appeals.length := by rw [← hm2.out]; omega
                rcases hK3.out.pi.2.split with ⟨e0, _⟩ | ⟨ba, oa, ca, ea, hal, har⟩
                · simp only at e0; rw [e0] at hj1; cases hj1
                rcases hK3.out.qi.2.split with ⟨e0, _⟩ | ⟨bd, od, cd, ed, hdl, hdr⟩
                · simp only at e0; rw [e0] at hj2; cases hj2
                simp only [Value.slice.injEq] at ea ed
                obtain ⟨rfl, hea, rfl⟩ := ea
                obtain ⟨rfl, hed, rfl⟩ := ed
                clear hea hed
                obtain ⟨x0, x1, x2, x3, x4, x5⟩ := ap_cells har j hj1
                have hch := apChg_take hj1 hj2
                have hcl := apChg_le y.appeals y'.appeals (j + 1)
                have hpa := hp.out.ap j hj1 hj2
                obtain ⟨A, hA⟩ : ∃ A, A = y.appeals[j] := ⟨_, rfl⟩
                obtain ⟨A', hA'⟩ : ∃ A, A = y'.appeals[j] := ⟨_, rfl⟩
                simp only [← hA, ← hA'] at x0 x1 x2 x3 x4 x5 hch hpa
                have hln := hK3.out.qb.lt
                have hne1 : ¬ (gp + 1 = wr.heap.size) := by omega
                have hne2 : ¬ (gp = wr.heap.size) := by omega
                have hb1 := (Below.refl wr.heap.size wr).alloc (Nat.le_refl _) (.cells #[.int .i64 A.tick, .string (str A.text), .bool A.dec, .bool A.acc, .int .i64 A.att, .string (str A.ans)] 44)
                have kA := Blk.new wr 44 #[.int .i64 A.tick, .string (str A.text), .bool A.dec, .bool A.acc, .int .i64 A.att, .string (str A.ans)]
                have k1 : (j : Int) < (m : Int) := by omega
                have k2 : (j : Int) < (m' : Int) := by omega
                have hK4 := Lib.hid (hK3.out.below hb1)
                obtain ⟨t0, t1, t2, t3, t4, t5⟩ := ap_cells (hdr.below hb1 hdl) j hj2
                simp only [← hA'] at t0 t1 t2 t3 t4 t5
                clear hA hA'
                go_wp2_with fail
                obtain ⟨W5, hW5⟩ : ∃ W5, W5 = wr.alloc (.cells #[.int .i64 A.tick, .string (str A.text), .bool A.dec, .bool A.acc, .int .i64 A.att, .string (str A.ans)] 44) := ⟨_, rfl⟩
                obtain ⟨g7, hg7⟩ : ∃ g, g = wr.heap.size := ⟨_, rfl⟩
                rw [← hW5] at kA hK4 t0 t1 t2 t3 t4 t5 ⊢
                rw [← hg7] at kA ⊢
                have KA := kA.cell
                have Q6 := hK4.out.qb.cell
                have P6 := hK4.out.pb.cell
                have E0 := hK4.out.all.ev.cells
                simp only [enCs] at Q6 P6
                clear hb1 hal har hdl hdr x0 x1 x2 x3 x4 x5 hne1 hne2 hln hg7 hW5 kA hK3
                by_cases heA : A = A'
                · have heq : ∀ W : World, (binOp .eql 44 (apV A) (apV A')).run Tryz.prog W = .ok (.bool true) W := fun W => by
                    rw [eq_ap, decide_eq_true heA]
                  rw [if_pos heA] at hch
                  have hu2 := Lib.hid (show u = t + apChg (y.appeals.take (j + 1)) y'.appeals by rw [hch, hu.out]; rfl)
                  clear heA hch hpa
                  clear P6 E0
                  go_quiet (fail)
                  have hK5 := Lib.hid (hK4.out.below (below_of_drewN nq))
                  clear t0 t1 t2 t3 t4 t5 Q6 KA hK4
                  go_wp2_with fail
                  exact ⟨⟨j + 1, u, by omega, by go_num, rfl, hu2, hK5⟩, by simp [RowKit.intOf]; omega⟩
                · rcases hpa with hpa | ⟨a1, a2, a3, a4, a5, a6⟩
                  · exact absurd hpa heA
                  have heq : ∀ W : World, (binOp .eql 44 (apV A) (apV A')).run Tryz.prog W = .ok (.bool false) W := fun W => by
                    rw [eq_ap, decide_eq_false heA]
                  rw [if_neg heA] at hch
                  have hu2 := Lib.hid (show u + 1 = t + apChg (y.appeals.take (j + 1)) y'.appeals by rw [hch, hu.out]; omega)
                  clear heA hch
                  have b1 : IntKind.i64.wrap ((m : Int) - 1) = (m : Int) - 1 := IntWalk.i64_in _ (by omega)
                  have b2' : ((j : Int) == (m : Int) - 1) = true := by rw [beq_iff_eq]; rw [← hm1.out] at a2; omega
                  have b2b : ((j : Int) != (m : Int) - 1) = false := by rw [bne, b2']; rfl
                  have heqK : ∀ W : World, (binOp .neq 24 (keyV y.key) (keyV e.key)).run Tryz.prog W = .ok (.bool false) W := fun W => by
                    rw [neq_key, decide_eq_true a6]; rfl
                  have b3 : IntKind.i64.wrap ((u : Int) + 1) = ((u + 1 : Nat) : Int) := by
                    have := hu.out
                    have : apChg (y.appeals.take j) y'.appeals ≤ 100000000 := Nat.le_trans (apChg_le _ _ _) (by unfold apChg; exact Nat.le_trans (List.countP_le_length) (by rw [List.length_zip]; have := hm1.out; omega))
                    rw [IntWalk.i64_in _ (by omega)]; omega
                  rw [← a4] at t0
                  rw [← a5] at t1
                  rw [a1] at KA
                  rw [a3] at t2
                  clear a1 a2 a3 a4 a5 a6 hcl
                  go_quiet (fail)
                  go_wp2_with fail
                  go_quiet (fail)
                  clear t0 t1 t2 t3 t4 t5 P6 Q6 KA E0
                  go_wp2_with fail
                  exact ⟨⟨j + 1, u + 1, by omega, by go_num, by go_num, hu2, Lib.hid (hK4.out.below (below_of_drewN _))⟩, by simp [RowKit.intOf]; omega⟩
              · have hfin := hu.out
                rw [show j = m by omega, hm1.out, List.take_length, hend.out] at hfin
                have hfin' := Lib.hid hfin
                have hK6 := Lib.hid hK3.out.all
                go_wp2_with fail
                exact ⟨⟨k + 1, u, by omega, by go_num, rfl, hfin', hK6⟩, by simp [RowKit.intOf]; omega⟩
          · have hfin := hs.out
            rw [show k = n5 by omega, hn5.out, List.take_length, p6.out] at hfin
            subst hfin
            go_wp2_with fail
            go_ret
            exact ⟨rfl, hK.out.far⟩
end Go.Proofs.YtnjiomggbafkmaaGreatDoor
