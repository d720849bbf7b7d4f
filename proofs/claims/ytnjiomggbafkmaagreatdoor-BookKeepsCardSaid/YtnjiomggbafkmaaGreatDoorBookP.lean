/- The gradebook in plain words: stable sorting; events and books; what applying an event does. -/
import Derived.Test.YtnjiomggbafkmaaGreatDoorBase
namespace Go.Proofs.YtnjiomggbafkmaaGreatDoor

/-! ### Stable sorting -/
section
variable {α : Type}
/-- r is l, sorted by a number, equal ones in the order in which they stood. -/
def StableBy (f : α → Int) (l r : List α) : Prop := r.Pairwise (fun x y => f x ≤ f y) ∧ ∀ t, r.filter (fun x => f x == t) = l.filter (fun x => f x == t)

theorem stable_unique (f : α → Int) : ∀ {r s : List α}, r.Pairwise (fun x y => f x ≤ f y) → s.Pairwise (fun x y => f x ≤ f y) → (∀ t, r.filter (fun x => f x == t) = s.filter (fun x => f x == t)) → r = s
  | [], [], _, _, _ => rfl
  | [], y :: s, _, _, h => by have := h (f y); simp at this
  | x :: r, [], _, _, h => by have := h (f x); simp at this
  | x :: r, y :: s, hr, hs, h => by
    rw [List.pairwise_cons] at hr hs
    have hxy : f x ≤ f y := by
      have hm : y ∈ (x :: r).filter (fun z => f z == f y) := by rw [h]; simp
      rw [List.mem_filter] at hm
      rcases List.mem_cons.1 hm.1 with e | hm'
      · rw [e]; exact Int.le_refl _
      · exact hr.1 _ hm'
    have hyx : f y ≤ f x := by
      have hm : x ∈ (y :: s).filter (fun z => f z == f x) := by rw [← h]; simp
      rw [List.mem_filter] at hm
      rcases List.mem_cons.1 hm.1 with e | hm'
      · rw [e]; exact Int.le_refl _
      · exact hs.1 _ hm'
    have hfe : f y = f x := by omega
    have h0 := h (f x)
    rw [List.filter_cons_of_pos (by simp), List.filter_cons_of_pos (by simp [hfe])] at h0
    obtain ⟨e, _⟩ := List.cons.inj h0
    subst e
    rw [stable_unique f hr.2 hs.2 fun t => ?_]
    have h1 := h t
    by_cases ht : (f x == t) = true
    · rw [List.filter_cons_of_pos (by simpa using ht), List.filter_cons_of_pos (by simpa using ht)] at h1
      exact (List.cons.inj h1).2
    · rw [List.filter_cons_of_neg (by simpa using ht), List.filter_cons_of_neg (by simpa using ht)] at h1
      exact h1
def sortBy (f : α → Int) (l : List α) : List α := l.mergeSort (fun x y => decide (f x ≤ f y))
theorem sortBy_stable (f : α → Int) (l : List α) : StableBy f l (sortBy f l) := by
  have ht : ∀ a b c : α, decide (f a ≤ f b) = true → decide (f b ≤ f c) = true → decide (f a ≤ f c) = true := fun a b c h1 h2 => by simp only [decide_eq_true_eq] at *; omega
  have hto : ∀ a b : α, (decide (f a ≤ f b) || decide (f b ≤ f a)) = true := fun a b => by simp only [Bool.or_eq_true, decide_eq_true_eq]; omega
  refine ⟨(List.pairwise_mergeSort ht hto l).imp fun h => by simpa using h, fun t => ?_⟩
  have hp : (l.filter (fun x => f x == t)).Pairwise (fun x y => decide (f x ≤ f y) = true) := by
    rw [List.pairwise_iff_forall_sublist]
    intro a b h
    have ha := h.subset (List.mem_cons_self)
    have hb := h.subset (List.mem_cons_of_mem _ (List.mem_cons_self))
    rw [List.mem_filter, beq_iff_eq] at ha hb
    simp only [decide_eq_true_eq]
    omega
  have hs := (List.sublist_mergeSort ht hto hp List.filter_sublist).filter (fun x => f x == t)
  rw [List.filter_filter] at hs
  simp only [Bool.and_self] at hs
  exact (hs.eq_of_length ((List.mergeSort_perm l _).filter _).length_eq.symm).symm
theorem StableBy.eq {f : α → Int} {l r : List α} (h : StableBy f l r) : r = sortBy f l :=
  stable_unique f h.1 (sortBy_stable f l).1 fun t => (h.2 t).trans ((sortBy_stable f l).2 t).symm
theorem sortBy_perm (f : α → Int) (l : List α) : (sortBy f l).Perm l := List.mergeSort_perm l _
theorem sortBy_length (f : α → Int) (l : List α) : (sortBy f l).length = l.length := (sortBy_perm f l).length_eq
theorem mem_sortBy {f : α → Int} {l : List α} {x : α} : x ∈ sortBy f l ↔ x ∈ l := (sortBy_perm f l).mem_iff
end

/-! ### The data -/

structure BKey where
  st : List UInt8
  ex : List UInt8
  att : Int
  deriving DecidableEq
structure BEv where
  kind : Int
  key : BKey
  tick : Int
  ver : Int
  hun : Int
  text : List UInt8
  acc : Bool
  deriving DecidableEq
structure BGr where
  ver : Int
  hun : Int
  tick : Int
  text : List UInt8
  deriving DecidableEq
structure BAp where
  tick : Int
  text : List UInt8
  dec : Bool
  acc : Bool
  att : Int
  ans : List UInt8
  deriving DecidableEq
structure BEn where
  key : BKey
  tick : Int
  text : List UInt8
  grades : List BGr
  appeals : List BAp
  deriving DecidableEq
structure Bk where
  tick : Int
  entries : List BEn
  deriving DecidableEq

def Bk.empty : Bk := ⟨0, []⟩

/-! ### Names and valid events -/
def letterB (c : UInt8) : Bool := decide (97 ≤ c.toNat) && decide (c.toNat ≤ 122)
def insideB (c : UInt8) : Bool := letterB c || (decide (48 ≤ c.toNat) && decide (c.toNat ≤ 57)) || decide (c.toNat = 95)
def keywordsL : List (List UInt8) := [[112, 111, 105, 110, 116, 115], [112, 101, 110, 97, 108, 116, 121], [99, 97, 112], [102, 108, 111, 111, 114], [105, 110], [105, 102], [97, 110, 100], [111, 114], [110, 111, 116], [116, 114, 117, 101], [102, 97, 108, 115, 101], [109, 105, 110], [109, 97, 120]]
def nameB (s : List UInt8) : Bool :=
  match s with
  | [] => false
  | c :: r => letterB c && decide ((c :: r).length ≤ 16) && (c :: r).all insideB && !(keywordsL.contains (c :: r))
def keyB (k : BKey) : Bool := nameB k.st && nameB k.ex && decide (1 ≤ k.att) && decide (k.att ≤ 16)
def evB (e : BEv) : Bool :=
  decide (0 ≤ e.kind) && decide (e.kind ≤ 3) && keyB e.key && decide (0 ≤ e.tick) && decide (e.tick ≤ 1099511627776) && decide (e.text.length ≤ 4096) &&
    (if e.kind = 1 then decide (1 ≤ e.ver) && decide (e.ver ≤ 1048576) && decide (0 ≤ e.hun) && decide (e.hun ≤ 100000000) && !e.acc
     else decide (e.ver = 0) && decide (e.hun = 0) && (!e.acc || decide (e.kind = 3)))

/-! ### The events of a book -/
def BAp.evs (k : BKey) (a : BAp) : List BEv := ⟨2, k, a.tick, 0, 0, a.text, false⟩ :: (if a.dec then [⟨3, k, a.att, 0, 0, a.ans, a.acc⟩] else [])
def BGr.ev (k : BKey) (g : BGr) : BEv := ⟨1, k, g.tick, g.ver, g.hun, g.text, false⟩
def BEn.evs (y : BEn) : List BEv := ⟨0, y.key, y.tick, 0, 0, y.text, false⟩ :: (y.grades.map (BGr.ev y.key) ++ y.appeals.flatMap (BAp.evs y.key))
def rawEvs (es : List BEn) : List BEv := es.flatMap BEn.evs
def evsOf (es : List BEn) : List BEv := sortBy BEv.tick (rawEvs es)

/-! ### Applying an event -/
/-- The first entry with a key, and its index. -/
def entryOf : List BEn → BKey → Option (Nat × BEn)
  | [], _ => none
  | y :: es, k => if y.key = k then some (0, y) else (entryOf es k).map fun p => (p.1 + 1, p.2)
def hasE (es : List BEn) (e : BEv) : Bool :=
  match entryOf es e.key with
  | some (_, y) => decide (e ∈ y.evs)
  | none => false
def countE (es : List BEn) (k : BKey) : Nat := es.countP fun y => decide (y.key.st = k.st) && decide (y.key.ex = k.ex)
def BEn.isOpen (y : BEn) : Bool :=
  match y.appeals.getLast? with
  | some a => !a.dec
  | none => false
def lastVer (gs : List BGr) : Int :=
  match gs.getLast? with
  | some g => g.ver
  | none => 0
/-- A grade, an appeal or a decision about an entry: the entry with it, or a code. -/
def stepEn (y : BEn) (e : BEv) : Except Int BEn :=
  if e.kind = 1 then
    if y.grades ≠ [] ∧ e.ver ≤ lastVer y.grades then .error 9
    else if 16 ≤ y.grades.length then .error 8
    else .ok { y with grades := y.grades ++ [⟨e.ver, e.hun, e.tick, e.text⟩] }
  else if e.kind = 2 then
    if y.grades = [] ∨ y.isOpen = true then .error 9
    else if 16 ≤ y.appeals.length then .error 8
    else .ok { y with appeals := y.appeals ++ [⟨e.tick, e.text, false, false, 0, []⟩] }
  else
    if y.isOpen = false then .error 9
    else .ok { y with appeals := y.appeals.dropLast ++ (match y.appeals.getLast? with
      | some a => [{ a with dec := true, acc := e.acc, att := e.tick, ans := e.text }]
      | none => []) }
def applyE (b : Bk) (e : BEv) : Except Int Bk :=
  if hasE b.entries e = true then .error 6
  else if e.tick < b.tick then .error 2
  else if e.kind = 0 then
    if e.key.att ≠ (countE b.entries e.key : Int) + 1 then .error 9
    else if 256 ≤ b.entries.length then .error 8
    else .ok ⟨e.tick, b.entries ++ [⟨e.key, e.tick, e.text, [], []⟩]⟩
  else
    match entryOf b.entries e.key with
    | none => .error 7
    | some (i, y) =>
      match stepEn y e with
      | .error c => .error c
      | .ok y' => .ok ⟨e.tick, b.entries.set i y'⟩
def replayE : Bk → List BEv → Option Bk
  | b, [] => some b
  | b, e :: l => if evB e = true then (match applyE b e with | .ok c => replayE c l | .error _ => none) else none
def validB (b : Bk) : Bool := decide (b.entries.length ≤ 256) && decide (replayE Bk.empty (evsOf b.entries) = some b)
/-- Apply. -/
def applyR (b : Bk) (e : BEv) : Except Int Bk := if validB b = true ∧ evB e = true then applyE b e else .error 1

end Go.Proofs.YtnjiomggbafkmaaGreatDoor
