/- Decode, Walk and Generation of package record. -/
import Derived.Test.YtcbapogicjhkjaaDoorDecode
import Derived.OwnWalk
import Derived.LoopN
import Derived.Maps.AppendAt
namespace Go.Proofs.YtcbapogicjhkjaaDoor
open Go.RowKit Go.Lib

/-- What Decode returns at an offset within the bytes. -/
def decRes2 : Option (List UInt8) → Value
  | some p => .tuple #[.string (str p), .int .i64 ((50 + 2 * p.length : Nat) : Int), .int .i64 0]
  | none => .tuple #[.string ⟨#[]⟩, .int .i64 0, .int .i64 11]

def okGen (g : Int) : Prop := 1 ≤ g ∧ g ≤ 1099511627776

set_option maxHeartbeats 1000000 in
theorem Decode_at (data : ByteArray) (k g : Nat) (w : World) (hg : 1 ≤ g ∧ g ≤ 1099511627776) (hs : data.size ≤ 4611686018427387904) (hk : k < data.size) :
    Calls Tryd.prog 16 #[.string data, .int .i64 k, .int .i64 g] w fun e w' => e = .returned (decRes2 (decL ((bs data).drop k) g)) ∧ Below w.heap.size w w' := by
  have ha : decide (1 ≤ (g : Int) ∧ (g : Int) ≤ 1099511627776) = true := by simp; omega
  have hx : bs (data.extract k data.size) = (bs data).drop k := by
    rw [bs_extract, ← bs_length, List.take_length]
  have hz : (data.extract k data.size).size = data.size - k := by rw [size_mid _ _ _ (Nat.le_refl _)]
  have HX := Lib.hid hx
  have HZ := Lib.hid hz
  clear hx hz
  go_enter Tryd.func16, Tryd.ntmps16
  go_wp2_with (go_at_call 29; refine (allowed_walk _ _).mono ?_; rintro e w' ⟨rfl, rfl⟩; rw [ha])
  refine (decode_walk _ g _ hg.1 hg.2 (by rw [HZ.out]; omega)).mono ?_
  rintro e w1 ⟨rfl, hb⟩
  rw [HX.out]
  cases hd : decL ((bs data).drop k) g with
  | none =>
    have HD := Lib.hid hd
    clear hd
    simp only [decRes]
    go_wp2_with fail
    go_ret3
    exact ⟨by rw [HD.out]; rfl, hb⟩
  | some p =>
    have HD := Lib.hid hd
    clear hd
    simp only [decRes]
    go_wp2_with fail
    go_ret3
    exact ⟨by rw [HD.out]; rfl, hb⟩

set_option maxHeartbeats 1000000 in
theorem Decode_end (data : ByteArray) (k g : Nat) (w : World) (hg : 1 ≤ g ∧ g ≤ 1099511627776) (_hs : data.size ≤ 4611686018427387904) (hk : k = data.size) :
    Calls Tryd.prog 16 #[.string data, .int .i64 k, .int .i64 g] w fun e w' => e = .returned (.tuple #[.string ⟨#[]⟩, .int .i64 0, .int .i64 7]) ∧ w = w' := by
  have ha : decide (1 ≤ (g : Int) ∧ (g : Int) ≤ 1099511627776) = true := by simp; omega
  subst hk
  go_enter Tryd.func16, Tryd.ntmps16
  go_wp2_with (go_at_call 29; refine (allowed_walk _ _).mono ?_; rintro e w' ⟨rfl, rfl⟩; rw [ha])
  go_ret3
  exact ⟨rfl, rfl⟩

/-- No record can be asked for. -/
def badAt (data : ByteArray) (at_ g : Int) : Prop := ¬ (1 ≤ g ∧ g ≤ 1099511627776) ∨ at_ < 0 ∨ (data.size : Int) < at_
set_option maxHeartbeats 1000000 in
theorem Decode_bad (data : ByteArray) (at_ g : Int) (w : World) (_hs : data.size ≤ 4611686018427387904) (hk : badAt data at_ g) :
    Calls Tryd.prog 16 #[.string data, .int .i64 at_, .int .i64 g] w fun e w' => e = .returned (.tuple #[.string ⟨#[]⟩, .int .i64 0, .int .i64 2]) ∧ w = w' := by
  by_cases hg : 1 ≤ g ∧ g ≤ 1099511627776
  · have ha : decide (1 ≤ g ∧ g ≤ 1099511627776) = true := by simp; omega
    by_cases hneg : at_ < 0
    · clear hk hg
      go_enter Tryd.func16, Tryd.ntmps16
      go_wp2_with (go_at_call 29; refine (allowed_walk _ _).mono ?_; rintro e w' ⟨rfl, rfl⟩; rw [ha])
      go_ret3
      exact ⟨rfl, rfl⟩
    · have hgt : (data.size : Int) < at_ := by
        rcases hk with h | h | h
        · exact absurd hg h
        · exact absurd h hneg
        · exact h
      clear hk hg
      go_enter Tryd.func16, Tryd.ntmps16
      go_wp2_with (go_at_call 29; refine (allowed_walk _ _).mono ?_; rintro e w' ⟨rfl, rfl⟩; rw [ha])
      go_ret3
      exact ⟨rfl, rfl⟩
  · have ha : decide (1 ≤ g ∧ g ≤ 1099511627776) = false := by simp only [decide_eq_false_iff_not]; exact hg
    clear hk hg
    go_enter Tryd.func16, Tryd.ntmps16
    go_wp2_with (go_at_call 29; refine (allowed_walk _ _).mono ?_; rintro e w' ⟨rfl, rfl⟩; rw [ha])
    go_ret3
    exact ⟨rfl, rfl⟩

/-! ### Walk -/

noncomputable def walkF (g : Nat) : Nat → List UInt8 → List (List UInt8)
  | 0, _ => []
  | f + 1, d => match decL d g with
    | some p => p :: walkF g f (d.drop (50 + 2 * p.length))
    | none => []
theorem walkF_more (g : Nat) : ∀ (f f' : Nat) (d : List UInt8), d.length ≤ f → d.length ≤ f' → walkF g f d = walkF g f' d := by
  have hnil : ∀ d : List UInt8, d.length = 0 → decL d g = none := fun d hd => decL_none.2 fun p hp => by have := hp.len; omega
  intro f
  induction f with
  | zero =>
    intro f' d h1 h2
    cases f' with
    | zero => rfl
    | succ f' => simp only [walkF, hnil d (by omega)]
  | succ f ih =>
    intro f' d h1 h2
    cases f' with
    | zero => simp only [walkF, hnil d (by omega)]
    | succ f' =>
      simp only [walkF]
      cases hd : decL d g with
      | none => rfl
      | some p =>
        have hp := (decL_some.1 hd).len
        simp only
        rw [ih f' _ (by rw [List.length_drop]; omega) (by rw [List.length_drop]; omega)]
/-- The payloads of the records that stand one behind the other. -/
noncomputable def walkL (d : List UInt8) (g : Nat) : List (List UInt8) := walkF g d.length d
theorem walkL_none {d : List UInt8} {g : Nat} (h : decL d g = none) : walkL d g = [] := by
  unfold walkL
  cases hd : d.length with
  | zero => rfl
  | succ n => simp only [walkF, h]
theorem walkL_some {d p : List UInt8} {g : Nat} (h : decL d g = some p) : walkL d g = p :: walkL (d.drop (50 + 2 * p.length)) g := by
  have hp := (decL_some.1 h).len
  unfold walkL
  cases hd : d.length with
  | zero => omega
  | succ n =>
    simp only [walkF, h]
    rw [walkF_more g n _ _ (by rw [List.length_drop]; omega) (Nat.le_refl _)]
/-- How many bytes the records of some payloads have. -/
def offL (ps : List (List UInt8)) : Nat := (ps.map fun p => 50 + 2 * p.length).sum
theorem offL_snoc (ps : List (List UInt8)) (p : List UInt8) : offL (ps ++ [p]) = offL ps + (50 + 2 * p.length) := by simp [offL]
theorem offL_length (ps : List (List UInt8)) : 50 * ps.length ≤ offL ps := by
  induction ps with
  | nil => simp [offL]
  | cons p ps ih => simp only [offL, List.map_cons, List.sum_cons, List.length_cons] at *; omega

theorem walkL_off (g : Nat) : ∀ (n : Nat) (d : List UInt8), d.length ≤ n → offL (walkL d g) ≤ d.length := by
  intro n
  induction n with
  | zero =>
    intro d hd
    rw [walkL_none (decL_none.2 fun p hp => by have := hp.len; omega)]
    simp [offL]
  | succ n ih =>
    intro d hd
    cases h : decL d g with
    | none => rw [walkL_none h]; simp [offL]
    | some p =>
      have hp := (decL_some.1 h).len
      have h2 := ih (d.drop (50 + 2 * p.length)) (by rw [List.length_drop]; omega)
      rw [walkL_some h]
      rw [List.length_drop] at h2
      simp only [offL, List.map_cons, List.sum_cons] at *
      omega

theorem infoString : (Tryd.prog.info? 9).map (fun i => (i.zero, i.size, i.bytes)) = some (some (.string ⟨#[]⟩), 1, 16) := by kernel_rfl

set_option maxHeartbeats 2000000 in
set_option maxRecDepth 100000 in
theorem Walk_walk (data : ByteArray) (g : Nat) (w : World) (hg : 1 ≤ g ∧ g ≤ 1099511627776) (hs : data.size ≤ 140737488351232) :
    Calls Tryd.prog 11 #[.string data, .int .i64 g] w fun e w' => (∃ v, e = .returned (.tuple #[v, .int .i64 (offL (walkL (bs data) g) : Int)]) ∧ StrsIn w' v (walkL (bs data) g)) ∧ Below w.heap.size w w' := by
  obtain ⟨i0, hi, hz0, hz1, hz2⟩ := info_parts infoString
  go_enter Tryd.func11, Tryd.ntmps11
  go_wp2_with fail
  go_loopw [6, 7] (fun v6 v7 wr => ∃ ps : List (List UInt8), offL ps ≤ data.size ∧ v7 = .int .i64 (offL ps) ∧ Hid (ps ++ walkL ((bs data).drop (offL ps)) g = walkL (bs data) g) ∧ Hid (wr.ownsRow w.heap.size 9 1 v6 ps.length (strVs ps)) ∧ Hid (Below w.heap.size w wr)) (fun _ i _ => data.size - (RowKit.intOf i).toNat)
  case atStart => exact ⟨[], by simp [offL], rfl, Lib.hid rfl, Lib.hid (World.ownsRow_nil _ _ _ _), Lib.hid (Below.refl _ _)⟩
  case round =>
    obtain ⟨ps, hle, rfl, hps, hown, hb⟩ := hrel
    obtain ⟨k, hk⟩ : ∃ k, k = offL ps := ⟨_, rfl⟩
    rw [← hk] at hle hps ⊢
    have HK := Lib.hid hk
    have hlen := offL_length ps
    rw [← hk] at hlen
    clear hk
    have hstop : ∀ (W : World), decL ((bs data).drop k) g = none → Below w.heap.size w W → W.ownsRow w.heap.size 9 1 u6 ps.length (strVs ps) →
        (∃ v, Ending.returned (.tuple #[u6, .int .i64 (k : Int)]) = .returned (.tuple #[v, .int .i64 (offL (walkL (bs data) g) : Int)]) ∧ StrsIn W v (walkL (bs data) g)) ∧ Below w.heap.size w W := by
      intro W hd hbW hoW
      have h := hps.out
      rw [walkL_none hd, List.append_nil] at h
      exact ⟨⟨u6, by rw [← h, ← HK.out], by rw [← h]; exact StrsIn.of_own hoW⟩, hbW⟩
    by_cases hend : k = data.size
    · have hd : decL ((bs data).drop k) g = none := by
        refine decL_none.2 fun p hp => ?_
        have := hp.len
        rw [List.length_drop, bs_length] at this
        omega
      have hfin := Lib.hid (hstop _ hd hb.out hown.out)
      have hE := Lib.hid hend
      clear hd hstop hend
      go_wp2_with fail
      refine (Decode_end data k g _ hg (by omega) hE.out).mono ?_
      rintro e w' ⟨rfl, rfl⟩
      go_wp2_with fail
      go_ret2
      exact hfin.out
    · cases hd : decL ((bs data).drop k) g with
      | none =>
        have HD := Lib.hid hd
        have hst := Lib.hid (hstop · hd)
        clear hd hstop
        go_wp2_with fail
        refine (Decode_at data k g _ hg (by omega) (by omega)).mono ?_
        rintro e w1 ⟨rfl, hb1⟩
        rw [HD.out]
        simp only [decRes2]
        go_wp2_with fail
        go_ret2
        exact hst.out w1 (below_seq hb.out hb1) (ownsRow_old hown.out hb1)
      | some p =>
        have hp := (decL_some.1 hd).len
        rw [List.length_drop, bs_length] at hp
        have HD := Lib.hid hd
        clear hd hstop
        go_wp2_with fail
        refine (Decode_at data k g _ hg (by omega) (by omega)).mono ?_
        rintro e w1 ⟨rfl, hb1⟩
        rw [HD.out]
        simp only [decRes2]
        go_wp2_with (at_builtin; refine wpList_append_own _ rfl _ _ 23 rfl w.heap.size 9 i0 (.string ⟨#[]⟩) 1 16 Tryd.underlying23 hi hz0 hz1 hz2 rfl (by decide) _ _ _ rfl ((ownsRow_old hown.out hb1).alloc _) ⟨w1.heap.size, 0, none⟩ 1 1 [.string (str p)] rfl rfl ?c1 ?c2 ?c3 ?c4 ?c5 ?_)
        case c1 => exact cell_one_new _ _ _
        case c2 => intro u hu; simp at hu; subst hu; rfl
        case c3 => unfold maxLen; omega
        case c4 => omega
        case c5 => have := hb.out.size; have := hb1.size; simp; omega
        intro v' w2 hown2 hgr _
        have hown3 : w2.ownsRow w.heap.size 9 1 v' (ps ++ [p]).length (strVs (ps ++ [p])) := by
          rw [strVs_snoc, List.length_append]; exact hown2
        have hb2 : Below w.heap.size w w2 := ((below_seq hb.out hb1).alloc (by have := hb.out.size; have := hb1.size; omega) _).grown hgr (by have := hb.out.size; have := hb1.size; simp; omega) (fun q hq => (hown.out.lt q hq).1)
        have hOwn := Lib.hid hown3
        have hB2 := Lib.hid hb2
        clear hown2 hown3 hgr hb2 hb1 hown hb
        go_wp2_with fail
        have hoff : offL (ps ++ [p]) = k + (50 + 2 * p.length) := by rw [offL_snoc, ← HK.out]
        refine ⟨⟨ps ++ [p], by rw [hoff]; omega, by rw [hoff]; simp, Lib.hid ?_, hOwn, hB2⟩, by simp [RowKit.intOf]; omega⟩
        rw [hoff, List.append_assoc, List.singleton_append, ← List.drop_drop, ← walkL_some HD.out]
        exact hps.out

theorem Walk_bad (data : ByteArray) (g : Int) (w : World) (hg : ¬ (1 ≤ g ∧ g ≤ 1099511627776)) (hs : data.size ≤ 140737488351232) :
    Calls Tryd.prog 11 #[.string data, .int .i64 g] w fun e w' => e = .returned (.tuple #[.slice none 0 0, .int .i64 0]) ∧ w = w' := by
  go_enter Tryd.func11, Tryd.ntmps11
  go_wp2_with fail
  refine wp_loop_rounds 1 ?_
  rw [rounds_succ]
  go_wp2_with fail
  refine (Decode_bad data 0 g _ (by omega) (.inl hg)).mono ?_
  rintro e w' ⟨rfl, rfl⟩
  go_wp2_with fail
  go_ret2
  exact ⟨rfl, rfl⟩

end Go.Proofs.YtcbapogicjhkjaaDoor
