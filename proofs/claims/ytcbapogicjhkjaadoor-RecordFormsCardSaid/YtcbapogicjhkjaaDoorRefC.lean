/- Walk and Generation of the reference of layer 54. -/
import Derived.Test.YtcbapogicjhkjaaDoorRefB
namespace Go.Proofs.YtcbapogicjhkjaaDoor
open Go.RowKit Go.Lib

set_option maxHeartbeats 2000000 in
set_option maxRecDepth 100000 in
theorem refWalk_walk (data : ByteArray) (g : Nat) (w : World) (hg : 1 ≤ g ∧ g ≤ 1099511627776) (hs : data.size ≤ 140737488351232) :
    Calls Tryd.prog 12 #[.string data, .int .i64 g] w fun e w' => (∃ v, e = .returned (.tuple #[v, .int .i64 (offL (walkL (bs data) g) : Int)]) ∧ StrsIn w' v (walkL (bs data) g)) ∧ Below w.heap.size w w' := by
  obtain ⟨i0, hi, hz0, hz1, hz2⟩ := info_parts infoString
  go_enter Tryd.func12, Tryd.ntmps12
  go_wp2_with fail
  go_loopw [6, 7] (fun v6 v7 wr => ∃ ps : List (List UInt8), offL ps ≤ data.size ∧ v7 = .int .i64 (offL ps) ∧ Hid (ps ++ walkL ((bs data).drop (offL ps)) g = walkL (bs data) g) ∧ Hid (wr.ownsRow w.heap.size 9 1 v6 ps.length (strVs ps)) ∧ Hid (Below w.heap.size w wr)) (fun _ i _ => data.size - (RowKit.intOf i).toNat)
  case atStart => exact ⟨[], by simp [offL], rfl, Lib.hid rfl, Lib.hid (World.ownsRow_made w #[] 0 (Nat.le_refl _) (by unfold maxLen; omega) (by simp)), Lib.hid ((Below.refl _ _).alloc (Nat.le_refl _) _)⟩
  case round =>
    obtain ⟨ps, hle, rfl, hps, hown, hb⟩ := hrel
    obtain ⟨k, hk⟩ : ∃ k, k = offL ps := ⟨_, rfl⟩
    rw [← hk] at hle hps ⊢
    have HK := Lib.hid hk
    have hlen := offL_length ps
    rw [← hk] at hlen
    clear hk
    have hstop : ∀ (W : World), decL ((bs data).drop k) g = none → Below w.heap.size w W → W.ownsRow w.heap.size 9 1 u6 ps.length (strVs ps) →
        (∃ v, Ending.returned (.tuple #[u6, .int .i64 (k : Int)]) = .returned (.tuple #[v, .int .i64 (offL (walkL (bs data) g) : Int)]) ∧ StrsIn W v (walkL (bs data) g)) ∧ Below w.heap.size w W := by
      intro W hd hbW hoW
      have h := hps.out
      rw [walkL_none hd, List.append_nil] at h
      exact ⟨⟨u6, by rw [← h, ← HK.out], by rw [← h]; exact StrsIn.of_own hoW⟩, hbW⟩
    by_cases hend : k = data.size
    · have hd : decL ((bs data).drop k) g = none := by
        refine decL_none.2 fun p hp => ?_
        have := hp.len
        rw [List.length_drop, bs_length] at this
        omega
      have hfin := Lib.hid (hstop _ hd hb.out hown.out)
      have hE := Lib.hid hend
      clear hd hstop hend
      go_wp2_with fail
      refine (refDecode_end data k g _ hg (by omega) hE.out).mono ?_
      rintro e w' ⟨rfl, rfl⟩
      go_wp2_with fail
      go_ret2
      exact hfin.out
    · cases hd : decL ((bs data).drop k) g with
      | none =>
        have HD := Lib.hid hd
        have hst := Lib.hid (hstop · hd)
        clear hd hstop
        go_wp2_with fail
        refine (refDecode_at data k g _ hg (by omega) (by omega)).mono ?_
        rintro e w1 ⟨rfl, hb1⟩
        rw [HD.out]
        simp only [decRes2]
        go_wp2_with fail
        go_ret2
        exact hst.out w1 (below_seq hb.out hb1) (ownsRow_old hown.out hb1)
      | some p =>
        have hp := (decL_some.1 hd).len
        rw [List.length_drop, bs_length] at hp
        have HD := Lib.hid hd
        clear hd hstop
        go_wp2_with fail
        refine (refDecode_at data k g _ hg (by omega) (by omega)).mono ?_
        rintro e w1 ⟨rfl, hb1⟩
        rw [HD.out]
        simp only [decRes2]
        go_wp2_with (at_builtin; refine wpList_append_own _ rfl _ _ 23 rfl w.heap.size 9 i0 (.string ⟨#[]⟩) 1 16 Tryd.underlying23 hi hz0 hz1 hz2 rfl (by decide) _ _ _ rfl ((ownsRow_old hown.out hb1).alloc _) ⟨w1.heap.size, 0, none⟩ 1 1 [.string (str p)] rfl rfl ?c1 ?c2 ?c3 ?c4 ?c5 ?_)
        case c1 => exact cell_one_new _ _ _
        case c2 => intro u hu; simp at hu; subst hu; rfl
        case c3 => unfold maxLen; omega
        case c4 => omega
        case c5 => have := hb.out.size; have := hb1.size; simp; omega
        intro v' w2 hown2 hgr _
        have hown3 : w2.ownsRow w.heap.size 9 1 v' (ps ++ [p]).length (strVs (ps ++ [p])) := by
          rw [strVs_snoc, List.length_append]; exact hown2
        have hb2 : Below w.heap.size w w2 := ((below_seq hb.out hb1).alloc (by have := hb.out.size; have := hb1.size; omega) _).grown hgr (by have := hb.out.size; have := hb1.size; simp; omega) (fun q hq => (hown.out.lt q hq).1)
        have hOwn := Lib.hid hown3
        have hB2 := Lib.hid hb2
        clear hown2 hown3 hgr hb2 hb1 hown hb
        go_wp2_with fail
        have hoff : offL (ps ++ [p]) = k + (50 + 2 * p.length) := by rw [offL_snoc, ← HK.out]
        refine ⟨⟨ps ++ [p], by rw [hoff]; omega, by rw [hoff]; simp, Lib.hid ?_, hOwn, hB2⟩, by simp [RowKit.intOf]; omega⟩
        rw [hoff, List.append_assoc, List.singleton_append, ← List.drop_drop, ← walkL_some HD.out]
        exact hps.out

theorem refWalk_bad (data : ByteArray) (g : Int) (w : World) (hg : ¬ (1 ≤ g ∧ g ≤ 1099511627776)) (hs : data.size ≤ 140737488351232) :
    Calls Tryd.prog 12 #[.string data, .int .i64 g] w fun e w' => (∃ v, e = .returned (.tuple #[v, .int .i64 0]) ∧ StrsIn w' v []) ∧ Below w.heap.size w w' := by
  go_enter Tryd.func12, Tryd.ntmps12
  go_wp2_with fail
  refine wp_loop_rounds 1 ?_
  rw [rounds_succ]
  go_wp2_with fail
  refine (refDecode_bad data 0 g _ (by omega) (.inl hg)).mono ?_
  rintro e w' ⟨rfl, rfl⟩
  go_wp2_with fail
  go_ret2
  exact ⟨⟨_, rfl, _, _, rfl, fun i hi => by cases hi⟩, (Below.refl _ _).alloc (Nat.le_refl _) _⟩


theorem genL_of {d : List UInt8} {m : Nat} (hn : numI ((d.drop 17).take 16) = some (m : Int)) (h : ∀ p, decL d m = some p → ¬ (1 ≤ m ∧ m ≤ 1099511627776)) : genL d = none := by
  refine genL_none.2 fun g hg => decL_none.2 fun p hp => ?_
  have h3 := hp.genNum (by omega)
  rw [hn] at h3
  simp only [Option.some.injEq] at h3
  have hgm : g = m := by omega
  subst hgm
  exact h p (decL_some.2 hp) hg

set_option maxHeartbeats 2000000 in
set_option maxRecDepth 100000 in
theorem refGeneration_walk (data : ByteArray) (w : World) (hs : data.size ≤ 4611686018427387904) :
    Calls Tryd.prog 21 #[.string data] w fun e w' => e = .returned (genRes (genL (bs data))) ∧ Below w.heap.size w w' := by
  by_cases hshort : data.size < 33
  · have hd : genL (bs data) = none := genL_none.2 fun g _ => decL_none.2 fun p hp => by
      have := hp.len
      rw [bs_length] at this
      omega
    have HD := Lib.hid hd
    clear hd
    go_enter Tryd.func21, Tryd.ntmps21
    go_wp2_with fail
    go_ret2
    exact ⟨by rw [HD.out]; rfl, Below.refl _ _⟩
  cases hn : numI (bs (data.extract 17 33)) with
  | none =>
    have hd : genL (bs data) = none := genL_none.2 fun g hg => decL_none.2 fun p hp => by
      have := hp.genNum (by omega)
      rw [bs_mid] at hn
      rw [hn] at this
      cases this
    have HD := Lib.hid hd
    have HN := Lib.hid (refNum_none hn)
    clear hd hn
    go_enter Tryd.func21, Tryd.ntmps21
    go_wp2_with fail
    refine (refNumber_walk _ _ (by rw [size_mid _ _ _ (by omega)]; decide)).mono ?_
    rintro e w' ⟨rfl, rfl⟩
    rw [HN.out]
    go_wp2_with fail
    go_ret2
    exact ⟨by rw [HD.out]; rfl, Below.refl _ _⟩
  | some n =>
    have hr := numI_range _ n hn
    obtain ⟨m, rfl⟩ := Int.eq_ofNat_of_zero_le hr.1
    have h16 : 16 ^ (bs (data.extract 17 33)).length ≤ 16 ^ 16 := by
      refine Nat.pow_le_pow_right (by decide) ?_
      rw [bs_length, size_mid _ _ _ (by omega)]; decide
    have hm64 : m < 18446744073709551616 := by
      have : 16 ^ 16 = 18446744073709551616 := by decide
      omega
    have hN : refNum (data.extract 17 33) = .tuple #[.int .i64 (wrap64 (m : Int)), .bool true] := by
      unfold refNum; rw [hn]
    rw [bs_mid] at hn
    have HNum := Lib.hid hn
    obtain ⟨x, hx⟩ : ∃ x, wrap64 (m : Int) = x := ⟨_, rfl⟩
    rw [hx] at hN
    have HN := Lib.hid hN
    have HX := Lib.hid hx
    clear hN hn hr h16
    by_cases hok : 1 ≤ x ∧ x ≤ 1099511627776
    · have hxm : x = m := by rw [← hx]; unfold wrap64 at *; omega
      subst hxm
      clear HX hx
      have h1 : 1 ≤ m ∧ m ≤ 1099511627776 := by omega
      have hpos : 0 < data.size := by omega
      go_enter Tryd.func21, Tryd.ntmps21
      go_wp2_with fail
      refine (refNumber_walk _ _ (by rw [size_mid _ _ _ (by omega)]; decide)).mono ?_
      rintro e w' ⟨rfl, rfl⟩
      rw [HN.out]
      go_wp2_with fail
      refine (refDecode_at data 0 m _ h1 hs hpos).mono ?_
      rintro e w1 ⟨rfl, hb⟩
      rw [List.drop_zero]
      cases hd : decL (bs data) m with
      | none =>
        have HD := Lib.hid (genL_of HNum.out fun p hp _ => by rw [hd] at hp; cases hp)
        clear hd
        simp only [decRes2]
        go_wp2_with fail
        go_ret2
        exact ⟨by rw [HD.out]; rfl, hb⟩
      | some p =>
        have HD := Lib.hid (genL_some.2 ⟨h1, p, decL_some.1 hd⟩)
        clear hd
        simp only [decRes2]
        go_wp2_with fail
        go_ret2
        exact ⟨by rw [HD.out]; rfl, hb⟩
    · have HD := Lib.hid (genL_of HNum.out fun p hp h => hok (by rw [← hx, wrap64_small _ (by omega) (by omega)]; omega))
      clear hx
      go_enter Tryd.func21, Tryd.ntmps21
      go_wp2_with fail
      refine (refNumber_walk _ _ (by rw [size_mid _ _ _ (by omega)]; decide)).mono ?_
      rintro e w' ⟨rfl, rfl⟩
      rw [HN.out]
      go_wp2_with fail
      refine (refDecode_bad data 0 x _ hs (.inl hok)).mono ?_
      rintro e w' ⟨rfl, rfl⟩
      go_wp2_with fail
      go_ret2
      exact ⟨by rw [HD.out]; rfl, Below.refl _ _⟩

end Go.Proofs.YtcbapogicjhkjaaDoor
