/- RecordReturns returns true. -/
import Derived.Test.YtcbapogicjhkjaaDoorLawGens
import Derived.Test.YtcbapogicjhkjaaDoorGener
namespace Go.Proofs.YtcbapogicjhkjaaDoor
open Go.RowKit Go.Lib

/-- A slice's length is at most its capacity, and a nil slice has none. -/
def CapOk : Value → Prop
  | .slice a n c => n ≤ c ∧ (a = none → c = 0)
  | _ => True

theorem capOk_of {v : Value} (h : ∀ a n c, v = .slice a n c → n ≤ c ∧ (a = none → c = 0)) : CapOk v := by
  unfold CapOk
  split
  · exact h _ _ _ rfl
  · trivial
theorem StrsIn.takeK {w : World} {b off c k : Nat} {ps : List (List UInt8)} (h : StrsAt w b off ps) (hk : k ≤ ps.length) : StrsIn w (.slice (some ⟨b, off, none⟩) k c) (ps.take k) :=
  ⟨_, c, by rw [List.length_take, Nat.min_eq_left hk], fun i hi => ⟨b, off, rfl, by
    rw [List.length_take] at hi
    rw [List.getElem_take]
    exact h i (by omega)⟩⟩
theorem StrsAt.takeK {w : World} {b off c k : Nat} {ps : List (List UInt8)} (h : StrsAt w b off ps) (hk : k ≤ ps.length) : StrsIn w (.slice (some ⟨b, off, none⟩) k c) (ps.take k) := StrsIn.takeK h hk

theorem genL_enc (g : Nat) (p : List UInt8) (ps : List (List UInt8)) (hg : 1 ≤ g ∧ g ≤ 1099511627776) (hp : p.length ≤ 60) : genL (encL g (p :: ps)) = some g :=
  genL_some.2 ⟨hg, p, by omega, by rw [encL_cons]; exact List.prefix_append _ _⟩
theorem genL_enc0 (g : Nat) : genL (encL g []) = none := genL_none.2 fun o _ => decL_none.2 fun p hp => by have := hp.len; simp [encL] at this

set_option maxHeartbeats 4000000 in
set_option maxRecDepth 100000 in
theorem RecordReturns_good (g : Nat) (b off c : Nat) (ps : List (List UInt8)) (cut : Int) (w : World) (h1 : StrsAt w b off ps) (hcap : ps.length ≤ c) (hf : fewB ps 6 60 = true) (h0 : 0 < ps.length)
    (hg : 1 ≤ g ∧ g ≤ 1099511627776) (hcut : 0 ≤ cut ∧ cut ≤ 65535) (ht : Tab w) :
    Calls Tryd.prog 7 #[.int .i64 g, .slice (some ⟨b, off, none⟩) ps.length c, .int .u16 cut] w fun e w' => e = .returned (.bool true) ∧ Below w.heap.size w w' := by
  have hT := Lib.hid ht
  clear ht
  obtain ⟨hp, hn⟩ := few_true hf
  have hp : ∀ p ∈ ps, p.length ≤ 60 := fun p hq => by have := hp p hq; omega
  have hp3 : ∀ p ∈ ps, p.length ≤ 30000 := fun p hq => by have := hp p hq; omega
  have hn : ps.length ≤ 8 := by omega
  have hz : (str (encL g ps)).size = offL ps := by rw [str_size, encL_length]
  have hoff : offL ps ≤ 1500 := by
    have h2 := offL_bound ps 60 hp
    omega
  have cw : ∀ W, Calls Tryd.prog 11 #[.string (str (encL g ps)), .int .i64 g] W fun e w' => (∃ v, e = .returned (.tuple #[v, .int .i64 (offL ps : Int)]) ∧ StrsIn w' v ps) ∧ Below W.heap.size W w' := by
    intro W
    have h := Walk_walk (str (encL g ps)) g W hg (by omega)
    rw [bs_str, walkL_all g ps hp3] at h
    exact h
  have cg : ∀ W, Calls Tryd.prog 20 #[.string (str (encL g ps))] W fun e w' => e = .returned (.tuple #[.int .i64 g, .bool true]) ∧ Below W.heap.size W w' := by
    intro W
    have h := Generation_walk (str (encL g ps)) W (by omega)
    have hx : genL (bs (str (encL g ps))) = some g := by
      rw [bs_str]
      cases ps with
      | nil => simp at h0
      | cons p ps => exact genL_enc g p ps hg (hp p (by simp))
    rw [hx] at h
    exact h
  obtain ⟨en, hen⟩ : ∃ en : Nat, cut.tmod ((offL ps : Int) + 1) = (en : Int) ∧ en ≤ offL ps := by
    refine ⟨(cut.tmod ((offL ps : Int) + 1)).toNat, ?_⟩
    have e : cut.tmod ((offL ps : Int) + 1) = cut % ((offL ps : Int) + 1) := Int.tmod_eq_emod_of_nonneg hcut.1
    rw [e]
    have h1 := Int.emod_nonneg cut (show ((offL ps : Int) + 1) ≠ 0 by omega)
    have h2 := Int.emod_lt_of_pos cut (show 0 < ((offL ps : Int) + 1) by omega)
    omega
  obtain ⟨hen, henle⟩ := hen
  have cw2 : ∀ k : Nat, (k ≤ ps.length ∧ offL (ps.take k) ≤ en) → (∀ h : k < ps.length, en < offL (ps.take (k + 1))) → ∀ W, Calls Tryd.prog 11 #[.string ((str (encL g ps)).extract 0 en), .int .i64 g] W fun e w' => (∃ v, e = .returned (.tuple #[v, .int .i64 (offL (ps.take k) : Int)]) ∧ StrsIn w' v (ps.take k)) ∧ Below W.heap.size W w' := by
    intro k hk h2 W
    have h := Walk_walk ((str (encL g ps)).extract 0 en) g W hg (by rw [size_mid _ _ _ (by omega)]; omega)
    rw [bs_mid, List.drop_zero, bs_str, Nat.sub_zero, walkL_cut g ps hp3 en k hk.1 hk.2 h2 henle] at h
    exact h
  have hd1 : decide ((g : Int) < 1) = false := by simp; omega
  have hd2 : decide (1099511627776 < (g : Int)) = false := by simp; omega
  have H1 := Lib.hid h1
  have HF := Lib.hid hf
  have HP := Lib.hid hp
  have cw := Lib.hid cw
  have cg := Lib.hid cg
  have cw2 := Lib.hid cw2
  clear h1 hf hp hp3
  go_enter Tryd.func7, Tryd.ntmps7
  go_wp2_with fail
  refine (awake54 _ hT.out).mono ?_
  rintro e w1 ⟨rfl, hb1⟩
  go_wp2_with fail
  have hS1 : StrsIn w1 (.slice (some ⟨b, off, none⟩) ps.length c) ps := by have := (H1.out.below hb1).takeK (c := c) (Nat.le_refl _); rwa [List.take_length] at this
  refine (Few_walk _ ps 6 60 _ hS1 (by omega)).mono ?_
  rintro e w2 ⟨rfl, rfl⟩
  rw [HF.out]
  have hS1 := Lib.hid hS1
  go_wp2_with fail
  refine (lawEncode_walk g _ ps _ hS1.out hg HP.out hn).mono ?_
  rintro e w3 ⟨⟨b', c', rfl, hn3⟩, hb3⟩
  have hN := Lib.hid hn3
  have hb := Lib.hid (below_seq hb1 hb3)
  have hS := Lib.hid ((H1.out.below hb1).below hb3)
  clear hn3 hb1 hb3 hS1 H1
  go_wp2_with fail
  refine (cw.out _).mono ?_
  rintro e w4 ⟨⟨v4, rfl, hv4⟩, hb4⟩
  have hN := Lib.hid (hN.out.below hb4)
  have hb := Lib.hid (below_seq hb.out hb4)
  have hS := Lib.hid (hS.out.below hb4)
  clear hb4
  go_wp2_with fail
  have hS4 : StrsIn w4 (.slice (some ⟨b, off, none⟩) ps.length c) ps := by have := (hS.out).takeK (c := c) (Nat.le_refl _); rwa [List.take_length] at this
  refine (Strings_walk v4 _ ps ps _ hv4 hS4 (by omega)).mono ?_
  rintro e w5 ⟨rfl, nq, rfl⟩
  rw [decide_eq_true rfl]
  have hN := Lib.hid (hN.out.below (below_of_drewN (w := w4) nq))
  have hb := Lib.hid (below_drewN' hb.out nq)
  have hS := Lib.hid (hS.out.below (below_of_drewN (w := w4) nq))
  clear hv4 hS4
  go_wp2_with fail
  refine (cg.out _).mono ?_
  rintro e w5 ⟨rfl, hb5⟩
  have hN := Lib.hid (hN.out.below hb5)
  have hb := Lib.hid (below_seq hb.out hb5)
  have hS := Lib.hid (hS.out.below hb5)
  clear hb5
  have hpos : decide (0 < (ps.length : Int)) = true := by simp; omega
  go_wp2_with fail
  go_loop [19] (fun v19 => ∃ k : Nat, k ≤ ps.length ∧ v19 = .int .i64 k ∧ offL (ps.take k) ≤ en) (fun i => ps.length - (RowKit.intOf i).toNat)
  case atStart => exact ⟨0, Nat.zero_le _, rfl, by simp [offL]⟩
  case round =>
    obtain ⟨k, hk, rfl, hle⟩ := hrel
    have HKL : k ≤ ps.length ∧ offL (ps.take k) ≤ en := ⟨hk, hle⟩
    have hol := offs_length ps
    have hcell : w5.cell? ⟨b', k, none⟩ = some (.int .i64 ((offL (ps.take k) : Nat) : Int)) := by
      have := hN.out k (by omega)
      rwa [offs_get] at this
    by_cases hlt : k < ps.length
    · have hcell2 : w5.cell? ⟨b', k + 1, none⟩ = some (.int .i64 ((offL (ps.take (k + 1)) : Nat) : Int)) := by
        have := hN.out (k + 1) (by omega)
        rwa [offs_get] at this
      by_cases hle2 : offL (ps.take (k + 1)) ≤ en
      · go_wp2_with fail
        exact ⟨⟨k + 1, by omega, by simp, hle2⟩, by simp [RowKit.intOf]; omega⟩
      · have h2 := Lib.hid (show ∀ h : k < ps.length, en < offL (ps.take (k + 1)) from fun _ => by omega)
        go_wp2_with fail
        refine (cw2.out k HKL h2.out _).mono ?_
        rintro e w6 ⟨⟨v6, rfl, hv6⟩, hb6⟩
        have hb := below_seq hb.out hb6
        go_wp2_with fail
        refine (Strings_walk v6 (.slice (some ⟨b, off, none⟩) k c) (ps.take k) (ps.take k) _ hv6 ?_ (by rw [List.length_take]; omega)).mono ?_
        · exact (hS.out.below hb6).takeK hk
        rintro e w7 ⟨rfl, nq, rfl⟩
        rw [decide_eq_true rfl]
        have hc := (hN.out.below hb6) k (by rw [offs_length]; omega)
        rw [offs_get] at hc
        go_wp2_with fail
        go_ret
        exact ⟨rfl, below_drewN' hb nq⟩
    · have h2 := Lib.hid (show ∀ h : k < ps.length, en < offL (ps.take (k + 1)) from fun h => absurd h hlt)
      go_wp2_with fail
      refine (cw2.out k HKL h2.out _).mono ?_
      rintro e w6 ⟨⟨v6, rfl, hv6⟩, hb6⟩
      have hb := below_seq hb.out hb6
      go_wp2_with fail
      refine (Strings_walk v6 (.slice (some ⟨b, off, none⟩) k c) (ps.take k) (ps.take k) _ hv6 ?_ (by rw [List.length_take]; omega)).mono ?_
      · exact (hS.out.below hb6).takeK hk
      rintro e w7 ⟨rfl, nq, rfl⟩
      rw [decide_eq_true rfl]
      have hc := (hN.out.below hb6) k (by rw [offs_length]; omega)
      rw [offs_get] at hc
      go_wp2_with fail
      go_ret
      exact ⟨rfl, below_drewN' hb nq⟩

set_option maxHeartbeats 4000000 in
set_option maxRecDepth 100000 in
theorem RecordReturns_none (g : Nat) (a : Option Addr) (c : Nat) (cut : Int) (w : World) (hg : 1 ≤ g ∧ g ≤ 1099511627776) (ht : Tab w) :
    Calls Tryd.prog 7 #[.int .i64 g, .slice a 0 c, .int .u16 cut] w fun e w' => e = .returned (.bool true) ∧ Below w.heap.size w w' := by
  have hT := Lib.hid ht
  clear ht
  have hz : (str []).size = 0 := rfl
  have hx0 : (str []).extract 0 0 = str [] := rfl
  have cw : ∀ W, Calls Tryd.prog 11 #[.string (str []), .int .i64 g] W fun e w' => (∃ v, e = .returned (.tuple #[v, .int .i64 0]) ∧ StrsIn w' v []) ∧ Below W.heap.size W w' := by
    intro W
    have h := Walk_walk (str []) g W hg (by omega)
    rw [bs_str, walkL_nil] at h
    exact h
  have cg : ∀ W, Calls Tryd.prog 20 #[.string (str [])] W fun e w' => e = .returned (.tuple #[.int .i64 0, .bool false]) ∧ Below W.heap.size W w' := by
    intro W
    have h := Generation_walk (str []) W (by omega)
    have hx : genL (bs (str [])) = none := by rw [bs_str]; exact genL_enc0 g
    rw [hx] at h
    exact h
  have hd1 : decide ((g : Int) < 1) = false := by simp; omega
  have hd2 : decide (1099511627776 < (g : Int)) = false := by simp; omega
  have cw := Lib.hid cw
  have cg := Lib.hid cg
  have hnil : ∀ W : World, StrsIn W (.slice a 0 c) [] := fun W => ⟨a, c, rfl, fun i hi => by cases hi⟩
  have hmod : cut.tmod 1 = 0 := Int.tmod_one cut
  go_enter Tryd.func7, Tryd.ntmps7
  go_wp2_with fail
  refine (awake54 _ hT.out).mono ?_
  rintro e w1 ⟨rfl, hb1⟩
  go_wp2_with fail
  refine (Few_walk _ [] 6 60 _ (hnil _) (by simp)).mono ?_
  rintro e w2 ⟨rfl, rfl⟩
  rw [show fewB [] 6 60 = true from by decide]
  go_wp2_with fail
  refine (lawEncode_empty g a c _).mono ?_
  rintro e w3 ⟨⟨b', c', rfl, hn3⟩, hb3⟩
  have hN := Lib.hid hn3
  have hb := Lib.hid (below_seq hb1 hb3)
  clear hn3 hb1 hb3
  go_wp2_with fail
  refine (cw.out _).mono ?_
  rintro e w4 ⟨⟨v4, rfl, hv4⟩, hb4⟩
  have hN := Lib.hid (hN.out.below hb4)
  have hb := Lib.hid (below_seq hb.out hb4)
  clear hb4
  go_wp2_with fail
  refine (Strings_walk v4 _ [] [] _ hv4 (hnil _) (by simp)).mono ?_
  rintro e w5 ⟨rfl, nq, rfl⟩
  rw [decide_eq_true rfl]
  have hN := Lib.hid (hN.out.below (below_of_drewN (w := w4) nq))
  have hb := Lib.hid (below_drewN' hb.out nq)
  clear hv4
  go_wp2_with fail
  refine (cg.out _).mono ?_
  rintro e w5 ⟨rfl, hb5⟩
  have hN := Lib.hid (hN.out.below hb5)
  have hb := Lib.hid (below_seq hb.out hb5)
  clear hb5
  go_wp2_with fail
  refine wp_loop_rounds 1 ?_
  rw [rounds_succ]
  go_wp2_with fail
  refine (cw.out _).mono ?_
  rintro e w6 ⟨⟨v6, rfl, hv6⟩, hb6⟩
  have hb := below_seq hb.out hb6
  have hc := (hN.out.below hb6) 0 (by decide)
  go_wp2_with fail
  refine (Strings_walk v6 _ [] [] _ hv6 (hnil _) (by simp)).mono ?_
  rintro e w7 ⟨rfl, nq, rfl⟩
  rw [decide_eq_true rfl]
  go_wp2_with fail
  go_ret
  exact ⟨rfl, below_drewN' hb nq⟩

set_option maxHeartbeats 2000000 in
set_option maxRecDepth 100000 in
theorem RecordReturns_walk (g : Int) (v : Value) (ps : List (List UInt8)) (cut : Int) (w : World) (h1 : StrsIn w v ps) (hv : CapOk v) (hm : ps.length ≤ 140737488351232) (hcut : 0 ≤ cut ∧ cut ≤ 65535) (ht : Tab w) :
    Calls Tryd.prog 7 #[.int .i64 g, v, .int .u16 cut] w fun e w' => e = .returned (.bool true) ∧ Below w.heap.size w w' := by
  cases hf : fewB ps 6 60 with
  | false =>
    have HF := Lib.hid hf
    have hT := Lib.hid ht
    have H1 := Lib.hid h1
    clear hf h1 ht hv
    go_enter Tryd.func7, Tryd.ntmps7
    go_wp2_with fail
    refine (awake54 _ hT.out).mono ?_
    rintro e w1 ⟨rfl, hb1⟩
    go_wp2_with fail
    refine (Few_walk v ps 6 60 _ (H1.out.below hb1) (by omega)).mono ?_
    rintro e w2 ⟨rfl, rfl⟩
    rw [HF.out]
    go_wp2_with fail
    go_ret
    exact ⟨rfl, hb1⟩
  | true =>
    by_cases hg : 1 ≤ g ∧ g ≤ 1099511627776
    · obtain ⟨k, rfl⟩ := Int.eq_ofNat_of_zero_le (show 0 ≤ g by omega)
      rcases h1.split with ⟨rfl, a, c, rfl⟩ | ⟨b, off, c, rfl, hc⟩
      · exact RecordReturns_none k a c cut w (by omega) ht
      · by_cases h0 : 0 < ps.length
        · exact RecordReturns_good k b off c ps cut w hc hv.1 hf h0 (by omega) hcut ht
        · have : ps = [] := List.eq_nil_of_length_eq_zero (by omega)
          subst this
          exact RecordReturns_none k _ c cut w (by omega) ht
    · have HF := Lib.hid hf
      have hT := Lib.hid ht
      have H1 := Lib.hid h1
      have hd : (decide (g < 1) || decide (1099511627776 < g)) = true := by simp; omega
      clear hf h1 ht hv
      go_enter Tryd.func7, Tryd.ntmps7
      go_wp2_with fail
      refine (awake54 _ hT.out).mono ?_
      rintro e w1 ⟨rfl, hb1⟩
      go_wp2_with fail
      refine (Few_walk v ps 6 60 _ (H1.out.below hb1) (by omega)).mono ?_
      rintro e w2 ⟨rfl, rfl⟩
      rw [HF.out]
      by_cases hlt : g < 1
      · go_wp2_with fail
        refine (encode_range g _ _ hg).mono ?_
        rintro e w3 ⟨rfl, rfl⟩
        go_wp2_with fail
        refine (Walk_bad _ g _ hg (by decide)).mono ?_
        rintro e w4 ⟨rfl, rfl⟩
        go_wp2_with fail
        go_ret
        exact ⟨rfl, hb1⟩
      · have hgt : 1099511627776 < g := by omega
        go_wp2_with fail
        refine (encode_range g _ _ hg).mono ?_
        rintro e w3 ⟨rfl, rfl⟩
        go_wp2_with fail
        refine (Walk_bad _ g _ hg (by decide)).mono ?_
        rintro e w4 ⟨rfl, rfl⟩
        go_wp2_with fail
        go_ret
        exact ⟨rfl, hb1⟩
end Go.Proofs.YtcbapogicjhkjaaDoor
