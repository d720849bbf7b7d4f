/- slices.SortStableFunc at events: the closure, and the swaps of ranges. -/
import Derived.Test.YtnjiomggbafkmaaGreatDoorBookF
import Derived.Test.YtnjiomggbafkmaaGreatDoorSortQ
import Derived.Shelf.SlSortCmp.KitK
import Derived.BigRegion
import Derived.IntWalk
import Derived.Outline
namespace Go.Proofs.YtnjiomggbafkmaaGreatDoor
open Go.RowKit Go.Lib Go.Sort

/-- Go's cmp.Compare of two numbers. -/
def cmpI (a b : Int) : Int := if a < b then -1 else if b < a then 1 else 0
theorem cmpI_neg {a b : Int} : cmpI a b < 0 ↔ a < b := by
  unfold cmpI
  split
  · simp; assumption
  · split <;> simp <;> omega

set_option maxHeartbeats 1000000 in
theorem compare_walk (a b : Int) (w : World) : Calls Tryz.prog 86 #[.int .i64 a, .int .i64 b] w fun e w' => e = .returned (.int .i64 (cmpI a b)) ∧ w = w' := by
  have hn : ∀ (x : Int) (W : World), Calls Tryz.prog 106 #[.int .i64 x] W fun e w' => e = .returned (.bool false) ∧ W = w' := fun x W => by
    go_enter Tryz.func106, Tryz.ntmps106
    go_wp2_with fail
    go_ret
    exact ⟨by simp, rfl⟩
  replace hn := fun x W => Lib.hid (hn x W)
  obtain ⟨r, hr⟩ : ∃ r, r = cmpI a b := ⟨_, rfl⟩
  rw [← hr]
  by_cases h1 : a < b
  · have hr := Lib.hid (hr.trans (if_pos h1))
    go_enter Tryz.func86, Tryz.ntmps86
    go_wp2_with fail
    refine (hn _ _).out.mono ?_
    rintro e w' ⟨rfl, rfl⟩
    go_wp2_with fail
    refine (hn _ _).out.mono ?_
    rintro e w' ⟨rfl, rfl⟩
    go_wp2_with fail
    go_ret
    exact ⟨by rw [hr.out]; rfl, rfl⟩
  · by_cases h2 : b < a
    · have hr := Lib.hid (hr.trans ((if_neg h1).trans (if_pos h2)))
      go_enter Tryz.func86, Tryz.ntmps86
      go_wp2_with fail
      refine (hn _ _).out.mono ?_
      rintro e w' ⟨rfl, rfl⟩
      go_wp2_with fail
      refine (hn _ _).out.mono ?_
      rintro e w' ⟨rfl, rfl⟩
      go_wp2_with fail
      go_ret
      exact ⟨by rw [hr.out]; rfl, rfl⟩
    · have hr := Lib.hid (hr.trans ((if_neg h1).trans (if_neg h2)))
      go_enter Tryz.func86, Tryz.ntmps86
      go_wp2_with fail
      refine (hn _ _).out.mono ?_
      rintro e w' ⟨rfl, rfl⟩
      go_wp2_with fail
      refine (hn _ _).out.mono ?_
      rintro e w' ⟨rfl, rfl⟩
      go_wp2_with fail
      go_ret
      exact ⟨by rw [hr.out]; rfl, rfl⟩

def tickCmp (x y : BEv) : Int := cmpI x.tick y.tick
instance : Inhabited BEv := ⟨⟨0, ⟨[], [], 0⟩, 0, 0, 0, [], false⟩⟩

set_option maxHeartbeats 1000000 in
theorem byTick_walk (x y : BEv) (W : World) : Calls Tryz.prog 85 #[evV x, evV y] W fun e w' => e = .returned (.int .i64 (tickCmp x y)) ∧ ∃ q os', w' = grow (W.drewN q) os' := by
  unfold tickCmp
  generalize hr : cmpI x.tick y.tick = r
  have C := fun W => compare_walk x.tick y.tick W
  rw [hr] at C
  replace C := fun W => Lib.hid (C W)
  clear hr
  go_enter Tryz.func85, Tryz.ntmps85
  go_wp2_with fail
  refine (C _).out.mono ?_
  rintro e w' ⟨rfl, rfl⟩
  go_wp2_with fail
  go_ret
  exact ⟨rfl, 0, _, by rw [alloc_eq_grow, alloc_eq_grow, grow_grow]; rfl⟩

theorem evCs_len (x : BEv) : (evCs x).length = 9 := rfl
theorem evCs_one (x : BEv) : ∀ v ∈ evCs x, v.oneCell' = true := by
  intro v hv
  simp only [List.mem_cons, List.not_mem_nil, or_false] at hv
  rcases hv with rfl | rfl | rfl | rfl | rfl | rfl | rfl | rfl | rfl <;> rfl
theorem byTick_lays (blk off size : Nat) (w : World) : CmpLays Tryz.prog 85 #[] evCs 9 tickCmp blk off size w := fun _ _ _ _ x y => byTick_walk x y _
theorem mixedOrders : Tryz.prog.follows .mixedOrders = true := by kernel_rfl
/-- The closure as a value. -/
abbrev byTickV : Value := .func (.func 85) #[] #[]
/-- A row of events in the midst of a sort. -/
abbrev EvW (w0 : World) (blk off : Nat) (d : Array BEv) (W : World) : Prop := SWK evCs 9 w0 blk off d W

set_option maxHeartbeats 4000000 in
set_option maxRecDepth 1000000 in
theorem swapRange_k (k : Nat) (hk : k = 9) (enc : BEv → List Value) (w0 : World) (blk off cap : Nat) (d0 : Array BEv) (R0 : RowK enc k w0 blk off d0) (P U Q V R : List BEv) (d : Array BEv) (a b n : Nat) (hsz : d.size = d0.size) (hd : d.toList = P ++ (U ++ (Q ++ (V ++ R)))) (ha : P.length = a) (hU : U.length = n) (hV : V.length = n) (hb : a + n + Q.length = b)
    (hbig : d.size < 4611686018427387904) (w : World) (hw : SWK enc k w0 blk off d w) :
    Calls Tryz.prog 181 #[.slice (some ⟨blk, off, none⟩) d0.size cap, .int .i64 a, .int .i64 b, .int .i64 n, byTickV] w fun e w' =>
      e = .returned (.tuple #[]) ∧ ∃ d', d'.size = d0.size ∧ d'.toList = P ++ (V ++ (Q ++ (U ++ R))) ∧ SWK enc k w0 blk off d' w' := by
  have mixed := mixedOrders
  have zE : ∀ W, (Go.sizeOf 26).run Tryz.prog W = .ok k W := fun W => by rw [hk]; kernel_rfl
  have hKK := Lib.hid hk
  clear hk
  have HR := Lib.hid R0
  have hlen : d0.size = a + n + Q.length + n + R.length := by rw [← hsz, ← Array.length_toList, hd]; simp; omega
  have HD := Lib.hid hd
  have HW := Lib.hid hw
  replace hsz := Lib.hid hsz
  have HU := Lib.hid hU
  have HV := Lib.hid hV
  have HA := Lib.hid ha
  have HB := Lib.hid hb
  have hn0 : b + n ≤ d0.size := by omega
  have hn1 : a + n ≤ b := by omega
  have hn2 : d0.size < 4611686018427387904 := by rw [← hsz.out]; exact hbig
  clear hd hw R0 hU hV ha hb hlen hbig
  go_enter Tryz.func181, Tryz.ntmps181
  go_wp2_with fail
  go_loopw [10] (fun v10 wr => ∃ (i : Nat) (dk : Array BEv), v10 = .int .i64 i ∧ i ≤ n ∧ Hid (dk.size = d0.size) ∧ Hid (dk.toList = P ++ ((V.take i ++ U.drop i) ++ (Q ++ ((U.take i ++ V.drop i) ++ R)))) ∧ Hid (SWK enc k w0 blk off dk wr)) (fun v _ => n - (RowKit.intOf v).toNat)
  case atStart => exact ⟨0, d, rfl, Nat.zero_le _, hsz, by simpa using HD, HW⟩
  case round =>
    obtain ⟨i, dk, rfl, hi, hs, hl, hW⟩ := hrel
    by_cases hlt : i < n
    · have hltU : i < U.length := by rw [HU.out]; exact hlt
      have hltV : i < V.length := by rw [HV.out]; exact hlt
      have hs' := hs.out
      have hA : (P ++ V.take i).length = a + i := by simp [HA.out]; omega
      have hB : (U.drop (i + 1) ++ (Q ++ U.take i)).length = n - (i + 1) + Q.length + i := by simp [HU.out]; omega
      have hb' := HB.out
      have hl2 : dk.toList = (P ++ V.take i) ++ U[i] :: ((U.drop (i + 1) ++ (Q ++ U.take i)) ++ V[i] :: (V.drop (i + 1) ++ R)) := by
        rw [hl.out, List.drop_eq_getElem_cons hltU, List.drop_eq_getElem_cons hltV]; simp only [List.append_assoc, List.cons_append]
      have hsw := swp_lists hl2
      rw [hA, hB, show a + i + 1 + (n - (i + 1) + Q.length + i) = b + i by omega] at hsw
      have hnext : (swp dk (a + i) (b + i)).toList = P ++ ((V.take (i + 1) ++ U.drop (i + 1)) ++ (Q ++ ((U.take (i + 1) ++ V.drop (i + 1)) ++ R))) := by
        rw [hsw, take_snoc' V i hltV, take_snoc' U i hltU]; simp only [List.append_assoc, List.cons_append, List.nil_append]
      have hnsz := Lib.hid ((size_swp dk (a + i) (b + i)).trans hs')
      have SWP := Lib.hid (hW.out.swapped HR.out (a + i) (b + i) (by omega) (by omega))
      have ld1 := hW.out.ld1 HR.out hs' Tryz.prog (a + i) (by omega)
      have ld2 := hW.out.ld1 HR.out hs' Tryz.prog (b + i) (by omega)
      have s1 := hW.out.st1 HR.out hs' Tryz.prog (a + i) (by omega) dk[b + i]!
      have s2 := hW.out.st2 HR.out hs' Tryz.prog (a + i) (b + i) (by omega) (by omega) dk[b + i]! dk[a + i]!
      replace hnext := Lib.hid hnext
      clear hl2 hsw hA hB hs' hltU hltV hb'
      have ly := HR.out.hk dk[b + i]!
      have lx := HR.out.hk dk[a + i]!
      generalize hx : dk[a + i]! = x at *
      generalize hy : dk[b + i]! = y at *
      clear hx hy
      have q1 : IntKind.i64.wrap ((a : Int) + (i : Int)) = (a : Int) + (i : Int) := IntWalk.i64_in _ (by omega)
      have q2 : IntKind.i64.wrap ((b : Int) + (i : Int)) = (b : Int) + (i : Int) := IntWalk.i64_in _ (by omega)
      have q3 : (0 : Int) ≤ (a : Int) + (i : Int) := by omega
      have q4 : (0 : Int) ≤ (b : Int) + (i : Int) := by omega
      have q5 : (a : Int) + (i : Int) < (d0.size : Int) := by omega
      have q6 : (b : Int) + (i : Int) < (d0.size : Int) := by omega
      have q7 : ((a : Int) + (i : Int)).toNat = a + i := by omega
      have q8 : ((b : Int) + (i : Int)).toNat = b + i := by omega
      go_wp2_with fail
      go_region
      all_goals go_wp2_with fail
      all_goals exact ⟨⟨i + 1, _, by simp, by omega, hnsz, hnext, SWP⟩, by simp [RowKit.intOf]; omega⟩
    · obtain rfl : i = n := by omega
      go_wp2_with fail
      go_end0
      refine ⟨rfl, dk, hs.out, ?_, hW.out⟩
      rw [hl.out, List.take_of_length_le (by rw [HV.out]; exact Nat.le_refl _), List.drop_of_length_le (by rw [HU.out]; exact Nat.le_refl _), List.take_of_length_le (by rw [HU.out]; exact Nat.le_refl _), List.drop_of_length_le (by rw [HV.out]; exact Nat.le_refl _)]
      simp only [List.append_nil]
end Go.Proofs.YtnjiomggbafkmaaGreatDoor
