/- slices.SortStableFunc at events: symMerge where one of the blocks has one element. -/
import Derived.Test.YtnjiomggbafkmaaGreatDoorSortI
namespace Go.Proofs.YtnjiomggbafkmaaGreatDoor
open Go.RowKit Go.Lib Go.Sort

/-- What symMerge leaves. -/
def Merged (k : Nat) (enc : BEv → List Value) (w0 : World) (blk off : Nat) (a b : Nat) (d0 d : Array BEv) (e : Ending) (w' : World) : Prop :=
  e = .returned (.tuple #[]) ∧ ∃ d', Turned a b d0 d d' ∧ SortedA BEv.tick a b d' ∧ SWK enc k w0 blk off d' w'

set_option maxHeartbeats 4000000 in
set_option maxRecDepth 1000000 in
theorem symMerge_left (k : Nat) (hk : k = 9) (enc : BEv → List Value) (he : enc = evCs) (w0 : World) (blk off cap : Nat) (d0 : Array BEv) (R0 : RowK enc k w0 blk off d0) (d : Array BEv) (a m b : Nat) (hsz : d.size = d0.size)
    (hm : m = a + 1) (h2 : m < b) (hs : SortedA BEv.tick m b d) (hb : b ≤ d0.size) (hbig : d0.size < 4611686018427387904) (w : World) (hw : SWK enc k w0 blk off d w) :
    Calls Tryz.prog 127 #[.slice (some ⟨blk, off, none⟩) d0.size cap, .int .i64 a, .int .i64 m, .int .i64 b, byTickV] w (Merged k enc w0 blk off a b d0 d) := by
  have mixed := mixedOrders
  have zE : ∀ W, (Go.sizeOf 26).run Tryz.prog W = .ok k W := fun W => by rw [hk]; kernel_rfl
  have hC : Hid (CmpLays Tryz.prog 85 #[] enc k tickCmp blk off d0.size w0) := by rw [he, hk]; exact Lib.hid (byTick_lays _ _ _ _)
  have HR := Lib.hid R0
  have HW := Lib.hid hw
  replace hsz := Lib.hid hsz
  have HS := Lib.hid hs
  have eg : ∀ args W, (callFunc 85 args).run Tryz.prog W = .ok (.enter 85 args) W := enters_of Tryz.func85 (by kernel_rfl) rfl
  clear hk he R0 hw hs
  have e1 : (m : Int) - (a : Int) = 1 := by omega
  have hm' : m ≤ a + 1 ∧ a + 1 ≤ m := by omega
  clear hm
  go_enter Tryz.func127, Tryz.ntmps127
  go_wp2_with fail
  go_loopw [10, 11, 12] (fun v10 v11 _ wr => ∃ (i j : Nat), v10 = .int .i64 i ∧ v11 = .int .i64 j ∧ m ≤ i ∧ i ≤ j ∧ j ≤ b ∧ Hid (∀ q, m ≤ q → q < i → d[q]!.tick < d[a]!.tick) ∧ Hid (j = b ∨ d[a]!.tick ≤ d[j]!.tick) ∧ Hid (SWK enc k w0 blk off d wr)) (fun v v' _ _ => (RowKit.intOf v').toNat - (RowKit.intOf v).toNat)
  case atStart => exact ⟨m, b, rfl, rfl, Nat.le_refl _, by omega, Nat.le_refl _, Lib.hid (fun q h1 h2 => by omega), Lib.hid (.inl rfl), HW⟩
  case round =>
    obtain ⟨i, j, rfl, rfl, hi, hij, hj, hq1, hq2, hW⟩ := hrel
    have hsz' := hsz.out
    by_cases hlt : i < j
    · obtain ⟨h, hh⟩ : ∃ h, h = (i + j) / 2 := ⟨_, rfl⟩
      have hh1 : i ≤ h := by omega
      have hh2 : h < j := by omega
      have eh : ((i : Int) + (j : Int)) / 2 = (h : Int) := by omega
      have lh := fun n os => hW.out.ld HR.out hsz' Tryz.prog h (by omega) n os
      have la := fun n os => hW.out.ld HR.out hsz' Tryz.prog a (by omega) n os
      have hcg := fun n os => hW.out.cmp hC.out hsz' d[h]! d[a]! n os
      have HG := Lib.hid fun n os => hW.out.grown n os
      have qh : (h : Int) < (d0.size : Int) := by omega
      have qa : (a : Int) < (d0.size : Int) := by omega
      have qm : (m : Int) < (d0.size : Int) := by omega
      clear hh hsz'
      by_cases hlv : d[h]!.tick < d[a]!.tick
      · have hneg : tickCmp d[h]! d[a]! < 0 := tickCmp_lt.2 hlv
        have hq1' := Lib.hid (show ∀ q, m ≤ q → q < h + 1 → d[q]!.tick < d[a]!.tick from fun q p1 p2 => by
          by_cases e : q = h
          · rw [e]; exact hlv
          · have := HS.out q h p1 (by omega) (by omega)
            omega)
        clear hlv
        obtain ⟨x, hx⟩ : ∃ z, z = d[h]! := ⟨_, rfl⟩
        rw [← hx] at hneg lh hcg
        clear hx
        obtain ⟨y, hy⟩ : ∃ z, z = d[a]! := ⟨_, rfl⟩
        rw [← hy] at hneg la hcg
        clear hy
        generalize tickCmp x y = c at *
        go_wp2_with fail
        go_quiet_grown (first | (go_at_fn 85; refine Calls.grown_of (hcg _ _)))
        have hg := Lib.hid (HG.out nq osq)
        clear lh la hcg
        go_wp2_with fail
        exact ⟨⟨h + 1, j, by go_num, rfl, by omega, by omega, hj, hq1', hq2, hg⟩, by simp [RowKit.intOf]; omega⟩
      · have hneg : ¬ tickCmp d[h]! d[a]! < 0 := fun e => hlv (tickCmp_lt.1 e)
        have hq2' := Lib.hid (show h = b ∨ d[a]!.tick ≤ d[h]!.tick from .inr (by omega))
        clear hlv
        obtain ⟨x, hx⟩ : ∃ z, z = d[h]! := ⟨_, rfl⟩
        rw [← hx] at hneg lh hcg
        clear hx
        obtain ⟨y, hy⟩ : ∃ z, z = d[a]! := ⟨_, rfl⟩
        rw [← hy] at hneg la hcg
        clear hy
        generalize tickCmp x y = c at *
        go_wp2_with fail
        go_quiet_grown (first | (go_at_fn 85; refine Calls.grown_of (hcg _ _)))
        have hg := Lib.hid (HG.out nq osq)
        clear lh la hcg
        go_wp2_with fail
        exact ⟨⟨i, h, rfl, rfl, hi, hh1, by omega, hq1, hq2', hg⟩, by simp [RowKit.intOf]; omega⟩
    · obtain rfl : i = j := by omega
      clear hsz'
      go_wp2_with fail
      obtain ⟨wo, hwo⟩ : ∃ wo : World, wo = wr := ⟨_, rfl⟩
      subst hwo
      go_loopw [13] (fun v13 wr2 => ∃ (q : Nat) (dk : Array BEv), v13 = .int .i64 q ∧ a ≤ q ∧ q ≤ i - 1 ∧ Hid (Turned a b d0 d dk) ∧ Hid (MovR BEv.tick a b q dk) ∧ Hid (dk[q]! = d[a]!) ∧ Hid (∀ t, q < t → dk[t]! = d[t]!) ∧ Hid (SWK enc k w0 blk off dk wr2)) (fun v _ => i - (RowKit.intOf v).toNat)
      case atStart => exact ⟨a, d, rfl, Nat.le_refl _, by omega, Lib.hid (Turned.refl hsz.out), Lib.hid (MovR.start (fun p q p1 p2 p3 => HS.out p q (by omega) p2 p3)), Lib.hid rfl, Lib.hid (fun _ _ => rfl), hW⟩
      case round =>
        obtain ⟨q, dk, rfl, haq, hqi, hT, hM, hx0, hrest, hW2⟩ := hrel
        have hsz2 := hT.out.1
        by_cases hlt2 : q < i - 1
        · have hadj : dk[q + 1]!.tick < dk[q]!.tick := by
            rw [hx0.out, hrest.out (q + 1) (by omega)]
            exact hq1.out (q + 1) (by omega) (by omega)
          have hT3 := Lib.hid (hT.out.trans ⟨(size_swp _ _ _).trans hsz2, (sameBy_adj dk q (by omega) hadj).2, (within_adj dk q a b (by omega) haq (by omega)).2⟩)
          have hM3 := Lib.hid (hM.out.step haq (by omega) (by omega) hadj)
          have hx3 := Lib.hid (show (swp dk q (q + 1))[q + 1]! = d[a]! by rw [swp_get dk (by omega) (by omega), if_pos rfl]; exact hx0.out)
          have hr3 := Lib.hid (show ∀ t, q + 1 < t → (swp dk q (q + 1))[t]! = d[t]! from fun t ht => by rw [swp_get dk (by omega) (by omega), if_neg (by omega), if_neg (by omega)]; exact hrest.out t (by omega))
          have ld1 := hW2.out.ld1 HR.out hsz2 Tryz.prog (q + 1) (by omega)
          have ld2 := hW2.out.ld1 HR.out hsz2 Tryz.prog q (by omega)
          have s1 := hW2.out.st1 HR.out hsz2 Tryz.prog q (by omega) dk[q + 1]!
          have s2 := hW2.out.st2 HR.out hsz2 Tryz.prog q (q + 1) (by omega) (by omega) dk[q + 1]! dk[q]!
          have SWP := Lib.hid (hW2.out.swapped HR.out q (q + 1) (by omega) (by omega))
          have lx := HR.out.hk dk[q + 1]!
          have ly := HR.out.hk dk[q]!
          have q1 : IntKind.i64.wrap ((q : Int) + 1) = (q : Int) + 1 := IntWalk.i64_in _ (by omega)
          have q3 : (0 : Int) ≤ (q : Int) + 1 := by omega
          have q5 : (q : Int) + 1 < (d0.size : Int) := by omega
          have q6 : (q : Int) < (d0.size : Int) := by omega
          have q7 : ((q : Int) + 1).toNat = q + 1 := by omega
          have q8 : (q : Int) < (i : Int) - 1 := by omega
          clear hadj hsz2
          generalize dk[q + 1]! = x at ld1 s1 s2 SWP lx
          generalize dk[q]! = y at ld2 s2 SWP ly
          go_wp2_with fail
          go_region
          all_goals go_wp2_with fail
          all_goals exact ⟨⟨q + 1, _, by go_num, by omega, by omega, hT3, hM3, hx3, hr3, SWP⟩, by simp [RowKit.intOf] <;> omega⟩
        · have q8 : ¬ (q : Int) < (i : Int) - 1 := by omega
          have hfin := Lib.hid (show SortedA BEv.tick a b dk from hM.out.stop (by
            by_cases hbi : b ≤ q + 1
            · exact .inl hbi
            · refine .inr ?_
              rw [hx0.out, hrest.out (q + 1) (by omega), show q + 1 = i by omega]
              rcases hq2.out with h | h
              · omega
              · exact h))
          clear hsz2
          go_wp2_with fail
          refine bodyPost_ret (results_none rfl _ _ _) rfl ?_
          exact ⟨rfl, dk, hT.out, hfin.out, hW2.out⟩

set_option maxHeartbeats 4000000 in
set_option maxRecDepth 1000000 in
theorem symMerge_right (k : Nat) (hk : k = 9) (enc : BEv → List Value) (he : enc = evCs) (w0 : World) (blk off cap : Nat) (d0 : Array BEv) (R0 : RowK enc k w0 blk off d0) (d : Array BEv) (a m b : Nat) (hsz : d.size = d0.size)
    (hm : b = m + 1) (h2 : a + 1 < m) (hs : SortedA BEv.tick a m d) (hb : b ≤ d0.size) (hbig : d0.size < 4611686018427387904) (w : World) (hw : SWK enc k w0 blk off d w) :
    Calls Tryz.prog 127 #[.slice (some ⟨blk, off, none⟩) d0.size cap, .int .i64 a, .int .i64 m, .int .i64 b, byTickV] w (Merged k enc w0 blk off a b d0 d) := by
  have mixed := mixedOrders
  have zE : ∀ W, (Go.sizeOf 26).run Tryz.prog W = .ok k W := fun W => by rw [hk]; kernel_rfl
  have hC : Hid (CmpLays Tryz.prog 85 #[] enc k tickCmp blk off d0.size w0) := by rw [he, hk]; exact Lib.hid (byTick_lays _ _ _ _)
  have HR := Lib.hid R0
  have HW := Lib.hid hw
  replace hsz := Lib.hid hsz
  have HS := Lib.hid hs
  have eg : ∀ args W, (callFunc 85 args).run Tryz.prog W = .ok (.enter 85 args) W := enters_of Tryz.func85 (by kernel_rfl) rfl
  clear hk he R0 hw hs
  have e1 : (b : Int) - (m : Int) = 1 := by omega
  have e0 : ((m : Int) - (a : Int) == 1) = false := by rw [beq_eq_false_iff_ne]; omega
  have hm' : b ≤ m + 1 ∧ m + 1 ≤ b := by omega
  clear hm
  go_enter Tryz.func127, Tryz.ntmps127
  go_wp2_with fail
  go_loopw [14, 15, 16] (fun v10 v11 _ wr => ∃ (i j : Nat), v10 = .int .i64 i ∧ v11 = .int .i64 j ∧ a ≤ i ∧ i ≤ j ∧ j ≤ m ∧ Hid (∀ q, j ≤ q → q < m → d[m]!.tick < d[q]!.tick) ∧ Hid (i = a ∨ d[i - 1]!.tick ≤ d[m]!.tick) ∧ Hid (SWK enc k w0 blk off d wr)) (fun v v' _ _ => (RowKit.intOf v').toNat - (RowKit.intOf v).toNat)
  case atStart => exact ⟨a, m, rfl, rfl, Nat.le_refl _, by omega, Nat.le_refl _, Lib.hid (fun q h1 h2 => by omega), Lib.hid (.inl rfl), HW⟩
  case round =>
    obtain ⟨i, j, rfl, rfl, hi, hij, hj, hq1, hq2, hW⟩ := hrel
    have hsz' := hsz.out
    by_cases hlt : i < j
    · obtain ⟨h, hh⟩ : ∃ h, h = (i + j) / 2 := ⟨_, rfl⟩
      have hh1 : i ≤ h := by omega
      have hh2 : h < j := by omega
      have eh : ((i : Int) + (j : Int)) / 2 = (h : Int) := by omega
      have lh := fun n os => hW.out.ld HR.out hsz' Tryz.prog h (by omega) n os
      have la := fun n os => hW.out.ld HR.out hsz' Tryz.prog m (by omega) n os
      have hcg := fun n os => hW.out.cmp hC.out hsz' d[m]! d[h]! n os
      have HG := Lib.hid fun n os => hW.out.grown n os
      have qh : (h : Int) < (d0.size : Int) := by omega
      have qa : (a : Int) < (d0.size : Int) := by omega
      have qm : (m : Int) < (d0.size : Int) := by omega
      clear hh hsz'
      by_cases hlv : d[m]!.tick < d[h]!.tick
      · have hneg : tickCmp d[m]! d[h]! < 0 := tickCmp_lt.2 hlv
        have hq1' := Lib.hid (show ∀ q, h ≤ q → q < m → d[m]!.tick < d[q]!.tick from fun q p1 p2 => by
          by_cases e : q = h
          · rw [e]; exact hlv
          · have := HS.out h q (by omega) (by omega) p2
            omega)
        clear hlv
        obtain ⟨x, hx⟩ : ∃ z, z = d[h]! := ⟨_, rfl⟩
        rw [← hx] at hneg lh hcg
        clear hx
        obtain ⟨y, hy⟩ : ∃ z, z = d[m]! := ⟨_, rfl⟩
        rw [← hy] at hneg la hcg
        clear hy
        generalize tickCmp y x = c at *
        go_wp2_with fail
        go_quiet_grown (first | (go_at_fn 85; refine Calls.grown_of (hcg _ _)))
        have hg := Lib.hid (HG.out nq osq)
        clear lh la hcg
        go_wp2_with fail
        exact ⟨⟨i, h, rfl, rfl, hi, hh1, by omega, hq1', hq2, hg⟩, by simp [RowKit.intOf]; omega⟩
      · have hneg : ¬ tickCmp d[m]! d[h]! < 0 := fun e => hlv (tickCmp_lt.1 e)
        have hq2' := Lib.hid (show h + 1 = a ∨ d[h + 1 - 1]!.tick ≤ d[m]!.tick from .inr (by rw [Nat.add_sub_cancel]; omega))
        clear hlv
        obtain ⟨x, hx⟩ : ∃ z, z = d[h]! := ⟨_, rfl⟩
        rw [← hx] at hneg lh hcg
        clear hx
        obtain ⟨y, hy⟩ : ∃ z, z = d[m]! := ⟨_, rfl⟩
        rw [← hy] at hneg la hcg
        clear hy
        generalize tickCmp y x = c at *
        have hnn : (0 : Int) ≤ c := by omega
        have hnd : decide (c < 0) = false := decide_eq_false hneg
        go_wp2_with fail
        go_quiet_grown (first | (go_at_fn 85; refine Calls.grown_of (hcg _ _)))
        have hg := Lib.hid (HG.out nq osq)
        clear lh la hcg
        go_wp2_with fail
        exact ⟨⟨h + 1, j, by go_num, rfl, by omega, by omega, hj, hq1, hq2', hg⟩, by simp [RowKit.intOf]; omega⟩
    · obtain rfl : i = j := by omega
      clear hsz'
      go_wp2_with fail
      obtain ⟨wo, hwo⟩ : ∃ wo : World, wo = wr := ⟨_, rfl⟩
      subst hwo
      go_loopw [17] (fun v13 wr2 => ∃ (q : Nat) (dk : Array BEv), v13 = .int .i64 q ∧ i ≤ q ∧ q ≤ m ∧ Hid (Turned a b d0 d dk) ∧ Hid (InsI BEv.tick a m q dk) ∧ Hid (dk[q]! = d[m]!) ∧ Hid (∀ t, t < q → dk[t]! = d[t]!) ∧ Hid (SWK enc k w0 blk off dk wr2)) (fun v _ => (RowKit.intOf v).toNat)
      case atStart => exact ⟨m, d, rfl, hj, Nat.le_refl _, Lib.hid (Turned.refl hsz.out), Lib.hid (InsI.start HS.out), Lib.hid rfl, Lib.hid (fun _ _ => rfl), hW⟩
      case round =>
        obtain ⟨q, dk, rfl, hiq, hqm, hT, hM, hx0, hrest, hW2⟩ := hrel
        have hsz2 := hT.out.1
        by_cases hlt2 : i < q
        · obtain ⟨p, rfl⟩ : ∃ p, q = p + 1 := ⟨q - 1, by omega⟩
          have hadj : dk[p + 1]!.tick < dk[p]!.tick := by
            rw [hx0.out, hrest.out p (by omega)]
            exact hq1.out p (by omega) (by omega)
          have hT3 := Lib.hid (hT.out.trans ⟨(size_swp _ _ _).trans hsz2, (sameBy_adj dk p (by omega) hadj).1, (within_adj dk p a b (by omega) (by omega) (by omega)).1⟩)
          have hM3 := Lib.hid (hM.out.step hqm (by omega) (by omega) hadj)
          have hx3 := Lib.hid (show (swp dk (p + 1) p)[p]! = d[m]! by rw [swp_get dk (by omega) (by omega), if_pos rfl]; exact hx0.out)
          have hr3 := Lib.hid (show ∀ t, t < p → (swp dk (p + 1) p)[t]! = d[t]! from fun t ht => by rw [swp_get dk (by omega) (by omega), if_neg (by omega), if_neg (by omega)]; exact hrest.out t (by omega))
          have ld1 := hW2.out.ld1 HR.out hsz2 Tryz.prog (p + 1) (by omega)
          have ld2 := hW2.out.ld1 HR.out hsz2 Tryz.prog p (by omega)
          have s1 := hW2.out.st1 HR.out hsz2 Tryz.prog (p + 1) (by omega) dk[p]!
          have s2 := hW2.out.st2 HR.out hsz2 Tryz.prog (p + 1) p (by omega) (by omega) dk[p]! dk[p + 1]!
          have SWP := Lib.hid (hW2.out.swapped HR.out (p + 1) p (by omega) (by omega))
          have lx := HR.out.hk dk[p + 1]!
          have ly := HR.out.hk dk[p]!
          have q1 : IntKind.i64.wrap (p : Int) = (p : Int) := IntWalk.i64_in _ (by omega)
          have q3 : (0 : Int) ≤ (p : Int) + 1 := by omega
          have q5 : (p : Int) + 1 < (d0.size : Int) := by omega
          have q6 : (p : Int) < (d0.size : Int) := by omega
          have q7 : ((p : Int) + 1).toNat = p + 1 := by omega
          have q8 : (i : Int) < (p : Int) + 1 := by omega
          clear hadj hsz2
          generalize dk[p + 1]! = x at ld1 s2 SWP lx
          generalize dk[p]! = y at ld2 s1 s2 SWP ly
          go_wp2_with fail
          go_region
          all_goals go_wp2_with fail
          all_goals exact ⟨⟨p, _, by first | rfl | go_num, by omega, by omega, hT3, hM3, hx3, hr3, SWP⟩, by simp [RowKit.intOf] <;> omega⟩
        · obtain rfl : q = i := by omega
          have hfin := Lib.hid (show SortedA BEv.tick a b dk from fun p t p1 p2 p3 => hM.out.stop hqm (by
            by_cases hai : q ≤ a
            · exact .inl hai
            · refine .inr ?_
              rw [hx0.out, hrest.out (q - 1) (by omega)]
              rcases hq2.out with h | h
              · omega
              · exact h) p t p1 p2 (by omega))
          clear hsz2
          go_wp2_with fail
          refine bodyPost_ret (results_none rfl _ _ _) rfl ?_
          exact ⟨rfl, dk, hT.out, hfin.out, hW2.out⟩
end Go.Proofs.YtnjiomggbafkmaaGreatDoor
