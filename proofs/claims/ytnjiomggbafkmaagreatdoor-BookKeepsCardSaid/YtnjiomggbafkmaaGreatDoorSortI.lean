/- slices.SortStableFunc at events: insertion. -/
import Derived.Test.YtnjiomggbafkmaaGreatDoorSortR
import Derived.Shelf.SlSortCmp.QuietGrown
import Derived.LoopN
namespace Go.Proofs.YtnjiomggbafkmaaGreatDoor
open Go.RowKit Go.Lib Go.Sort

/-- What a part of the sort leaves. -/
def Turned (a b : Nat) (d0 d d' : Array BEv) : Prop := d'.size = d0.size ∧ SameBy BEv.tick d d' ∧ Within a b d d'
theorem Turned.refl {a b : Nat} {d0 d : Array BEv} (h : d.size = d0.size) : Turned a b d0 d d := ⟨h, SameBy.refl _, Within.refl _ _ _⟩
theorem Turned.trans {a b : Nat} {d0 d d' d'' : Array BEv} (h : Turned a b d0 d d') (k : Turned a b d0 d' d'') : Turned a b d0 d d'' := ⟨k.1, h.2.1.trans k.2.1, h.2.2.trans k.2.2⟩
theorem Turned.mono {a b a' b' : Nat} {d0 d d' : Array BEv} (h : Turned a b d0 d d') (ha : a' ≤ a) (hb : b ≤ b') : Turned a' b' d0 d d' := ⟨h.1, h.2.1, h.2.2.mono ha hb⟩
theorem tickCmp_lt {x y : BEv} : tickCmp x y < 0 ↔ x.tick < y.tick := cmpI_neg

set_option maxHeartbeats 4000000 in
set_option maxRecDepth 1000000 in
theorem insertion_k (k : Nat) (hk : k = 9) (enc : BEv → List Value) (he : enc = evCs) (w0 : World) (blk off cap : Nat) (d0 : Array BEv) (R0 : RowK enc k w0 blk off d0) (d : Array BEv) (a b : Nat) (hsz : d.size = d0.size)
    (hab : a ≤ b) (hb : b ≤ d0.size) (hbig : d0.size < 4611686018427387904) (w : World) (hw : SWK enc k w0 blk off d w) :
    Calls Tryz.prog 126 #[.slice (some ⟨blk, off, none⟩) d0.size cap, .int .i64 a, .int .i64 b, byTickV] w fun e w' =>
      e = .returned (.tuple #[]) ∧ ∃ d', Turned a b d0 d d' ∧ SortedA BEv.tick a b d' ∧ SWK enc k w0 blk off d' w' := by
  have mixed := mixedOrders
  have zE : ∀ W, (Go.sizeOf 26).run Tryz.prog W = .ok k W := fun W => by rw [hk]; kernel_rfl
  have hC : Hid (CmpLays Tryz.prog 85 #[] enc k tickCmp blk off d0.size w0) := by rw [he, hk]; exact Lib.hid (byTick_lays _ _ _ _)
  have HR := Lib.hid R0
  have HW := Lib.hid hw
  replace hsz := Lib.hid hsz
  have eg : ∀ args W, (callFunc 85 args).run Tryz.prog W = .ok (.enter 85 args) W := enters_of Tryz.func85 (by kernel_rfl) rfl
  clear hk he R0 hw
  go_enter Tryz.func126, Tryz.ntmps126
  go_wp2_with fail
  go_loopg [8] (b - a) (fun g1 vi wr => ∃ (i : Nat) (dk : Array BEv), vi = .int .i64 i ∧ a < i ∧ i ≤ b + 1 ∧ b + 1 - i ≤ g1 + 1 ∧ Hid (Turned a b d0 d dk) ∧ Hid (SortedA BEv.tick a i dk) ∧ Hid (SWK enc k w0 blk off dk wr))
  case atStart => exact ⟨a + 1, d, by go_num, by omega, by omega, by omega, Lib.hid (Turned.refl hsz.out), Lib.hid (fun p q h1 h2 h3 => by omega), HW⟩
  case round =>
    obtain ⟨i, dk, rfl, hai, hib, hg1, hT, hS, hW⟩ := hrel
    by_cases hlt : i < b
    · have hltz : (i : Int) < (b : Int) := by omega
      go_wp2_with fail
      go_loopg [9] i (fun g2 vj wr2 => ∃ (j : Nat) (dj : Array BEv), vj = .int .i64 j ∧ a ≤ j ∧ j ≤ i ∧ j ≤ g2 ∧ Hid (Turned a b d0 d dj) ∧ Hid (InsI BEv.tick a i j dj) ∧ Hid (SWK enc k w0 blk off dj wr2))
      case atStart => exact ⟨i, dk, rfl, by omega, Nat.le_refl _, Nat.le_refl _, hT, Lib.hid (InsI.start hS.out), hW⟩
      case round =>
        obtain ⟨j, dj, rfl, haj, hji, hg2, hT2, hI, hW2⟩ := hrel
        have hsz2 := hT2.out.1
        by_cases hja : a < j
        · obtain ⟨jp, rfl⟩ : ∃ jp, j = jp + 1 := ⟨j - 1, by omega⟩
          have hwp : IntKind.i64.wrap (jp : Int) = (jp : Int) := by rw [IntKind.wrap_i64]; omega
          have jz : (jp : Int) + 1 < (d0.size : Int) := by omega
          have jz1 : (jp : Int) < (d0.size : Int) := by omega
          have hjaz' : (a : Int) < (jp : Int) + 1 := by omega
          have p0 : (0 : Int) ≤ (jp : Int) + 1 := by omega
          have e0 : ((jp : Int) + 1).toNat = jp + 1 := by omega
          have lj := fun n os => hW2.out.ld HR.out hsz2 Tryz.prog (jp + 1) (by omega) n os
          have lp := fun n os => hW2.out.ld HR.out hsz2 Tryz.prog jp (by omega) n os
          have hcg := fun n os => hW2.out.cmp hC.out hsz2 dj[jp + 1]! dj[jp]! n os
          have HG := Lib.hid fun n os => hW2.out.grown n os
          have HSG := Lib.hid hsz2
          by_cases hlv : dj[jp + 1]!.tick < dj[jp]!.tick
          · have hneg : tickCmp dj[jp + 1]! dj[jp]! < 0 := tickCmp_lt.2 hlv
            have hT3 : Turned a b d0 d (swp dj (jp + 1) jp) := hT2.out.trans ⟨(size_swp _ _ _).trans hsz2, (sameBy_adj dj jp (by omega) hlv).1, (within_adj dj jp a b (by omega) (by omega) (by omega)).1⟩
            have hI3 := Lib.hid (InsI.step hI.out hji (by omega) (by omega) hlv)
            replace hT3 := Lib.hid hT3
            clear hsz2 hlv
            generalize hx : dj[jp + 1]! = x at *
            generalize hy : dj[jp]! = y at *
            have HX := Lib.hid hx
            have HY := Lib.hid hy
            clear hx hy
            generalize hcv : tickCmp x y = c at *
            clear hcv
            go_wp2_with fail
            go_quiet_grown (first | (go_at_fn 85; refine Calls.grown_of (hcg _ _)))
            go_wp2_with fail
            have hg := HG.out nq osq
            clear lj lp hcg
            generalize grow (wr.drewN nq) osq = wq at hg ⊢
            have ld1 := hg.ld1 HR.out HSG.out Tryz.prog (jp + 1) (by have := HSG.out; omega)
            have ld2 := hg.ld1 HR.out HSG.out Tryz.prog jp (by have := HSG.out; omega)
            have s1 := hg.st1 HR.out HSG.out Tryz.prog (jp + 1) (by have := HSG.out; omega) y
            have s2 := hg.st2 HR.out HSG.out Tryz.prog (jp + 1) jp (by have := HSG.out; omega) (by have := HSG.out; omega) y x
            have SWP := hg.swapped HR.out (jp + 1) jp (by have := HSG.out; omega) (by have := HSG.out; omega)
            rw [HX.out, HY.out] at SWP
            rw [HX.out] at ld1
            rw [HY.out] at ld2
            have lx := HR.out.hk x
            have ly := HR.out.hk y
            replace SWP := Lib.hid SWP
            clear hg
            go_region
            all_goals go_wp2_with fail
            all_goals
              go_roundg jp
              case measure => omega
              case rel => exact ⟨jp, _, by first | rfl | go_num, by omega, by omega, Nat.le_refl _, hT3, hI3, SWP⟩
          · have hneg : ¬ tickCmp dj[jp + 1]! dj[jp]! < 0 := fun h => hlv (tickCmp_lt.1 h)
            have hS3 := Lib.hid (InsI.stop hI.out hji (.inr (by simp only [Nat.add_sub_cancel]; omega)))
            clear hsz2 hlv
            generalize hx : dj[jp + 1]! = x at *
            generalize hy : dj[jp]! = y at *
            clear hx hy
            generalize hcv : tickCmp x y = c at *
            clear hcv
            go_wp2_with fail
            go_quiet_grown (first | (go_at_fn 85; refine Calls.grown_of (hcg _ _)))
            have hg := Lib.hid (HG.out nq osq)
            clear lj lp hcg
            go_wp2_with fail
            go_roundg (b - (i + 1))
            case measure => omega
            case rel => exact ⟨i + 1, dj, by go_num, by omega, by omega, by omega, hT2, hS3, hg⟩
        · have hjaz : decide ((j : Int) > (a : Int)) = false := decide_eq_false (by omega)
          have hjaz' : ¬ (a : Int) < (j : Int) := by omega
          have hS3 := Lib.hid (InsI.stop hI.out hji (.inl (by omega)))
          have hdr := Lib.hid hW2.out.drew
          clear hsz2
          go_wp2_with fail
          go_region
          all_goals go_wp2_with fail
          all_goals
            go_roundg (b - (i + 1))
            case measure => omega
            case rel => exact ⟨i + 1, dj, by go_num, by omega, by omega, by omega, hT2, hS3, hdr⟩
    · have hltz : ¬ (i : Int) < (b : Int) := by omega
      go_wp2_with fail
      go_end0
      exact ⟨rfl, dk, hT.out, fun p q h1 h2 h3 => hS.out p q h1 h2 (by omega), hW.out⟩
end Go.Proofs.YtnjiomggbafkmaaGreatDoor
