/- slices.SortStableFunc at events. -/
import Derived.Test.YtnjiomggbafkmaaGreatDoorSortS
namespace Go.Proofs.YtnjiomggbafkmaaGreatDoor
open Go.RowKit Go.Lib Go.Sort

/-- The blocks of s elements that begin ahead of a place are sorted. -/
def BlocksTo (s n t : Nat) (d : Array BEv) : Prop := ∀ q, q * s < t → SortedA BEv.tick (q * s) (min ((q + 1) * s) n) d
/-- .. those that begin from a place on. -/
def BlocksFrom (s n t : Nat) (d : Array BEv) : Prop := ∀ q, t ≤ q * s → SortedA BEv.tick (q * s) (min ((q + 1) * s) n) d
theorem BlocksTo.next {s n q b : Nat} {d d' : Array BEv} (h : BlocksTo s n (q * s) d) (hs : 0 < s) (hw : Within (q * s) b d d') (hn : SortedA BEv.tick (q * s) b d') (hb : b = min ((q + 1) * s) n) : BlocksTo s n ((q + 1) * s) d' := by
  intro p hp
  have hpq : p ≤ q := Nat.le_of_lt_succ (Nat.lt_of_mul_lt_mul_right hp)
  rcases Nat.lt_or_eq_of_le hpq with h1 | rfl
  · have h2 : (p + 1) * s ≤ q * s := Nat.mul_le_mul_right s h1
    refine (h p ?_).outside hw (.inl (by omega))
    have : (p + 1) * s = p * s + s := Nat.succ_mul p s
    omega
  · rw [← hb]; exact hn
theorem BlocksTo.all {s n t : Nat} {d : Array BEv} (h : BlocksTo s n t d) (hn : n ≤ t) : BlocksFrom s n 0 d := by
  intro q _ i j h1 h2 h3
  exact h q (by omega) i j h1 h2 h3

/-- How a sort of the whole ends. -/
def Sorted0 (k : Nat) (enc : BEv → List Value) (w0 : World) (blk off : Nat) (d0 d : Array BEv) (e : Ending) (w' : World) : Prop :=
  e = .returned (.tuple #[]) ∧ ∃ d', d'.size = d0.size ∧ StableBy BEv.tick d.toList d'.toList ∧ SWK enc k w0 blk off d' w'

set_option maxHeartbeats 4000000 in
set_option maxRecDepth 1000000 in
theorem stable_k (k : Nat) (hk : k = 9) (enc : BEv → List Value) (he : enc = evCs) (w0 : World) (blk off cap n : Nat) (d0 : Array BEv) (hn : d0.size = n) (R0 : RowK enc k w0 blk off d0) (hbig : n < 1000000000000) (d : Array BEv) (w : World) (hsz : d.size = n) (hw : SWK enc k w0 blk off d w) :
    Calls Tryz.prog 105 #[.slice (some ⟨blk, off, none⟩) n cap, .int .i64 n, byTickV] w (Sorted0 k enc w0 blk off d0 d) := by
  have INS : Hid (∀ (dk : Array BEv) (a b : Nat) (W : World), dk.size = d0.size → a ≤ b → b ≤ n → SWK enc k w0 blk off dk W → Calls Tryz.prog 126 #[.slice (some ⟨blk, off, none⟩) n cap, .int .i64 a, .int .i64 b, byTickV] W (Merged k enc w0 blk off a b d0 dk)) := by
    refine Lib.hid fun dk a b W h1 h2 h3 hW => ?_
    have := insertion_k k hk enc he w0 blk off cap d0 R0 dk a b h1 h2 (by omega) (by omega) W hW
    rw [hn] at this
    exact this
  have MRG : Hid (∀ (dk : Array BEv) (a m b : Nat) (W : World), dk.size = d0.size → a < m → m < b → b ≤ n → SortedA BEv.tick a m dk → SortedA BEv.tick m b dk → SWK enc k w0 blk off dk W → Calls Tryz.prog 127 #[.slice (some ⟨blk, off, none⟩) n cap, .int .i64 a, .int .i64 m, .int .i64 b, byTickV] W (Merged k enc w0 blk off a b d0 dk)) := by
    refine Lib.hid fun dk a m b W h1 h2 h3 h4 h5 h6 hW => ?_
    have := symMerge_k k hk enc he w0 blk off cap d0 R0 (by omega) (b - a) dk a m b W (Nat.le_refl _) h1 h2 h3 (by omega) h5 h6 hW
    rw [hn] at this
    exact this
  have HN := Lib.hid hn
  have HW := Lib.hid hw
  replace hsz := Lib.hid hsz
  clear hk he R0 hw hn
  go_enter Tryz.func105, Tryz.ntmps105
  go_wp2_with fail
  go_loopw [7, 8] (fun v7 v8 wr => ∃ (q t b : Nat) (dk : Array BEv), v7 = .int .i64 (t : Int) ∧ v8 = .int .i64 (b : Int) ∧ Hid (t = q * 20) ∧ Hid (b = t + 20) ∧ t ≤ n ∧ t < b ∧ b ≤ t + 20 ∧ Hid (Turned 0 n d0 d dk) ∧ Hid (BlocksTo 20 n t dk) ∧ Hid (SWK enc k w0 blk off dk wr)) (fun v _ _ => n - (RowKit.intOf v).toNat)
  case atStart => exact ⟨0, 0, 20, d, rfl, rfl, Lib.hid rfl, Lib.hid rfl, by omega, by omega, by omega, Lib.hid (Turned.refl (hsz.out.trans HN.out.symm)), Lib.hid (fun q h => by omega), HW⟩
  case round =>
    obtain ⟨q, t, b, dk, rfl, rfl, ht, hb, htn, htb, hbt, hT, hB, hW⟩ := hrel
    by_cases hlt : b ≤ n
    · have C := Lib.hid (INS.out dk t b _ hT.out.1 (by omega) hlt hW.out)
      go_wp2_with fail
      refine C.out.mono ?_
      rintro e w1 ⟨rfl, d', h3, h4, h5⟩
      have hB' := Lib.hid (show BlocksTo 20 n b d' by
        have e1 := ht.out
        have e2 := hb.out
        have := BlocksTo.next (q := q) (b := b) (by rw [← e1]; exact hB.out) (by omega) (by rw [← e1]; exact h3.2.2) (by rw [← e1]; exact h4) (by omega)
        rwa [show (q + 1) * 20 = b by omega] at this)
      have hT' := Lib.hid (hT.out.trans (h3.mono (Nat.zero_le _) hlt))
      replace h5 := Lib.hid h5
      clear h3 h4
      go_wp2_with fail
      refine ⟨⟨q + 1, b, b + 20, d', rfl, by congr 1, Lib.hid (by have := ht.out; have := hb.out; omega), Lib.hid rfl, hlt, by omega, by omega, hT', hB', h5⟩, by simp [RowKit.intOf]; omega⟩
    · have C := Lib.hid (INS.out dk t n _ hT.out.1 htn (Nat.le_refl _) hW.out)
      go_wp2_with fail
      refine C.out.mono ?_
      rintro e w1 ⟨rfl, d', h3, h4, h5⟩
      have hB' := Lib.hid (show BlocksFrom 20 n 0 d' by
        have e1 := ht.out
        have e2 := hb.out
        have := BlocksTo.next (q := q) (b := n) (by rw [← e1]; exact hB.out) (by omega) (by rw [← e1]; exact h3.2.2) (by rw [← e1]; exact h4) (by omega)
        exact this.all (by omega))
      have hT' := Lib.hid (hT.out.trans (h3.mono (Nat.zero_le _) (Nat.le_refl _)))
      replace h5 := Lib.hid h5
      clear h3 h4 C hT hB hW ht hb
      go_wp2_with fail
      obtain ⟨wo, hwo⟩ : ∃ wo : World, wo = w1 := ⟨_, rfl⟩
      subst hwo
      go_loopw [6, 7, 8, 9] (fun v6 _ _ _ wr => ∃ (s : Nat) (dk : Array BEv), v6 = .int .i64 (s : Int) ∧ 20 ≤ s ∧ s ≤ 2 * n + 20 ∧ Hid (Turned 0 n d0 d dk) ∧ Hid (BlocksFrom s n 0 dk) ∧ Hid (SWK enc k w0 blk off dk wr)) (fun v _ _ _ _ => n - (RowKit.intOf v).toNat)
      case atStart => exact ⟨20, d', rfl, Nat.le_refl _, by omega, hT', hB', h5⟩
      case round =>
        clear hT' hB' h5 htn htb hbt hlt
        obtain ⟨s, dk, rfl, hs1, hs2, hT, hB, hW⟩ := hrel
        by_cases hlt : s < n
        · go_wp2_with fail
          obtain ⟨wo, hwo⟩ : ∃ wo : World, wo = wr := ⟨_, rfl⟩
          subst hwo
          go_loopw [7, 8] (fun v7 v8 wr => ∃ (q t b : Nat) (dk : Array BEv), v7 = .int .i64 (t : Int) ∧ v8 = .int .i64 (b : Int) ∧ Hid (t = q * (2 * s)) ∧ Hid (b = t + 2 * s) ∧ t ≤ n ∧ t < b ∧ b ≤ t + 2 * s ∧ Hid (Turned 0 n d0 d dk) ∧ Hid (BlocksTo (2 * s) n t dk) ∧ Hid (BlocksFrom s n t dk) ∧ Hid (SWK enc k w0 blk off dk wr)) (fun v _ _ => n - (RowKit.intOf v).toNat)
          case atStart => exact ⟨0, 0, 2 * s, dk, rfl, by congr 1, Lib.hid (by omega), Lib.hid (by omega), by omega, by omega, by omega, hT, Lib.hid (fun q h => by omega), hB, hW⟩
          case round =>
            clear hT hB hW
            obtain ⟨q, t, b, dk, rfl, rfl, ht, hb, htn, htb, hbt, hT, hB, hF, hW⟩ := hrel
            obtain ⟨m, hm⟩ : ∃ m, m = t + s := ⟨_, rfl⟩
            have em : (t : Int) + (s : Int) = (m : Int) := by omega
            have hm' : m ≤ t + s ∧ t + s ≤ m := by omega
            have e2q : t = (2 * q) * s := by rw [ht.out, Nat.mul_comm 2 s, ← Nat.mul_assoc, Nat.mul_comm (q * s) 2, Nat.mul_assoc]
            have e2q1 : m = (2 * q + 1) * s := by rw [Nat.succ_mul, ← e2q, hm]
            have e2q2 : t + 2 * s = (2 * q + 2) * s := by
              have e5 : (2 * q + 2) * s = (2 * q + 1) * s + s := Nat.succ_mul (2 * q + 1) s
              rw [e5, ← e2q1]; omega
            have hS1 : SortedA BEv.tick t (min m n) dk := by
              have := hF.out (2 * q) (by omega)
              rwa [← e2q, ← e2q1] at this
            have hS2 : SortedA BEv.tick m (min (t + 2 * s) n) dk := by
              have := hF.out (2 * q + 1) (by omega)
              rwa [← e2q1, ← e2q2] at this
            have e3 : (q + 1) * (2 * s) = t + 2 * s := by rw [Nat.succ_mul, ← ht.out]
            replace hm := Lib.hid hm
            replace e2q := Lib.hid e2q
            replace e2q1 := Lib.hid e2q1
            replace e2q2 := Lib.hid e2q2
            replace e3 := Lib.hid e3
            replace hS1 := Lib.hid hS1
            replace hS2 := Lib.hid hS2
            by_cases hle : b ≤ n
            · have C := Lib.hid (MRG.out dk t m b _ hT.out.1 (by omega) (by have := hb.out; omega) hle (by have := hS1.out; rwa [Nat.min_eq_left (by have := hb.out; omega)] at this) (by have := hS2.out; rwa [Nat.min_eq_left (by have := hb.out; omega), ← hb.out] at this) hW.out)
              go_wp2_with fail
              refine C.out.mono ?_
              rintro e w1 ⟨rfl, d', h3, h4, h5⟩
              have hB' := Lib.hid (show BlocksTo (2 * s) n b d' by
                have e1 := ht.out
                have e2 := hb.out
                have e4 := e3.out
                have := BlocksTo.next (q := q) (b := b) (by rw [← e1]; exact hB.out) (by omega) (by rw [← e1]; exact h3.2.2) (by rw [← e1]; exact h4) (by omega)
                rwa [e4, ← e2] at this)
              have hF' := Lib.hid (show BlocksFrom s n b d' from fun p hp => (hF.out p (by omega)).outside h3.2.2 (.inr hp))
              have hT' := Lib.hid (hT.out.trans (h3.mono (Nat.zero_le _) hle))
              replace h5 := Lib.hid h5
              clear h3 h4 em
              go_wp2_with fail
              refine ⟨⟨q + 1, b, b + 2 * s, d', rfl, by congr 1, Lib.hid (hb.out.trans e3.out.symm), Lib.hid rfl, hle, by omega, by omega, hT', hB', hF', h5⟩, by simp [RowKit.intOf]; omega⟩
            · by_cases hmn : m < n
              · have C := Lib.hid (MRG.out dk t m n _ hT.out.1 (by omega) hmn (Nat.le_refl _) (by have := hS1.out; rwa [Nat.min_eq_left (by omega)] at this) (by have := hS2.out; rwa [Nat.min_eq_right (by have := hb.out; omega)] at this) hW.out)
                go_wp2_with fail
                refine C.out.mono ?_
                rintro e w1 ⟨rfl, d', h3, h4, h5⟩
                have hB' := Lib.hid (show BlocksFrom (2 * s) n 0 d' by
                  have e1 := ht.out
                  have e2 := hb.out
                  have e4 := e3.out
                  have := BlocksTo.next (q := q) (b := n) (by rw [← e1]; exact hB.out) (by omega) (by rw [← e1]; exact h3.2.2) (by rw [← e1]; exact h4) (by omega)
                  exact this.all (by omega))
                have hT' := Lib.hid (hT.out.trans (h3.mono (Nat.zero_le _) (Nat.le_refl _)))
                replace h5 := Lib.hid h5
                clear h3 h4 em
                go_wp2_with fail
                refine ⟨⟨2 * s, d', by congr 1; omega, by omega, by omega, hT', hB', h5⟩, by simp [RowKit.intOf]; omega⟩
              · have hB' := Lib.hid (show BlocksFrom (2 * s) n 0 dk by
                  have e1 := ht.out
                  have e2 := hb.out
                  have e4 := e3.out
                  have := BlocksTo.next (d' := dk) (q := q) (b := n) (by rw [← e1]; exact hB.out) (by omega) (Within.refl _ _ _) (by rw [← e1]; have := hS1.out; rwa [Nat.min_eq_right (by omega)] at this) (by omega)
                  exact this.all (by omega))
                go_wp2_with fail
                refine ⟨⟨2 * s, dk, by congr 1; omega, by omega, by omega, hT, hB', hW⟩, by simp [RowKit.intOf]; omega⟩
        · have hfin := Lib.hid (show StableBy BEv.tick d.toList dk.toList from sortedA_stable (by
            intro i j h1 h2 h3
            have hz := hT.out.1
            have := HN.out
            exact hB.out 0 (by omega) i j (by omega) h2 (by omega)) hT.out.2.1)
          go_wp2_with fail
          go_end0
          exact ⟨rfl, dk, hT.out.1, hfin.out, hW.out⟩
end Go.Proofs.YtnjiomggbafkmaaGreatDoor
