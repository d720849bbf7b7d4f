/- slices.SortStableFunc at events: the rotation. -/
import Derived.Test.YtnjiomggbafkmaaGreatDoorSortW
namespace Go.Proofs.YtnjiomggbafkmaaGreatDoor
open Go.RowKit Go.Lib Go.Sort

set_option maxHeartbeats 4000000 in
set_option maxRecDepth 1000000 in
theorem rotate_k (k : Nat) (hk : k = 9) (enc : BEv → List Value) (w0 : World) (blk off cap : Nat) (d0 : Array BEv) (R0 : RowK enc k w0 blk off d0) (P U V R : List BEv) (d : Array BEv) (a m b : Nat) (hsz : d.size = d0.size) (hd : d.toList = P ++ (U ++ (V ++ R))) (ha : P.length = a) (hU : U.length = m - a) (hV : V.length = b - m)
    (h1 : a < m) (h2 : m < b) (hbig : d.size < 4611686018427387904) (w : World) (hw : SWK enc k w0 blk off d w) :
    Calls Tryz.prog 154 #[.slice (some ⟨blk, off, none⟩) d0.size cap, .int .i64 a, .int .i64 m, .int .i64 b, byTickV] w fun e w' =>
      e = .returned (.tuple #[]) ∧ ∃ d', d'.size = d0.size ∧ d'.toList = P ++ (V ++ (U ++ R)) ∧ SWK enc k w0 blk off d' w' := by
  have HR := Lib.hid R0
  have hlen : d0.size = b + R.length := by rw [← hsz, ← Array.length_toList, hd]; simp; omega
  have HD := Lib.hid hd
  have HW := Lib.hid hw
  replace hsz := Lib.hid hsz
  have HU := Lib.hid hU
  have HV := Lib.hid hV
  have HA := Lib.hid ha
  have hKK := Lib.hid hk
  have hn0 : b ≤ d0.size := by omega
  have hn2 : d0.size < 4611686018427387904 := by rw [← hsz.out]; exact hbig
  obtain ⟨T, hT⟩ : ∃ T, T = P ++ (V ++ (U ++ R)) := ⟨_, rfl⟩
  rw [← hT]
  replace hT := Lib.hid hT
  clear hd hw R0 hU hV ha hlen hbig hk
  go_enter Tryz.func154, Tryz.ntmps154
  go_wp2_with fail
  go_loopw [10, 11] (fun v10 v11 wr => ∃ (i j p : Nat) (P' U' V' R' : List BEv) (dk : Array BEv), v10 = .int .i64 i ∧ v11 = .int .i64 j ∧ 0 < i ∧ 0 < j ∧ i ≤ m - a ∧ j ≤ b - m ∧ Hid (m = p + i) ∧ Hid (P'.length = p) ∧ Hid (U'.length = i) ∧ Hid (V'.length = j) ∧ Hid (dk.size = d0.size) ∧ Hid (dk.toList = P' ++ (U' ++ (V' ++ R'))) ∧ Hid (P' ++ (V' ++ (U' ++ R')) = T) ∧ Hid (SWK enc k w0 blk off dk wr)) (fun v v' _ => (RowKit.intOf v).toNat + (RowKit.intOf v').toNat)
  case atStart => exact ⟨m - a, b - m, a, P, U, V, R, d, by congr 1; omega, by congr 1; omega, by omega, by omega, Nat.le_refl _, Nat.le_refl _, Lib.hid (by omega), HA, HU, HV, hsz, HD, Lib.hid hT.out.symm, HW⟩
  case round =>
    obtain ⟨i, j, p, P', U', V', R', dk, rfl, rfl, hi0, hj0, hi, hj, hp, hP, hU, hV, hs, hl, ht, hW⟩ := hrel
    have hbig : dk.size < 4611686018427387904 := by rw [hs.out]; exact hn2
    have hp' := hp.out
    have e1 : (m : Int) - (i : Int) = (p : Int) := by omega
    by_cases hij : i = j
    · have b0 : ((i : Int) != (j : Int)) = false := by rw [bne_eq_false_iff_eq]; omega
      subst hij
      have C := fun W h => swapRange_k k hKK.out enc w0 blk off cap d0 HR.out P' U' [] V' R' dk p m i hs.out (by rw [hl.out]; rfl) hP.out hU.out hV.out (by simp; omega) hbig W h
      replace C := Lib.hid (C _ hW.out)
      clear hp' hbig
      go_wp2_with fail
      refine C.out.mono ?_
      rintro e w1 ⟨rfl, d', h3, h4, h5⟩
      go_wp2_with fail
      go_end0
      exact ⟨rfl, d', h3, by rw [h4, ← ht.out]; rfl, h5⟩
    · have b0 : ((i : Int) != (j : Int)) = true := by rw [bne_iff_ne]; omega
      by_cases hgt : j < i
      · have b1 : decide ((j : Int) < (i : Int)) = true := by simp; exact hgt
        have l1 : (U'.take j).length = j := by rw [List.length_take, hU.out]; omega
        have l2 : (U'.drop j).length = i - j := by rw [List.length_drop, hU.out]
        have hdl : dk.toList = P' ++ (U'.take j ++ (U'.drop j ++ (V' ++ R'))) := by rw [hl.out, ← List.append_assoc (U'.take j), List.take_append_drop]
        have C := fun W h => swapRange_k k hKK.out enc w0 blk off cap d0 HR.out P' (U'.take j) (U'.drop j) V' R' dk p m j hs.out hdl hP.out l1 hV.out (by rw [l2]; omega) hbig W h
        replace C := Lib.hid (C _ hW.out)
        have hnx : (P' ++ V') ++ (U'.take j ++ (U'.drop j ++ R')) = T := by rw [← ht.out, ← List.append_assoc (U'.take j), List.take_append_drop, List.append_assoc]
        replace hnx := Lib.hid hnx
        replace l1 := Lib.hid l1
        replace l2 := Lib.hid l2
        clear hp' hbig hdl
        have e5 : (i : Int) - (j : Int) = ((i - j : Nat) : Int) := by omega
        replace e5 := Lib.hid e5
        go_wp2_with fail
        refine C.out.mono ?_
        rintro e w1 ⟨rfl, d', h3, h4, h5⟩
        replace h3 := Lib.hid h3
        replace h4 := Lib.hid h4
        replace h5 := Lib.hid h5
        go_wp2_with fail
        have hp' := hp.out
        refine ⟨⟨i - j, j, p + j, P' ++ V', U'.drop j, U'.take j, R', d', by rw [e5.out], rfl, by omega, hj0, by omega, hj, Lib.hid (by omega), Lib.hid (by simp [hP.out, hV.out]), l2, l1, h3, Lib.hid ?_, hnx, h5⟩, ?_⟩
        · rw [h4.out]; simp only [List.append_assoc]
        · rw [e5.out]; simp only [RowKit.intOf, Int.toNat_natCast]; omega
      · have b1 : decide ((j : Int) < (i : Int)) = false := by simp; omega
        have l1 : (V'.take (j - i)).length = j - i := by rw [List.length_take, hV.out]; omega
        have l2 : (V'.drop (j - i)).length = i := by rw [List.length_drop, hV.out]; omega
        obtain ⟨q, hq⟩ : ∃ q, q = m + (j - i) := ⟨_, rfl⟩
        have e2 : (m : Int) + (j : Int) - (i : Int) = (q : Int) := by omega
        have hdl : dk.toList = P' ++ (U' ++ (V'.take (j - i) ++ (V'.drop (j - i) ++ R'))) := by rw [hl.out, ← List.append_assoc (V'.take (j - i)), List.take_append_drop]
        have C := fun W h => swapRange_k k hKK.out enc w0 blk off cap d0 HR.out P' U' (V'.take (j - i)) (V'.drop (j - i)) R' dk p q i hs.out hdl hP.out hU.out l2 (by rw [l1]; omega) hbig W h
        replace C := Lib.hid (C _ hW.out)
        have hnx : P' ++ (V'.take (j - i) ++ (V'.drop (j - i) ++ (U' ++ R'))) = T := by rw [← ht.out, ← List.append_assoc (V'.take (j - i)), List.take_append_drop]
        replace hnx := Lib.hid hnx
        replace l1 := Lib.hid l1
        replace l2 := Lib.hid l2
        replace hq := Lib.hid hq
        clear hp' hbig hdl
        have e5 : (j : Int) - (i : Int) = ((j - i : Nat) : Int) := by omega
        replace e5 := Lib.hid e5
        go_wp2_with fail
        refine C.out.mono ?_
        rintro e w1 ⟨rfl, d', h3, h4, h5⟩
        replace h3 := Lib.hid h3
        replace h4 := Lib.hid h4
        replace h5 := Lib.hid h5
        go_wp2_with fail
        refine ⟨⟨i, j - i, p, P', V'.drop (j - i), V'.take (j - i), U' ++ R', d', rfl, by rw [e5.out], hi0, by omega, hi, by omega, hp, hP, l2, l1, h3, h4, hnx, h5⟩, ?_⟩
        rw [e5.out]; simp only [RowKit.intOf, Int.toNat_natCast]; omega
end Go.Proofs.YtnjiomggbafkmaaGreatDoor
