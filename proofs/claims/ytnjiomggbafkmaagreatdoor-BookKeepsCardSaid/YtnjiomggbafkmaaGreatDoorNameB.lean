/- Names: package rubrictext's name, and book's isName. -/
import Derived.Test.YtnjiomggbafkmaaGreatDoorNameA
import Derived.KernelRfl
namespace Go.Proofs.YtnjiomggbafkmaaGreatDoor
open Go.RowKit Go.Lib

set_option maxHeartbeats 1000000 in
set_option maxRecDepth 100000 in
theorem indexStr_walk (b off c : Nat) (ps : List (List UInt8)) (s : List UInt8) (w : World) (h1 : StrsAt w b off ps) (hm : ps.length ≤ 1000000) : ∃ r : Int, (0 ≤ r ↔ s ∈ ps) ∧
    Calls Tryz.prog 191 #[.slice (some ⟨b, off, none⟩) ps.length c, .string (str s)] w fun e w' => e = .returned (.int .i64 r) ∧ w = w' := by
  obtain ⟨n, hn, hne, hat⟩ : ∃ n, n ≤ ps.length ∧ (∀ k (h : k < ps.length), k < n → ps[k] ≠ s) ∧ ∀ h : n < ps.length, ps[n] = s := by
    clear h1 hm
    induction ps with
    | nil => exact ⟨0, by simp, fun k h => by (cases h), fun h => by cases h⟩
    | cons p ps ih =>
      by_cases hp : p = s
      · exact ⟨0, by simp, fun k _ h => by (cases h), fun _ => hp⟩
      · obtain ⟨n, h1, h2, h3⟩ := ih
        refine ⟨n + 1, by simpa using h1, fun k h hk => ?_, fun h => h3 (by simpa using h)⟩
        cases k with
        | zero => exact hp
        | succ k => exact h2 k (by simpa using h) (by omega)
  refine ⟨if n < ps.length then n else -1, ?_, ?_⟩
  · constructor
    · intro h
      by_cases hlt : n < ps.length
      · rw [← hat hlt]; exact List.getElem_mem hlt
      · rw [if_neg hlt] at h; omega
    · intro h
      obtain ⟨k, hk, e⟩ := List.getElem_of_mem h
      have : ¬ k < n := fun h' => hne k hk h' e
      rw [if_pos (by omega)]; omega
  obtain ⟨r, hr⟩ : ∃ r : Int, r = if n < ps.length then (n : Int) else -1 := ⟨_, rfl⟩
  rw [← hr]
  replace hr := Lib.hid hr
  have H1 := Lib.hid h1
  replace hne := Lib.hid hne
  replace hat := Lib.hid hat
  clear h1
  go_enter Tryz.func191, Tryz.ntmps191
  go_wp2_with fail
  go_loop [5, 8] (fun _ v8 => ∃ k : Nat, k ≤ n ∧ v8 = .int .i64 k) (fun _ i => n - (RowKit.intOf i).toNat)
  case atStart => exact ⟨0, Nat.zero_le _, rfl⟩
  case round =>
    obtain ⟨k, hk, rfl⟩ := hrel
    by_cases hlt : k < ps.length
    · have hcell := H1.out k hlt
      by_cases hkn : k < n
      · have hx : ((str s).toList == (str ps[k]).toList) = false := by
          rw [beq_eq_false_iff_ne, toList_bs, toList_bs, bs_str, bs_str]; exact fun e => hne.out k hlt hkn e.symm
        go_wp2_with fail
        refine ⟨⟨k + 1, by omega, by simp⟩, by simp [RowKit.intOf]; omega⟩
      · obtain rfl : k = n := by omega
        have hx : ((str s).toList == (str ps[k]).toList) = true := by
          rw [beq_iff_eq, hat.out hlt]
        have hif := Lib.hid (show r = k from hr.out.trans (if_pos hlt))
        go_wp2_with fail
        go_ret
        exact ⟨by rw [hif.out]; rfl, rfl⟩
    · have hif := Lib.hid (show r = -1 from hr.out.trans (if_neg (by omega)))
      go_wp2_with fail
      go_ret
      exact ⟨by rw [hif.out]; rfl, rfl⟩

set_option maxHeartbeats 1000000 in
theorem containsStr_walk (b off c : Nat) (ps : List (List UInt8)) (s : List UInt8) (w : World) (h1 : StrsAt w b off ps) (hm : ps.length ≤ 1000000) :
    Calls Tryz.prog 171 #[.slice (some ⟨b, off, none⟩) ps.length c, .string (str s)] w fun e w' => e = .returned (.bool (decide (s ∈ ps))) ∧ w = w' := by
  obtain ⟨r, hr, C⟩ := indexStr_walk b off c ps s w h1 hm
  replace C := Lib.hid C
  have H := Lib.hid (show decide (s ∈ ps) = decide (0 ≤ r) by simp only [hr])
  clear h1 hr
  go_enter Tryz.func171, Tryz.ntmps171
  go_wp2_with fail
  refine C.out.mono ?_
  rintro e w' ⟨rfl, rfl⟩
  go_wp2_with fail
  go_ret
  exact ⟨by rw [H.out]; rfl, rfl⟩

theorem keywords_walk (w : World) : Calls Tryz.prog 172 #[] w fun e w' => e = .returned (.slice (some ⟨w.heap.size, 0, none⟩) keywordsL.length 13) ∧ StrsAt w' w.heap.size 0 keywordsL ∧ Below w.heap.size w w' := by
  go_enter Tryz.func172, Tryz.ntmps172
  go_wp2_with fail
  go_ret
  exact ⟨rfl, StrsAt.lit w 9 keywordsL, (Below.refl _ _).alloc (Nat.le_refl _) _⟩

set_option maxHeartbeats 1000000 in
set_option maxRecDepth 100000 in
theorem name_walk (s : List UInt8) (w : World) (hs : s.length ≤ 9223372036854775806) :
    Calls Tryz.prog 141 #[.string (str s)] w fun e w' => e = .returned (.bool (nameB s)) ∧ Below w.heap.size w w' := by
  have hz : (str s).size = s.length := str_size s
  cases s with
  | nil =>
    have hemp : (str []).toList = [] := by rw [toList_bs, bs_str]
    go_enter Tryz.func141, Tryz.ntmps141
    go_wp2_with fail
    go_ret
    exact ⟨rfl, Below.refl _ _⟩
  | cons c r =>
    have hspec : nameB (c :: r) = (letterB c && decide ((c :: r).length ≤ 16) && (c :: r).all insideB && !(keywordsL.contains (c :: r))) := rfl
    have hemp : (str (c :: r)).toList.isEmpty = false := by rw [toList_bs, bs_str]; rfl
    have hl : 0 < (c :: r).length := by simp
    by_cases h16 : (c :: r).length ≤ 16
    · have hget : (str (c :: r))[0]'(by rw [hz]; exact hl) = c := by rw [← bs_get]; simp [bs_str]
      have C := letter_walk c w
      cases hc : letterB c with
      | false =>
        have H := Lib.hid (show nameB (c :: r) = false by rw [hspec, hc]; rfl)
        rw [hc] at C
        replace C := Lib.hid C
        clear hspec hc
        generalize hl' : c :: r = l at *
        replace hl' := Lib.hid hl'
        go_enter Tryz.func141, Tryz.ntmps141
        go_wp2_with fail
        refine C.out.mono ?_
        rintro e w' ⟨rfl, rfl⟩
        go_wp2_with fail
        go_ret
        exact ⟨by rw [H.out]; rfl, Below.refl _ _⟩
      | true =>
        rw [hc] at C
        replace C := Lib.hid C
        obtain ⟨n, hn, hnl, D⟩ := run_walk (c :: r) w hs
        replace D := Lib.hid D
        by_cases hall : n = (c :: r).length
        · have hall' := hn.1 hall
          have H := Lib.hid (show nameB (c :: r) = !(decide ((c :: r) ∈ keywordsL)) by
            rw [hspec, hc, hall', decide_eq_true h16]; simp)
          have hnn : ((n : Int) == ((c :: r).length : Int)) = true := by rw [beq_iff_eq, hall]
          clear hspec hc hall hall' hn
          generalize hl' : c :: r = l at *
          replace hl' := Lib.hid hl'
          go_enter Tryz.func141, Tryz.ntmps141
          go_wp2_with fail
          refine C.out.mono ?_
          rintro e w' ⟨rfl, rfl⟩
          go_wp2_with fail
          refine D.out.mono ?_
          rintro e w' ⟨rfl, rfl⟩
          go_wp2_with fail
          refine (keywords_walk w).mono ?_
          rintro e w1 ⟨rfl, hK, hb⟩
          replace hK := Lib.hid hK
          go_wp2_with fail
          refine (containsStr_walk w.heap.size 0 13 keywordsL l w1 hK.out (by decide)).mono ?_
          rintro e w2 ⟨rfl, rfl⟩
          go_wp2_with fail
          go_ret
          exact ⟨by rw [H.out]; rfl, hb⟩
        · have H := Lib.hid (show nameB (c :: r) = false by
            have : (c :: r).all insideB = false := by
              cases h : (c :: r).all insideB with
              | false => rfl
              | true => exact absurd (hn.2 h) hall
            rw [hspec, this]; simp)
          have hnn : ((n : Int) == ((c :: r).length : Int)) = false := by rw [beq_eq_false_iff_ne]; omega
          clear hspec hc hall hn
          generalize hl' : c :: r = l at *
          replace hl' := Lib.hid hl'
          go_enter Tryz.func141, Tryz.ntmps141
          go_wp2_with fail
          refine C.out.mono ?_
          rintro e w' ⟨rfl, rfl⟩
          go_wp2_with fail
          refine D.out.mono ?_
          rintro e w' ⟨rfl, rfl⟩
          go_wp2_with fail
          go_ret
          exact ⟨by rw [H.out]; rfl, Below.refl _ _⟩
    · have H := Lib.hid (show nameB (c :: r) = false by rw [hspec, decide_eq_false h16]; simp)
      clear hspec
      generalize hl' : c :: r = l at *
      replace hl' := Lib.hid hl'
      go_enter Tryz.func141, Tryz.ntmps141
      go_wp2_with fail
      go_ret
      exact ⟨by rw [H.out]; rfl, Below.refl _ _⟩
end Go.Proofs.YtnjiomggbafkmaaGreatDoor
