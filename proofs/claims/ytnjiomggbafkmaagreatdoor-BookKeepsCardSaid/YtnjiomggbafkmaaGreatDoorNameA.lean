/- Names: package rubrictext's tests of bytes and words. -/
import Derived.Test.YtnjiomggbafkmaaGreatDoorBookP
import Derived.Test.YtnjiomggbafkmaaGreatDoorMem
import Derived.Test.YtnjiomggbafkmaaGreatDoorProg
import Derived.WalkSmall
import Derived.LoopN
import Derived.Deep.QuietTactic
import Derived.BigQuiet
namespace Go.Proofs.YtnjiomggbafkmaaGreatDoor
open Go.RowKit Go.Lib

theorem ret_bool {a b : Bool} (h : a = b) : Ending.returned (.bool a) = .returned (.bool b) := by rw [h]

theorem letter_walk (c : UInt8) (w : World) : Calls Tryz.prog 168 #[.int .u8 (c.toNat : Int)] w fun e w' => e = .returned (.bool (letterB c)) ∧ w = w' := by
  by_cases h1 : (97 : Int) ≤ (c.toNat : Int)
  · by_cases h2 : (c.toNat : Int) ≤ 122
    · have H := Lib.hid (show letterB c = true by simp [letterB]; omega)
      go_enter Tryz.func168, Tryz.ntmps168
      go_wp2_with fail
      go_ret
      exact ⟨by rw [H.out]; rfl, rfl⟩
    · have H := Lib.hid (show letterB c = false by simp [letterB]; omega)
      go_enter Tryz.func168, Tryz.ntmps168
      go_wp2_with fail
      go_ret
      exact ⟨by rw [H.out]; rfl, rfl⟩
  · have H := Lib.hid (show letterB c = false by simp [letterB]; omega)
    go_enter Tryz.func168, Tryz.ntmps168
    go_wp2_with fail
    go_ret
    exact ⟨by rw [H.out]; rfl, rfl⟩

def digitB (c : UInt8) : Bool := decide (48 ≤ c.toNat) && decide (c.toNat ≤ 57)
theorem digit_walkB (c : UInt8) (w : World) : Calls Tryz.prog 190 #[.int .u8 (c.toNat : Int)] w fun e w' => e = .returned (.bool (digitB c)) ∧ w = w' := by
  by_cases h1 : (48 : Int) ≤ (c.toNat : Int)
  · by_cases h2 : (c.toNat : Int) ≤ 57
    · have H := Lib.hid (show digitB c = true by simp [digitB]; omega)
      go_enter Tryz.func190, Tryz.ntmps190
      go_wp2_with fail
      go_ret
      exact ⟨by rw [H.out]; rfl, rfl⟩
    · have H := Lib.hid (show digitB c = false by simp [digitB]; omega)
      go_enter Tryz.func190, Tryz.ntmps190
      go_wp2_with fail
      go_ret
      exact ⟨by rw [H.out]; rfl, rfl⟩
  · have H := Lib.hid (show digitB c = false by simp [digitB]; omega)
    go_enter Tryz.func190, Tryz.ntmps190
    go_wp2_with fail
    go_ret
    exact ⟨by rw [H.out]; rfl, rfl⟩

theorem inName_walk (c : UInt8) (w : World) : Calls Tryz.prog 170 #[.int .u8 (c.toNat : Int)] w fun e w' => e = .returned (.bool (insideB c)) ∧ w = w' := by
  have hspec : insideB c = (letterB c || digitB c || decide (c.toNat = 95)) := rfl
  cases h1 : letterB c with
  | true =>
    have H := Lib.hid (show insideB c = true by rw [hspec, h1]; rfl)
    have C := letter_walk c w
    rw [h1] at C
    replace C := Lib.hid C
    clear hspec h1
    go_enter Tryz.func170, Tryz.ntmps170
    go_wp2_with fail
    refine C.out.mono ?_
    rintro e w' ⟨rfl, rfl⟩
    go_wp2_with fail
    go_ret
    exact ⟨by rw [H.out]; rfl, rfl⟩
  | false =>
    have C := letter_walk c w
    rw [h1] at C
    replace C := Lib.hid C
    cases h2 : digitB c with
    | true =>
      have H := Lib.hid (show insideB c = true by rw [hspec, h1, h2]; rfl)
      have D := digit_walkB c w
      rw [h2] at D
      replace D := Lib.hid D
      clear hspec h1 h2
      go_enter Tryz.func170, Tryz.ntmps170
      go_wp2_with fail
      refine C.out.mono ?_
      rintro e w' ⟨rfl, rfl⟩
      go_wp2_with fail
      refine D.out.mono ?_
      rintro e w' ⟨rfl, rfl⟩
      go_wp2_with fail
      go_ret
      exact ⟨by rw [H.out]; rfl, rfl⟩
    | false =>
      have D := digit_walkB c w
      rw [h2] at D
      replace D := Lib.hid D
      have H := Lib.hid (show insideB c = ((c.toNat : Int) == 95) by
        rw [hspec, h1, h2]
        simp only [Bool.false_or]
        rw [Bool.eq_iff_iff, decide_eq_true_eq, beq_iff_eq]; omega)
      clear hspec h1 h2
      go_enter Tryz.func170, Tryz.ntmps170
      go_wp2_with fail
      refine C.out.mono ?_
      rintro e w' ⟨rfl, rfl⟩
      go_wp2_with fail
      refine D.out.mono ?_
      rintro e w' ⟨rfl, rfl⟩
      go_wp2_with fail
      go_ret
      exact ⟨by rw [H.out]; rfl, rfl⟩

theorem all_take_step (l : List UInt8) (k : Nat) (h : k < l.length) (ht : (l.take k).all insideB = true) (hk : insideB l[k] = true) : (l.take (k + 1)).all insideB = true := by
  rw [take_snoc' l k h, List.all_append, ht]; simp [hk]

theorem front_len (l : List UInt8) : ∃ n, n ≤ l.length ∧ (l.take n).all insideB = true ∧ ∀ h : n < l.length, insideB l[n] = false := by
  induction l with
  | nil => exact ⟨0, by simp, rfl, fun h => by cases h⟩
  | cons c l ih =>
    cases hc : insideB c with
    | false => exact ⟨0, by simp, rfl, fun _ => hc⟩
    | true =>
      obtain ⟨n, h1, h2, h3⟩ := ih
      exact ⟨n + 1, by simp; exact h1, by simp only [List.take_succ_cons, List.all_cons, hc, h2, Bool.and_self], fun h => h3 (by simpa using h)⟩
/-- run with inName: all bytes, or fewer. -/
theorem run_walk (l : List UInt8) (w : World) (hl : l.length ≤ 9223372036854775806) : ∃ n : Nat, (n = l.length ↔ l.all insideB = true) ∧ n ≤ l.length ∧
    Calls Tryz.prog 169 #[.string (str l), .func (.func 170) #[] #[]] w fun e w' => e = .returned (.int .i64 (n : Int)) ∧ w = w' := by
  obtain ⟨n, hn, hall, hstop⟩ := front_len l
  refine ⟨n, ⟨fun e => by rw [e] at hall; rwa [List.take_length] at hall, fun h => ?_⟩, hn, ?_⟩
  · refine Nat.le_antisymm hn (Nat.le_of_not_lt fun hlt => ?_)
    have := hstop hlt
    rw [List.all_eq_true] at h
    rw [h _ (List.getElem_mem hlt)] at this
    cases this
  have hz : (str l).size = l.length := str_size l
  have HA : ∀ k (h : k < l.length), k < n → insideB l[k] = true := fun k h hk => by
    rw [List.all_eq_true] at hall
    refine hall _ ?_
    rw [List.mem_take_iff_getElem]
    exact ⟨k, by omega, rfl⟩
  replace HA := Lib.hid HA
  replace hstop := Lib.hid hstop
  clear hall
  go_enter Tryz.func169, Tryz.ntmps169
  go_wp2_with fail
  go_loop [5] (fun v5 => ∃ k : Nat, k ≤ n ∧ v5 = .int .i64 k) (fun i => n - (RowKit.intOf i).toNat)
  case atStart => exact ⟨0, Nat.zero_le _, rfl⟩
  case round =>
    obtain ⟨k, hk, rfl⟩ := hrel
    by_cases hlt : k < l.length
    · have hget : (str l)[k]'(by rw [hz]; exact hlt) = l[k] := by rw [← bs_get]; simp [bs_str]
      have C := inName_walk l[k] w
      by_cases hkn : k < n
      · rw [HA.out k hlt hkn] at C
        replace C := Lib.hid C
        go_wp2_with fail
        refine C.out.mono ?_
        rintro e w' ⟨rfl, rfl⟩
        go_wp2_with fail
        refine ⟨⟨k + 1, by omega, by simp⟩, by simp [RowKit.intOf]; omega⟩
      · obtain rfl : k = n := by omega
        rw [hstop.out hlt] at C
        replace C := Lib.hid C
        go_wp2_with fail
        refine C.out.mono ?_
        rintro e w' ⟨rfl, rfl⟩
        go_wp2_with fail
        go_ret
        exact ⟨rfl, rfl⟩
    · obtain rfl : k = n := by omega
      go_wp2_with fail
      go_ret
      exact ⟨rfl, rfl⟩
end Go.Proofs.YtnjiomggbafkmaaGreatDoor
