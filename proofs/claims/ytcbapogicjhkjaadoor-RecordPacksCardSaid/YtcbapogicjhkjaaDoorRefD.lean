/- The reference's decimal numbers and Pack. -/
import Derived.Test.YtcbapogicjhkjaaDoorPlainD
import Derived.Test.YtcbapogicjhkjaaDoorRefA
namespace Go.Proofs.YtcbapogicjhkjaaDoor
open Go.RowKit Go.Lib

theorem decDigits_short (n : Nat) : (decDigits n).length ≤ n + 1 := by
  induction n using Nat.strongRecOn with
  | ind n ih =>
    by_cases h : n < 10
    · rw [decDigits_one h]; simp
    · rw [decDigits_step n h, List.length_append]
      have := ih (n / 10) (by omega)
      simp; omega

/-- A string's length, if it is one. -/
def strLn : Value → Nat | .string s => s.size | _ => 0

set_option maxHeartbeats 2000000 in
set_option maxRecDepth 100000 in
theorem decimal_walk (n : Nat) (w : World) (hn : n ≤ 1000000) :
    Calls Tryd.prog 47 #[.int .i64 n] w fun e w' => e = .returned (.string (str (decDigits n))) ∧ Below w.heap.size w w' := by
  have hshort := decDigits_short n
  go_enter Tryd.func47, Tryd.ntmps47
  go_wp2_with fail
  go_loopw [0, 3] (fun v0 v3 wr => ∃ (m : Nat) (l : List UInt8), v0 = .int .i64 m ∧ v3 = .string (str l) ∧ m ≤ 1000000 ∧ l.length ≤ 1000001 ∧ Hid ((l = [] ∧ m = n) ∨ (l ≠ [] ∧ ((0 < m ∧ decDigits n = decDigits m ++ l) ∨ (m = 0 ∧ decDigits n = l)))) ∧ Hid (Below w.heap.size w wr)) (fun v0 v3 _ => (RowKit.intOf v0).toNat + (if strLn v3 = 0 then 1 else 0))
  case atStart => exact ⟨n, [], rfl, rfl, hn, by simp, Lib.hid (.inl ⟨rfl, rfl⟩), Lib.hid (Below.refl _ _)⟩
  case round =>
    obtain ⟨m, l, rfl, rfl, hm, hl, hrel, hb⟩ := hrel
    have hlz : (str l).size = l.length := str_size l
    obtain ⟨c, hc⟩ : ∃ c, c = UInt8.ofNat (48 + m % 10) := ⟨_, rfl⟩
    have hcv : ∀ W : World, (convert 33 9 (.slice (some ⟨W.heap.size, 0, none⟩) 1 1)).run Tryd.prog (W.alloc (.cells #[.int .u8 (48 + (m : Int) % 10)] 5)) = .ok (.string (str [c])) (W.alloc (.cells #[.int .u8 (48 + (m : Int) % 10)] 5)) := fun W => by
      have h := one_byte W (48 + (m : Int) % 10) (by omega) (by omega)
      rwa [show (48 + (m : Int) % 10).toNat.toUInt8 = c from hc ▸ congrArg Nat.toUInt8 (by omega)] at h
    have hz1 : ∀ b : UInt8, (str [b]).size = 1 := fun b => str_size _
    have hcat : str [c] ++ str l = str (c :: l) := by rw [str_append]; rfl
    have next : ((l = [] ∧ m = n) ∨ (0 < m ∧ decDigits n = decDigits m ++ l)) → (c :: l).length ≤ 1000001 ∧
        ((c :: l = [] ∧ m / 10 = n) ∨ (c :: l ≠ [] ∧ ((0 < m / 10 ∧ decDigits n = decDigits (m / 10) ++ c :: l) ∨ (m / 10 = 0 ∧ decDigits n = c :: l)))) := by
      intro h
      have e : decDigits n = decDigits m ++ l := by
        rcases h with ⟨rfl, rfl⟩ | ⟨_, h⟩
        · rw [List.append_nil]
        · exact h
      by_cases h10 : m < 10
      · have e2 : decDigits n = c :: l := by rw [e, decDigits_one h10, hc, Nat.mod_eq_of_lt h10]; rfl
        refine ⟨by have := congrArg List.length e2; omega, .inr ⟨by simp, .inr ⟨by omega, e2⟩⟩⟩
      · have e2 : decDigits n = decDigits (m / 10) ++ c :: l := by rw [e, decDigits_step m h10, List.append_assoc, hc]; rfl
        refine ⟨?_, .inr ⟨by simp, .inl ⟨by omega, e2⟩⟩⟩
        have := congrArg List.length e2
        rw [List.length_append] at this
        omega
    replace hc := Lib.hid hc
    have hmeas : ((l = [] ∧ m = n) ∨ (0 < m ∧ decDigits n = decDigits m ++ l)) → m / 10 + 0 < m + (if l.length = 0 then 1 else 0) := by
      rintro (⟨rfl, _⟩ | ⟨h, _⟩)
      · simp; omega
      · omega
    rcases hrel.out with ⟨hl0, hmn⟩ | ⟨hl0, ⟨hm0, hd⟩ | ⟨hm0, hd⟩⟩
    · obtain ⟨h1, h2⟩ := next (.inl ⟨hl0, hmn⟩)
      have h3 := hmeas (.inl ⟨hl0, hmn⟩)
      have hl00 := Lib.hid (show l.length = 0 by rw [hl0]; rfl)
      have hemp : (str l).toList.isEmpty = true := by rw [toList_bs, bs_str, hl0]; rfl
      replace h1 := Lib.hid h1
      replace h2 := Lib.hid h2
      replace h3 := Lib.hid h3
      clear hl0 hmn next hmeas
      go_wp2_with fail
      refine ⟨⟨m / 10, _, by simp, rfl, Nat.le_trans (Nat.div_le_self _ _) hm, h1.out, h2, Lib.hid (hb.out.alloc hb.out.size _)⟩, ?_⟩
      have h4 := h3.out
      have e1 : (str (c :: l)).size = l.length + 1 := str_size _
      rw [hl00.out] at h4 e1
      simp only [RowKit.intOf, strLn, hlz, e1, hl00.out]
      simp only [if_true] at h4 ⊢
      rw [if_neg (by omega)]
      omega
    · obtain ⟨h1, h2⟩ := next (.inr ⟨hm0, hd⟩)
      have h3 := hmeas (.inr ⟨hm0, hd⟩)
      have hemp : (str l).toList.isEmpty = false := by rw [toList_bs, bs_str, List.isEmpty_eq_false_iff]; exact hl0
      replace h1 := Lib.hid h1
      replace h2 := Lib.hid h2
      replace h3 := Lib.hid h3
      clear hl0 hd next hmeas
      go_wp2_with fail
      refine ⟨⟨m / 10, _, by simp, rfl, Nat.le_trans (Nat.div_le_self _ _) hm, h1.out, h2, Lib.hid (hb.out.alloc hb.out.size _)⟩, ?_⟩
      have e1 : (str (c :: l)).size = l.length + 1 := str_size _
      simp only [RowKit.intOf, strLn, hlz, e1]
      rw [if_neg (show ¬ (l.length + 1 = 0) by omega)]
      split <;> omega
    · have hemp : (str l).toList.isEmpty = false := by rw [toList_bs, bs_str, List.isEmpty_eq_false_iff]; exact hl0
      replace hd := Lib.hid hd
      subst hm0
      clear hl0 next hmeas
      go_wp2_with fail
      go_ret
      exact ⟨by rw [hd.out]; rfl, hb.out⟩
end Go.Proofs.YtcbapogicjhkjaaDoor
