/- The gradebook's values; ValidEvent. -/
import Derived.Test.YtnjiomggbafkmaaGreatDoorNameC
import Derived.Outline
namespace Go.Proofs.YtnjiomggbafkmaaGreatDoor
open Go.RowKit Go.Lib

abbrev keyV (k : BKey) : Value := .agg #[.string (str k.st), .string (str k.ex), .int .i64 k.att]
abbrev evV (e : BEv) : Value := .agg #[.int .i64 e.kind, .string (str e.key.st), .string (str e.key.ex), .int .i64 e.key.att, .int .i64 e.tick, .int .i64 e.ver, .int .i64 e.hun, .string (str e.text), .bool e.acc]
abbrev grV (g : BGr) : Value := .agg #[.int .i64 g.ver, .int .i64 g.hun, .int .i64 g.tick, .string (str g.text)]
abbrev apV (a : BAp) : Value := .agg #[.int .i64 a.tick, .string (str a.text), .bool a.dec, .bool a.acc, .int .i64 a.att, .string (str a.ans)]

set_option maxHeartbeats 1000000 in
set_option maxRecDepth 100000 in
theorem validKey_walk (k : BKey) (w : World) (h1 : k.st.length ≤ 9223372036854775806) (h2 : k.ex.length ≤ 9223372036854775806) :
    Calls Tryz.prog 47 #[keyV k] w fun e w' => e = .returned (.bool (keyB k)) ∧ Below w.heap.size w w' := by
  have hspec : keyB k = (nameB k.st && nameB k.ex && decide (1 ≤ k.att) && decide (k.att ≤ 16)) := rfl
  generalize hb : keyB k = b at *
  replace hb := Lib.hid hb
  go_enter Tryz.func47, Tryz.ntmps47
  have C1 := fun W => isName_walk k.st W h1
  have C2 := fun W => isName_walk k.ex W h2
  cases hn1 : nameB k.st with
  | false =>
    rw [hn1] at C1 hspec
    have C1 := fun W => Lib.hid (C1 W)
    replace hspec := Lib.hid hspec
    clear hn1 C2
    go_wp2_with fail
    refine (C1 _).out.mono ?_
    rintro e w1 ⟨rfl, hb1⟩
    obtain ⟨hB1, hb1⟩ := boxed hb1
    have hc1 := hB1.cell
    go_wp2_with fail
    go_ret
    exact ⟨by rw [hspec.out]; rfl, hb1⟩
  | true =>
    cases hn2 : nameB k.ex with
    | false =>
      rw [hn1] at C1
      rw [hn1, hn2] at hspec
      rw [hn2] at C2
      have C1 := fun W => Lib.hid (C1 W)
      have C2 := fun W => Lib.hid (C2 W)
      replace hspec := Lib.hid hspec
      clear hn1 hn2
      go_wp2_with fail
      refine (C1 _).out.mono ?_
      rintro e w1 ⟨rfl, hb1⟩
      obtain ⟨hB1, hb1⟩ := boxed hb1
      have hc1 := hB1.cell
      go_wp2_with fail
      refine (C2 _).out.mono ?_
      rintro e w2 ⟨rfl, hb2⟩
      have hc2 := (hB1.below hb2).cell
      clear hc1
      go_wp2_with fail
      go_ret
      exact ⟨by rw [hspec.out]; rfl, below_seq hb1 hb2⟩
    | true =>
      rw [hn1] at C1
      rw [hn1, hn2] at hspec
      rw [hn2] at C2
      have C1 := fun W => Lib.hid (C1 W)
      have C2 := fun W => Lib.hid (C2 W)
      replace hspec := Lib.hid hspec
      clear hn1 hn2
      go_wp2_with fail
      refine (C1 _).out.mono ?_
      rintro e w1 ⟨rfl, hb1⟩
      obtain ⟨hB1, hb1⟩ := boxed hb1
      have hc1 := hB1.cell
      go_wp2_with fail
      refine (C2 _).out.mono ?_
      rintro e w2 ⟨rfl, hb2⟩
      have hc2 := (hB1.below hb2).cell
      clear hc1
      go_wp2_with fail
      all_goals
        go_ret
        refine ⟨ret_bool ?_, below_seq hb1 hb2⟩
        rw [hspec.out]
        simp only [*, Bool.true_and, decide_true]
        try (simp; omega)

theorem evB_of_key {e : BEv} (h : keyB e.key = false) : evB e = false := by simp [evB, h]
theorem evB_of_false {e : BEv} (h : ¬ (0 ≤ e.kind ∧ e.kind ≤ 3 ∧ 0 ≤ e.tick ∧ e.tick ≤ 1099511627776 ∧ (e.text.length : Int) ≤ 4096)) : evB e = false := by
  cases hb : evB e with
  | false => rfl
  | true =>
    simp only [evB, Bool.and_eq_true, decide_eq_true_eq] at hb
    omega
theorem evB_rest {e : BEv} (h2 : keyB e.key = true) (h : 0 ≤ e.kind ∧ e.kind ≤ 3 ∧ 0 ≤ e.tick ∧ e.tick ≤ 1099511627776 ∧ (e.text.length : Int) ≤ 4096) :
    evB e = if e.kind = 1 then decide (1 ≤ e.ver) && decide (e.ver ≤ 1048576) && decide (0 ≤ e.hun) && decide (e.hun ≤ 100000000) && !e.acc else decide (e.ver = 0) && decide (e.hun = 0) && (!e.acc || decide (e.kind = 3)) := by
  obtain ⟨h0, h1, h3, h4, h5⟩ := h
  have h6 : e.text.length ≤ 4096 := by omega
  simp only [evB, h0, h1, h2, h3, h4, h6, decide_true, Bool.true_and]

set_option maxHeartbeats 4000000 in
set_option maxRecDepth 100000 in
theorem validEvent_walk (e : BEv) (w : World) (h1 : e.key.st.length ≤ 9223372036854775806) (h2 : e.key.ex.length ≤ 9223372036854775806) (h3 : e.text.length ≤ 9223372036854775806) :
    Calls Tryz.prog 18 #[evV e] w fun r w' => r = .returned (.bool (evB e)) ∧ Below w.heap.size w w' := by
  have hz : (str e.text).size = e.text.length := str_size _
  generalize hb : evB e = b
  replace hb := Lib.hid hb
  have C := fun W => validKey_walk e.key W h1 h2
  cases hk : keyB e.key with
  | false =>
    have HK := Lib.hid hk
    rw [hk] at C
    replace C := fun W => Lib.hid (C W)
    clear hk
    go_enter Tryz.func18, Tryz.ntmps18
    go_wp2_with (go_at_call 47; refine (C _).out.mono ?_; rintro e w1 ⟨rfl, hb1⟩; obtain ⟨hB1, hb1⟩ := boxed hb1)
    all_goals
      go_ret
      refine ⟨ret_bool (Eq.trans ?_ hb.out), by first | exact hb1 | exact (Below.refl _ _).alloc (Nat.le_refl _) _⟩
      exact (evB_of_key HK.out).symm
  | true =>
    have HK := Lib.hid hk
    rw [hk] at C
    replace C := fun W => Lib.hid (C W)
    clear hk
    go_enter Tryz.func18, Tryz.ntmps18
    go_wp2_with (go_at_call 47; refine (C _).out.mono ?_; rintro e w1 ⟨rfl, hb1⟩; obtain ⟨hB1, hb1⟩ := boxed hb1; have hc1 := hB1.cell)
    all_goals
      go_ret
      refine ⟨ret_bool (Eq.trans ?_ hb.out), by first | exact hb1 | exact (Below.refl _ _).alloc (Nat.le_refl _) _⟩
      first
        | exact (evB_of_false (by omega)).symm
        | (rw [evB_rest HK.out (by omega)]
           simp only [beq_iff_eq, beq_eq_false_iff_ne] at *
           first
             | (rw [if_pos (by assumption)]; cases e.acc <;> simp <;> omega)
             | (rw [if_neg (by assumption)]; cases hacc : e.acc <;> simp_all <;> exact Bool.eq_iff_iff.2 (by simp)))
end Go.Proofs.YtnjiomggbafkmaaGreatDoor
