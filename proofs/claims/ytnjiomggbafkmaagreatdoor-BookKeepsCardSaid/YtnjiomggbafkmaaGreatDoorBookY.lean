/- Same of package book. -/
import Derived.Test.YtnjiomggbafkmaaGreatDoorBookX
namespace Go.Proofs.YtnjiomggbafkmaaGreatDoor
open Go.RowKit Go.Lib

theorem BEn.eq_iff (x y : BEn) : x = y ↔ x.key = y.key ∧ x.tick = y.tick ∧ x.text = y.text ∧ x.grades = y.grades ∧ x.appeals = y.appeals := by
  obtain ⟨a1, a2, a3, a4, a5⟩ := x
  obtain ⟨b1, b2, b3, b4, b5⟩ := y
  simp

set_option maxHeartbeats 4000000 in
set_option maxRecDepth 100000 in
theorem same1_walk (r s : EnR) (w : World) (hr : EnIn w r) (hs : EnIn w s) (hn : r.y.grades.length ≤ 1000000000000 ∧ r.y.appeals.length ≤ 1000000000000) :
    Calls Tryz.prog 65 #[enV r, enV s] w fun z w' => z = .returned (.bool (decide (r.y = s.y))) ∧ Below w.heap.size w w' := by
  have hb2 := (((Below.refl w.heap.size w).alloc (Nat.le_refl _) (.cells #[.string (str r.y.key.st), .string (str r.y.key.ex), .int .i64 r.y.key.att, .int .i64 r.y.tick, .string (str r.y.text), r.g, r.a] 39))).alloc (by simp) (.cells #[.string (str s.y.key.st), .string (str s.y.key.ex), .int .i64 s.y.key.att, .int .i64 s.y.tick, .string (str s.y.text), s.g, s.a] 39)
  obtain ⟨hr1, hr2⟩ := hr.below hb2
  obtain ⟨hs1, hs2⟩ := hs.below hb2
  have EG := equalGr_walk _ _ _ _ _ hr1 hs1 hn.1
  have EA := fun W hW => equalAp_walk _ _ _ _ W (hr2.below hW) (hs2.below hW) hn.2
  clear hr hs
  obtain ⟨y, g, a⟩ := r
  obtain ⟨y', g', a'⟩ := s
  simp only at hr1 hr2 hs1 hs2 EG EA hb2 hn ⊢
  obtain ⟨ag, cg, rfl, _, _⟩ := hr1
  obtain ⟨aa, ca, rfl, _, _⟩ := hr2
  obtain ⟨ag', cg', rfl, _, _⟩ := hs1
  obtain ⟨aa', ca', rfl, _, _⟩ := hs2
  obtain ⟨β, hβ⟩ : ∃ β, β = decide (y = y') := ⟨_, rfl⟩
  rw [← hβ]
  replace hβ := Lib.hid hβ
  have HB := Lib.hid hb2
  obtain ⟨l1, h1⟩ : ∃ l, l = y.grades.length := ⟨_, rfl⟩
  obtain ⟨l2, h2⟩ : ∃ l, l = y.appeals.length := ⟨_, rfl⟩
  obtain ⟨l3, h3⟩ : ∃ l, l = y'.grades.length := ⟨_, rfl⟩
  obtain ⟨l4, h4⟩ : ∃ l, l = y'.appeals.length := ⟨_, rfl⟩
  obtain ⟨β1, hg1⟩ : ∃ b, b = decide (y.grades = y'.grades) := ⟨_, rfl⟩
  obtain ⟨β2, hg2⟩ : ∃ b, b = decide (y.appeals = y'.appeals) := ⟨_, rfl⟩
  rw [← h1, ← h2, ← h3, ← h4] at HB EA EG
  rw [← hg1] at EG
  rw [← hg2] at EA
  simp only [enV, ← h1, ← h2, ← h3, ← h4]
  replace EG := Lib.hid EG
  replace EA := Lib.hid EA
  replace hg1 := Lib.hid hg1
  replace hg2 := Lib.hid hg2
  clear h1 h2 h3 h4 hb2 hn
  have hβf : ¬ y = y' → β = false := fun h => hβ.out.trans (decide_eq_false h)
  have hβt : y = y' → β = true := fun h => hβ.out.trans (decide_eq_true h)
  go_enter Tryz.func65, Tryz.ntmps65
  by_cases e1 : y.key = y'.key
  · have heq : ∀ W : World, (binOp .eql 24 (keyV y.key) (keyV y'.key)).run Tryz.prog W = .ok (.bool true) W := fun W => by
      rw [eq_key, decide_eq_true e1]
    by_cases e2 : y.tick = y'.tick
    · have h2 : (y.tick == y'.tick) = true := by rw [beq_iff_eq]; exact e2
      by_cases e3 : y.text = y'.text
      · have h3 : ((str y.text).toList == (str y'.text).toList) = true := by rw [e3]; exact beq_self_eq_true _
        by_cases e4 : y.grades = y'.grades
        · have hb1' := Lib.hid (show β1 = true from hg1.out.trans (decide_eq_true e4))
          by_cases e5 : y.appeals = y'.appeals
          · have hb2' := Lib.hid (show β2 = true from hg2.out.trans (decide_eq_true e5))
            have hb := Lib.hid (hβt ((BEn.eq_iff _ _).2 ⟨e1, e2, e3, e4, e5⟩))
            clear e1 e2 e3 e4 e5 hβt hβf
            go_wp2_with fail
            refine EG.out.mono ?_
            rintro z w1 ⟨rfl, hw1⟩
            have EA1 := EA.out w1 hw1
            replace EA1 := Lib.hid EA1
            rw [hb1'.out]
            have k1 := (((Blk.new w 39 #[.string (str y.key.st), .string (str y.key.ex), .int .i64 y.key.att, .int .i64 y.tick, .string (str y.text), .slice ag l1 cg, .slice aa l2 ca]).alloc (.cells #[.string (str y'.key.st), .string (str y'.key.ex), .int .i64 y'.key.att, .int .i64 y'.tick, .string (str y'.text), .slice ag' l3 cg', .slice aa' l4 ca'] 39)).below hw1).cell 6
            have k2 := ((Blk.new (w.alloc (.cells #[.string (str y.key.st), .string (str y.key.ex), .int .i64 y.key.att, .int .i64 y.tick, .string (str y.text), .slice ag l1 cg, .slice aa l2 ca] 39)) 39 #[.string (str y'.key.st), .string (str y'.key.ex), .int .i64 y'.key.att, .int .i64 y'.tick, .string (str y'.text), .slice ag' l3 cg', .slice aa' l4 ca']).below hw1).cell 6
            simp only [World.size_alloc] at k2
            go_wp2_with fail
            refine EA1.out.mono ?_
            rintro z w2 ⟨rfl, hw2⟩
            rw [hb2'.out]
            have HF := Lib.hid (below_seq (below_seq HB.out hw1) hw2)
            go_wp2_with fail
            go_ret
            exact ⟨by rw [hb.out]; rfl, HF.out⟩
          · have hb2' := Lib.hid (show β2 = false from hg2.out.trans (decide_eq_false e5))
            have hb := Lib.hid (hβf (fun h => e5 ((BEn.eq_iff _ _).1 h).2.2.2.2))
            clear e1 e2 e3 e4 e5 hβt hβf
            go_wp2_with fail
            refine EG.out.mono ?_
            rintro z w1 ⟨rfl, hw1⟩
            have EA1 := EA.out w1 hw1
            replace EA1 := Lib.hid EA1
            rw [hb1'.out]
            have k1 := (((Blk.new w 39 #[.string (str y.key.st), .string (str y.key.ex), .int .i64 y.key.att, .int .i64 y.tick, .string (str y.text), .slice ag l1 cg, .slice aa l2 ca]).alloc (.cells #[.string (str y'.key.st), .string (str y'.key.ex), .int .i64 y'.key.att, .int .i64 y'.tick, .string (str y'.text), .slice ag' l3 cg', .slice aa' l4 ca'] 39)).below hw1).cell 6
            have k2 := ((Blk.new (w.alloc (.cells #[.string (str y.key.st), .string (str y.key.ex), .int .i64 y.key.att, .int .i64 y.tick, .string (str y.text), .slice ag l1 cg, .slice aa l2 ca] 39)) 39 #[.string (str y'.key.st), .string (str y'.key.ex), .int .i64 y'.key.att, .int .i64 y'.tick, .string (str y'.text), .slice ag' l3 cg', .slice aa' l4 ca']).below hw1).cell 6
            simp only [World.size_alloc] at k2
            go_wp2_with fail
            refine EA1.out.mono ?_
            rintro z w2 ⟨rfl, hw2⟩
            rw [hb2'.out]
            have HF := Lib.hid (below_seq (below_seq HB.out hw1) hw2)
            go_wp2_with fail
            go_ret
            exact ⟨by rw [hb.out]; rfl, HF.out⟩
        · have hb1' := Lib.hid (show β1 = false from hg1.out.trans (decide_eq_false e4))
          have hb := Lib.hid (hβf (fun h => e4 ((BEn.eq_iff _ _).1 h).2.2.2.1))
          clear e1 e2 e3 e4 hβt hβf
          go_wp2_with fail
          refine EG.out.mono ?_
          rintro z w1 ⟨rfl, hw1⟩
          rw [hb1'.out]
          have HF := Lib.hid (below_seq HB.out hw1)
          go_wp2_with fail
          go_ret
          exact ⟨by rw [hb.out]; rfl, HF.out⟩
      · have h3 := str_ne e3
        have hb := Lib.hid (hβf (fun h => e3 ((BEn.eq_iff _ _).1 h).2.2.1))
        clear e1 e2 e3 hβt hβf
        go_wp2_with fail
        go_ret
        exact ⟨by rw [hb.out]; rfl, HB.out⟩
    · have h2 : (y.tick == y'.tick) = false := by rw [beq_eq_false_iff_ne]; exact e2
      have hb := Lib.hid (hβf (fun h => e2 ((BEn.eq_iff _ _).1 h).2.1))
      clear e1 e2 hβt hβf
      go_wp2_with fail
      go_ret
      exact ⟨by rw [hb.out]; rfl, HB.out⟩
  · have heq : ∀ W : World, (binOp .eql 24 (keyV y.key) (keyV y'.key)).run Tryz.prog W = .ok (.bool false) W := fun W => by
      rw [eq_key, decide_eq_false e1]
    have hb := Lib.hid (hβf (fun h => e1 ((BEn.eq_iff _ _).1 h).1))
    clear e1 hβt hβf
    go_wp2_with fail
    go_ret
    exact ⟨by rw [hb.out]; rfl, HB.out⟩
end Go.Proofs.YtnjiomggbafkmaaGreatDoor
