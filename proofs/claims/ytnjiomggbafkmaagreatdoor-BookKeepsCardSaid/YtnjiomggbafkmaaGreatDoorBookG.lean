/- The events of a book, whatever its slices; Find; Contains. -/
import Derived.Test.YtnjiomggbafkmaaGreatDoorBookE
namespace Go.Proofs.YtnjiomggbafkmaaGreatDoor
open Go.RowKit Go.Lib

set_option maxHeartbeats 1000000 in
set_option maxRecDepth 100000 in
theorem events_none (tick : Int) (a : Option Addr) (c : Nat) (w : World) :
    Calls Tryz.prog 53 #[.agg #[.int .i64 tick, .slice a 0 c]] w fun e w' => ∃ v, e = .returned v ∧ EvOwn w.heap.size w' v [] ∧ Below w.heap.size w w' := by
  have hS := Lib.hid fun W : World => sortStable_walk w.heap.size (.slice none 0 0) [] W (World.ownsRow_nil _ _ _ _) (by simp)
  go_enter Tryz.func53, Tryz.ntmps53
  go_wp2_with fail
  refine wp_loop_rounds 1 ?_
  rw [rounds_succ]
  go_wp2_with fail
  refine (hS.out _).mono ?_
  rintro e w1 ⟨rfl, hs, hg⟩
  have hO := Lib.hid (show EvOwn w.heap.size w1 (.slice none 0 0) [] from by unfold EvOwn; simpa [sortBy, flatCs] using hs)
  have hB := Lib.hid (((Below.refl w.heap.size w).alloc (Nat.le_refl _) _).grown hg (by simp) (fun q hq => by cases hq))
  clear hs hg hS
  go_wp2_with fail
  go_ret
  exact ⟨_, rfl, hO.out, hB.out⟩

theorem evsOf_nil : evsOf [] = [] := by simp [evsOf, rawEvs, sortBy]

/-- events: the events of a book, in a slice of the call's own. -/
theorem events_walk (tick : Int) (v : Value) (es : List BEn) (w : World) (h : EntriesIn w v es) (hn : (rawEvs es).length ≤ 100000000) :
    Calls Tryz.prog 53 #[.agg #[.int .i64 tick, v]] w fun e w' => ∃ v, e = .returned v ∧ EvOwn w.heap.size w' v (evsOf es) ∧ Below w.heap.size w w' := by
  obtain ⟨rows, rfl, h2, h3⟩ := h
  rcases h2.split with ⟨rfl, a, c, rfl⟩ | ⟨b, off, c, rfl, hb, hr⟩
  · have := events_none tick a c w
    simpa [evsOf_nil] using this
  · exact events_some b off c tick rows w hb hr h3 hn

end Go.Proofs.YtnjiomggbafkmaaGreatDoor
