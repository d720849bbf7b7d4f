/- Events in memory; Few of the reference of layer 55. -/
import Derived.Test.YtnjiomggbafkmaaGreatDoorBookM
import Derived.Test.YtnjiomggbafkmaaGreatDoorRowsK
namespace Go.Proofs.YtnjiomggbafkmaaGreatDoor
open Go.RowKit Go.Lib

abbrev evCs (e : BEv) : List Value := [.int .i64 e.kind, .string (str e.key.st), .string (str e.key.ex), .int .i64 e.key.att, .int .i64 e.tick, .int .i64 e.ver, .int .i64 e.hun, .string (str e.text), .bool e.acc]
abbrev grCs (g : BGr) : List Value := [.int .i64 g.ver, .int .i64 g.hun, .int .i64 g.tick, .string (str g.text)]
abbrev apCs (a : BAp) : List Value := [.int .i64 a.tick, .string (str a.text), .bool a.dec, .bool a.acc, .int .i64 a.att, .string (str a.ans)]

theorem ev_cells {w : World} {b off : Nat} {xs : List BEv} (h : RowsAt evCs 9 w b off xs) (i : Nat) (hi : i < xs.length) :
    w.cell? ⟨b, off + i * 9, none⟩ = some (.int .i64 xs[i].kind) ∧ w.cell? ⟨b, off + i * 9 + 1, none⟩ = some (.string (str xs[i].key.st)) ∧ w.cell? ⟨b, off + i * 9 + 2, none⟩ = some (.string (str xs[i].key.ex)) ∧
    w.cell? ⟨b, off + i * 9 + 3, none⟩ = some (.int .i64 xs[i].key.att) ∧ w.cell? ⟨b, off + i * 9 + 4, none⟩ = some (.int .i64 xs[i].tick) ∧ w.cell? ⟨b, off + i * 9 + 5, none⟩ = some (.int .i64 xs[i].ver) ∧
    w.cell? ⟨b, off + i * 9 + 6, none⟩ = some (.int .i64 xs[i].hun) ∧ w.cell? ⟨b, off + i * 9 + 7, none⟩ = some (.string (str xs[i].text)) ∧ w.cell? ⟨b, off + i * 9 + 8, none⟩ = some (.bool xs[i].acc) :=
  ⟨h i hi 0 (by simp), h i hi 1 (by simp), h i hi 2 (by simp), h i hi 3 (by simp), h i hi 4 (by simp), h i hi 5 (by simp), h i hi 6 (by simp), h i hi 7 (by simp), h i hi 8 (by simp)⟩

/-- Few events, with short texts. -/
def shortEv (e : BEv) : Bool := decide (e.text.length ≤ 60) && decide (e.key.st.length ≤ 40) && decide (e.key.ex.length ≤ 40)
def fewEv (es : List BEv) (most : Int) : Bool := es.all shortEv && decide ((es.length : Int) ≤ most)

set_option maxHeartbeats 1000000 in
set_option maxRecDepth 100000 in
theorem fewEv_some (b off c : Nat) (es : List BEv) (most : Int) (w : World) (h1 : RowsAt evCs 9 w b off es) (hm : es.length ≤ 4000000000000) :
    Calls Tryz.prog 12 #[.slice (some ⟨b, off, none⟩) es.length c, .int .i64 most] w fun e w' => e = .returned (.bool (fewEv es most)) ∧ w = w' := by
  have H1 := Lib.hid h1
  clear h1
  go_enter Tryz.func12, Tryz.ntmps12
  go_wp2_with fail
  go_loop [5] (fun v5 => ∃ k : Nat, k ≤ es.length ∧ v5 = .int .i64 k ∧ Hid ((es.take k).all shortEv = true)) (fun i => es.length - (RowKit.intOf i).toNat)
  case atStart => exact ⟨0, Nat.zero_le _, rfl, Lib.hid rfl⟩
  case round =>
    obtain ⟨k, hk, rfl, ht⟩ := hrel
    by_cases hlt : k < es.length
    · obtain ⟨_, c1, c2, _, _, _, _, c7, _⟩ := ev_cells H1.out k hlt
      have z1 : (str es[k].key.st).size = es[k].key.st.length := str_size _
      have z2 : (str es[k].key.ex).size = es[k].key.ex.length := str_size _
      have z7 : (str es[k].text).size = es[k].text.length := str_size _
      have hno : shortEv es[k] = false → fewEv es most = false := fun h => by
        unfold fewEv
        rw [Bool.and_eq_false_iff]; left
        rw [List.all_eq_false]
        exact ⟨es[k], List.getElem_mem hlt, by rw [h]; simp⟩
      replace hno := Lib.hid hno
      go_wp2_with fail
      all_goals first
        | (refine ⟨⟨k + 1, by omega, by simp, Lib.hid ?_⟩, by simp [RowKit.intOf]; omega⟩
           rw [take_snoc' es k hlt, List.all_append, ht.out]
           simp [shortEv]; omega)
        | (go_ret
           exact ⟨ret_bool (hno.out (by simp [shortEv]; omega)).symm, rfl⟩)
    · have HF := Lib.hid (show fewEv es most = decide ((es.length : Int) ≤ most) from by
        have h := ht.out
        rw [List.take_of_length_le (by omega)] at h
        unfold fewEv
        rw [h, Bool.true_and])
      go_wp2_with fail
      go_ret
      exact ⟨by rw [HF.out]; rfl, rfl⟩

set_option maxHeartbeats 1000000 in
theorem fewEv_empty (a : Option Addr) (c : Nat) (most : Int) (w : World) :
    Calls Tryz.prog 12 #[.slice a 0 c, .int .i64 most] w fun e w' => e = .returned (.bool (fewEv [] most)) ∧ w = w' := by
  go_enter Tryz.func12, Tryz.ntmps12
  go_wp2_with fail
  refine wp_loop_rounds 1 ?_
  rw [rounds_succ]
  go_wp2_with fail
  go_ret
  exact ⟨by simp [fewEv], rfl⟩
theorem fewEv_walk (v : Value) (es : List BEv) (most : Int) (w : World) (h : RowsIn evCs 9 w v es) (hm : es.length ≤ 4000000000000) :
    Calls Tryz.prog 12 #[v, .int .i64 most] w fun e w' => e = .returned (.bool (fewEv es most)) ∧ w = w' := by
  rcases h.split with ⟨rfl, a, c, rfl⟩ | ⟨b, off, c, rfl, _, hc⟩
  · exact fewEv_empty a c most w
  · exact fewEv_some b off c es most w hc hm
end Go.Proofs.YtnjiomggbafkmaaGreatDoor
