/- clone of package book, whole. -/
import Derived.Test.YtnjiomggbafkmaaGreatDoorBookAD
namespace Go.Proofs.YtnjiomggbafkmaaGreatDoor
open Go.RowKit Go.Lib

theorem makeNone (W : World) : (Instr.makeSlice 29 (.int .i64 0) (.int .i64 0)).run Tryz.prog W = .ok (.slice (some ⟨W.heap.size, 0, none⟩) 0 0) (W.alloc (.cells #[] 39)) := by
  obtain ⟨i0, hi, hz0, hz1, hz2⟩ := info_parts infoEn
  have h := run_make (P := Tryz.prog) W 29 39 i0 enZero Tryz.underlying29 hi hz0 .i64 .i64 0 0 (by omega) (by omega) (by omega) (by omega)
  have e : ∀ n, n = 0 → madeCells enZero.cells n = #[] := by rintro _ rfl; apply Array.ext <;> simp [madeCells]
  rw [e _ (by simp)] at h
  exact h
theorem copyNone (W : World) (ty : TypeId) (g : Nat) (a : Option Addr) (c : Nat) : (Builtin.copy_ #[29, 29] ty #[.slice (some ⟨g, 0, none⟩) 0 0, .slice a 0 c]).run Tryz.prog W = .ok (goInt 0) W := by
  obtain ⟨i0, hi, hz0, hz1, hz2⟩ := info_parts infoEn
  have hl : ∀ (x : Addr), (loadCells x 0).run Tryz.prog W = .ok #[] W := fun x => by simpa using run_loadCells_list (P := Tryz.prog) W x [] (by simp)
  have hu : Tryz.prog.underlying 29 = some (.slice 39) := Tryz.underlying29
  cases a <;> simp [Builtin.copy_, run_underlying hu, Builtin.lenOf, Builtin.firstCells, sizeOf, typeInfo, hi, storeCells, hl]
set_option maxHeartbeats 2000000 in
set_option maxRecDepth 100000 in
theorem clone_none (t : Int) (a : Option Addr) (c : Nat) (w : World) :
    Calls Tryz.prog 44 #[.agg #[.int .i64 t, .slice a 0 c]] w fun z w' => ∃ ev, z = .returned (.agg #[.int .i64 t, ev]) ∧ OwnEnts w.heap.size w' ev [] ∧ Below w.heap.size w w' := by
  have hmk := makeNone
  have hcp := copyNone
  go_enter Tryz.func44, Tryz.ntmps44
  go_wp2_with fail
  refine wp_loop_rounds 1 ?_
  rw [rounds_succ]
  go_wp2_with fail
  obtain ⟨X, hX⟩ : ∃ X, X = Obj.cells #[Value.int .i64 t, .slice (some ⟨w.heap.size + 1 + 1, 0, none⟩) 0 0] 31 := ⟨_, rfl⟩
  have hk : Blk (((w.alloc X).alloc (.cells #[.int .i64 t, .slice (some ⟨w.heap.size + 1 + 1, 0, none⟩) 0 0] 31)).alloc (.cells #[] 39)) (w.heap.size + 1) 31 #[.int .i64 t, .slice (some ⟨w.heap.size + 1 + 1, 0, none⟩) 0 0] := by
    have := (Blk.new (w.alloc X) 31 #[.int .i64 t, .slice (some ⟨w.heap.size + 1 + 1, 0, none⟩) 0 0]).alloc (.cells #[] 39)
    simp only [World.size_alloc] at this
    exact this
  have ho := World.ownsRow_lit (base := w.heap.size) (e := 39) (size := 7) ((w.alloc X).alloc (.cells #[.int .i64 t, .slice (some ⟨w.heap.size + 1 + 1, 0, none⟩) 0 0] 31)) #[] 0 (by simp; omega) (by decide) rfl
  simp only [World.size_alloc] at ho
  have hb : Below w.heap.size w (((w.alloc X).alloc (.cells #[.int .i64 t, .slice (some ⟨w.heap.size + 1 + 1, 0, none⟩) 0 0] 31)).alloc (.cells #[] 39)) := (((Below.refl _ _).alloc (Nat.le_refl _) _).alloc (by simp) _).alloc (by simp; omega) _
  rw [hX] at hk ho hb
  refine bodyPost_ret (v := .agg #[.int .i64 t, .slice (some ⟨w.heap.size + 1 + 1, 0, none⟩) 0 0]) (results_cell_row rfl _ _ (w.heap.size + 1) _ _ _ _ rfl hk Tryz.underlying31 rfl (by kernel_rfl)) rfl ⟨_, rfl, ⟨ho, by simp, fun i j hi => by cases hi⟩, hb⟩
theorem clone_walk (t : Int) (v : Value) (es : List BEn) (w : World) (h : EntriesIn w v es) (hl : es.length ≤ 1000000) (hlen : ∀ y ∈ es, y.grades.length ≤ 1000000000 ∧ y.appeals.length ≤ 1000000000) :
    Calls Tryz.prog 44 #[.agg #[.int .i64 t, v]] w fun z w' => ∃ ev rows, z = .returned (.agg #[.int .i64 t, ev]) ∧ OwnEnts w.heap.size w' ev rows ∧ rows.map EnR.y = es ∧ Below w.heap.size w w' := by
  obtain ⟨rows, rfl, h1, h2⟩ := h
  rcases h1.split with ⟨rfl, a, c, rfl⟩ | ⟨b, off, c, rfl, hb, hr⟩
  · refine (clone_none t a c w).mono ?_
    rintro z w' ⟨ev, rfl, ho, hb⟩
    exact ⟨ev, [], rfl, ho, rfl, hb⟩
  · rw [List.length_map] at hl
    exact clone_some t b off c rows w hb hr h2 hl (fun r hr => hlen _ (List.mem_map_of_mem hr))
end Go.Proofs.YtnjiomggbafkmaaGreatDoor
