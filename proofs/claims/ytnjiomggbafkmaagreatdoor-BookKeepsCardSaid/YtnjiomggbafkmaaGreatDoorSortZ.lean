/- slices.SortStableFunc at a slice of events that the call owns. -/
import Derived.Test.YtnjiomggbafkmaaGreatDoorSortT
namespace Go.Proofs.YtnjiomggbafkmaaGreatDoor
open Go.RowKit Go.Lib Go.Sort

section
variable {α : Type} [Inhabited α] {enc : α → List Value} {k : Nat}
theorem flat_get (hk : ∀ x, (enc x).length = k) (d : Array α) (t : Nat) (h : t < d.size * k) : (flatCs enc d.toList)[t]? = some (flatK enc k d)[t]! := by
  have hk0 : 0 < k := by
    rcases Nat.eq_zero_or_pos k with h0 | h0
    · subst h0; simp at h
    · exact h0
  have hi : t / k < d.toList.length := by
    rw [Array.length_toList]
    exact (Nat.div_lt_iff_lt_mul hk0).2 h
  have hj : t % k < (enc d.toList[t / k]).length := by rw [hk]; exact Nat.mod_lt _ hk0
  have h1 := flatCs_get hk d.toList (t / k) hi (t % k) hj
  rw [show t / k * k + t % k = t by rw [Nat.mul_comm]; exact Nat.div_add_mod t k] at h1
  rw [h1, get_flatK enc k d t h, ← toList_get! d (t / k) (by simpa using hi)]
  exact congrArg some (getElem!_pos (enc d.toList[t / k]) (t % k) hj).symm
theorem own_holds (hk : ∀ x, (enc x).length = k) {w : World} {B g n cap : Nat} {T : TypeId} {d : Array α} (h : w.ownsRow B T k (.slice (some ⟨g, 0, none⟩) n cap) n (flatCs enc d.toList)) (hn : d.size = n) : HoldsK enc k w g 0 d := by
  intro t ht
  rw [size_flatK, hn] at ht
  rw [Nat.zero_add]
  refine ⟨?_, h.frozenAt t⟩
  rw [h.cellAt t ht, flat_get hk d t (by rw [hn]; exact ht)]
  rfl
theorem swk_own (hk : ∀ x, (enc x).length = k) {w W : World} {B g n cap : Nat} {T : TypeId} {d d' : Array α} (h : w.ownsRow B T k (.slice (some ⟨g, 0, none⟩) n cap) n (flatCs enc d.toList)) (hn : d'.size = n) (hW : SWK enc k w g 0 d' W) :
    W.ownsRow B T k (.slice (some ⟨g, 0, none⟩) n cap) n (flatCs enc d'.toList) ∧ w.grownBy W (some g) := by
  obtain ⟨m, os, rfl⟩ := hW
  obtain ⟨hl, h⟩ := h
  have hg : ∃ cur, B ≤ g ∧ w.heap[g]? = some (.cells cur T (0, 0)) ∧ n ≤ cap ∧ cap ≤ maxLen ∧ cur.size = cap * k := by
    rcases h with ⟨h, _⟩ | ⟨g', cap', cur, h1, h2, h3, h4, h5, h6, _⟩
    · cases h
    · simp only [Value.slice.injEq, Option.some.injEq, Addr.mk.injEq, and_true] at h1
      obtain ⟨⟨rfl, _⟩, _, rfl⟩ := h1
      exact ⟨cur, h2, h3, h4, h5, h6⟩
  obtain ⟨cur, h2, h3, h4, h5, h6⟩ := hg
  have hlt : g < w.heap.size := (Array.getElem?_eq_some_iff.1 h3).1
  have hheap : (sortWorldK enc k w g 0 m d' os).heap = w.heap.modify g (onCells (putCells id 0 (flatK enc k d'))) ++ os := rfl
  refine ⟨⟨by rw [flatCs_length hk]; simp [hn], .inr ⟨g, cap, putCells id 0 (flatK enc k d') cur, rfl, h2, ?_, h4, h5, by simpa [putCells] using h6, ?_⟩⟩, rfl, rfl, rfl, ?_, ?_⟩
  · rw [hheap, Array.getElem?_append_left (by simpa using hlt), Array.getElem?_modify, if_pos rfl, h3]
    rfl
  · refine List.ext_getElem? fun t => ?_
    rw [List.getElem?_take]
    have hnk : n * k ≤ cap * k := Nat.mul_le_mul_right k h4
    by_cases ht : t < n * k
    · rw [if_pos ht, flat_get hk d' t (by rw [hn]; exact ht)]
      simp only [putCells, Array.getElem?_toList, Array.getElem?_mapIdx]
      rw [Array.getElem?_eq_getElem (by omega)]
      simp [hn, ht]
    · rw [if_neg ht, List.getElem?_eq_none (by rw [flatCs_length hk, Array.length_toList, hn]; omega)]
  · rw [hheap]; simp
  · intro i hi hne
    rw [hheap, Array.getElem?_append_left (by simpa using hi), Array.getElem?_modify, if_neg (fun e => hne (by rw [e]))]
end

set_option maxHeartbeats 1000000 in
set_option maxRecDepth 100000 in
theorem insertion_none (a : Option Addr) (c : Nat) (w : World) : Calls Tryz.prog 126 #[.slice a 0 c, .int .i64 0, .int .i64 0, byTickV] w fun e w' => e = .returned (.tuple #[]) ∧ w = w' := by
  go_enter Tryz.func126, Tryz.ntmps126
  go_wp2_with fail
  refine wp_loop_rounds 1 ?_
  rw [rounds_succ]
  go_wp2_with fail
  go_end0
  exact ⟨rfl, rfl⟩
set_option maxHeartbeats 1000000 in
set_option maxRecDepth 100000 in
theorem stable_none (a : Option Addr) (c : Nat) (w : World) : Calls Tryz.prog 105 #[.slice a 0 c, .int .i64 0, byTickV] w fun e w' => e = .returned (.tuple #[]) ∧ w = w' := by
  go_enter Tryz.func105, Tryz.ntmps105
  go_wp2_with fail
  refine wp_loop_rounds 1 ?_
  rw [rounds_succ]
  go_wp2_with fail
  refine (insertion_none a c _).mono ?_
  rintro e w' ⟨rfl, rfl⟩
  go_wp2_with fail
  refine wp_loop_rounds 1 ?_
  rw [rounds_succ]
  go_wp2_with fail
  go_end0
  exact ⟨rfl, rfl⟩

/-- How SortStableFunc leaves a slice that the call owns. -/
def SortEnd (B : Nat) (v : Value) (es : List BEv) (w : World) (e : Ending) (w' : World) : Prop :=
  e = .returned (.tuple #[]) ∧ w'.ownsRow B 26 9 v es.length (flatCs evCs (sortBy BEv.tick es)) ∧ w.grownBy w' v.ownBlock

set_option maxHeartbeats 1000000 in
set_option maxRecDepth 100000 in
theorem sortStable_walk (B : Nat) (v : Value) (es : List BEv) (w : World) (h : w.ownsRow B 26 9 v es.length (flatCs evCs es)) (hbig : es.length < 1000000000000) :
    Calls Tryz.prog 84 #[v, byTickV] w (SortEnd B v es w) := by
  rcases h.2 with ⟨rfl, h0⟩ | ⟨g, cap, cur, rfl, hB, hg, hnc, hm, hcs, htk⟩
  · have hes : es = [] := List.eq_nil_of_length_eq_zero h0
    subst hes
    have hfin := Lib.hid (show SortEnd B (.slice none 0 0) [] w (.returned (.tuple #[])) w from ⟨rfl, by simpa [sortBy] using h, World.grownBy.refl _ _⟩)
    clear h h0
    go_enter Tryz.func84, Tryz.ntmps84
    go_wp2_with fail
    refine (stable_none none 0 _).mono ?_
    rintro e w' ⟨rfl, rfl⟩
    go_wp2_with fail
    go_end0
    exact hfin.out
  · have hlt : g < w.heap.size := (Array.getElem?_eq_some_iff.1 hg).1
    have hown : w.ownsRow B 26 9 (.slice (some ⟨g, 0, none⟩) es.length cap) es.length (flatCs evCs es.toArray.toList) := by simpa using h
    have hH := own_holds evCs_len hown (by simp)
    have C := stable_k 9 rfl evCs rfl w g 0 cap es.length es.toArray (by simp) ⟨evCs_len, evCs_one, hH, hlt⟩ hbig es.toArray w (by simp) (SWK.start hH)
    replace C := Lib.hid C
    have hO := Lib.hid hown
    clear hg hcs htk hH h hown
    go_enter Tryz.func84, Tryz.ntmps84
    go_wp2_with fail
    refine C.out.mono ?_
    rintro e w' ⟨rfl, d', hd, hs, hW⟩
    have hE := Lib.hid (show SortEnd B (.slice (some ⟨g, 0, none⟩) es.length cap) es w (.returned (.tuple #[])) w' by
      obtain ⟨h1, h2⟩ := swk_own evCs_len hO.out (by simpa using hd) hW
      rw [hs.eq] at h1
      exact ⟨rfl, h1, h2⟩)
    clear hs hW hd
    go_wp2_with fail
    go_end0
    exact hE.out
end Go.Proofs.YtnjiomggbafkmaaGreatDoor
