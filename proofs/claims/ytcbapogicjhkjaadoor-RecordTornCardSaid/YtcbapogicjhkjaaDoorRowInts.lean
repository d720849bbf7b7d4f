/- A slice of numbers among a law's arguments. -/
import Derived.Test.YtcbapogicjhkjaaDoorRow
import Derived.Test.YtcbapogicjhkjaaDoorLawTorn
namespace Go.Proofs.YtcbapogicjhkjaaDoor
open Go.ChangeShapes Go.WideShapes Go.ChangeAt Go.RowKit Go.ChangeMaps
set_option maxRecDepth 100000

theorem cellsInt : Tryd.prog.cellsOf 3 = 1 := by kernel_rfl

theorem ints_in {H : Type} {enc : TypeId × Value → H} {W : World} {base b0 : Nat} {sp : Nat → Bool} {held : Bool} {r : Reach} {t e : TypeId} {v : Value} {d : DataW H} {ps : List MemPlace}
    (ht : Tryd.prog.underlying t = some (.slice e)) (he : Tryd.prog.underlying e = some (.int .i64)) (hc : Tryd.prog.cellsOf e = 1)
    (hval : Value.okWide Tryd.prog W r b0 t v) (h : DataW.Trod enc Tryd.prog W base sp held t v d ps) :
    ∃ l : List Int, IntsIn W v l ∧ l.length ≤ maxLen := by
  obtain ⟨a0, n0, c0, rfl⟩ := okWide_slice ht hval
  obtain ⟨fuel, hf⟩ := h
  rcases open_ints ht he hc hf with ⟨hv, hx⟩ | ⟨a, len, cap, zs, hv, _, hl, hm, hss, hx, hcell, hsz⟩
  · simp only [Value.cells, List.cons.injEq, Value.slice.injEq, and_true] at hv
    obtain ⟨rfl, rfl, rfl⟩ := hv
    exact ⟨[], ⟨none, 0, rfl, fun i hi => by cases hi⟩, by simp⟩
  · simp only [Value.cells, List.cons.injEq, Value.slice.injEq, and_true] at hv
    obtain ⟨rfl, rfl, rfl⟩ := hv
    have hle : n0 ≤ zs.length := by rw [hss]; split <;> omega
    have hlen : (zs.take n0).length = n0 := by simp; omega
    refine ⟨zs.take n0, ⟨some a, c0, by rw [hlen], ?_⟩, by rw [hlen]; omega⟩
    intro i hi
    rw [hlen] at hi
    have hs : a.spot = none := by
      have := hcell 0 (by omega)
      simp only [Addr.add, if_pos, World.cell?] at this
      split at this
      · split at this
        · cases this
        · rename_i hn
          simpa using hn
      · cases this
    refine ⟨a.block, a.off, by rw [← hs], ?_⟩
    have := hcell i (by omega)
    have e : a.add i = ⟨a.block, a.off + i, none⟩ := by
      unfold Addr.add
      split
      · rename_i h0; subst h0; rw [← hs]; simp
      · rfl
    rw [e] at this
    rw [this]
    simp [List.getD, List.getElem?_eq_getElem (show i < zs.length by omega)]
end Go.Proofs.YtcbapogicjhkjaaDoor
