/- Events among a law's arguments. -/
import Derived.Test.YtnjiomggbafkmaaGreatDoorBookF
import Derived.Deep.Slices
import Derived.ChangeArms
import Derived.KernelRfl
import Derived.Deep.MidRow
namespace Go.Proofs.YtnjiomggbafkmaaGreatDoor
open Go.ChangeShapes Go.WideShapes Go.RowKit

set_option maxRecDepth 100000
theorem cells24 : Tryz.prog.cellsOf 24 = 3 := by kernel_rfl
theorem cells26 : Tryz.prog.cellsOf 26 = 9 := by kernel_rfl
theorem bytes26 : Tryz.prog.bytesOf 26 = 96 := by kernel_rfl
theorem cellsS : Tryz.prog.cellsOf 9 = 1 := by kernel_rfl
theorem cellsI : Tryz.prog.cellsOf 3 = 1 := by kernel_rfl
theorem cellsB : Tryz.prog.cellsOf 4 = 1 := by kernel_rfl
theorem str_of (s : ByteArray) : s = str (bs s) := (str_bs s).symm

section
variable {H : Type} {enc : TypeId × Value → H} {w : World} {base : Nat} {spare : Nat → Bool} {held : Bool} {fuel : Nat} {cs : List Value} {x : DataW H × List MemPlace}
theorem trod_key (h : DataW.trod enc Tryz.prog w base spare held fuel 24 cs = some x) : ∃ k : BKey, cs = [.string (str k.st), .string (str k.ex), .int .i64 k.att] := by
  obtain ⟨xs, n, _, _, hl, hxl, hf⟩ := DataW.trod_struct Tryz.underlying24 h
  rw [cells24] at hl
  obtain ⟨c0, c1, c2, rfl⟩ : ∃ a b c, cs = [a, b, c] := by
    rcases cs with _ | ⟨a, _ | ⟨b, _ | ⟨c, _ | ⟨d, r⟩⟩⟩⟩ <;> simp at hl
    exact ⟨a, b, c, rfl⟩
  obtain ⟨x0, x1, x2, rfl⟩ : ∃ a b c, xs = [a, b, c] := by
    have hxl' : xs.length = 3 := hxl
    rcases xs with _ | ⟨a, _ | ⟨b, _ | ⟨c, _ | ⟨d, r⟩⟩⟩⟩ <;> simp at hxl'
    exact ⟨a, b, c, rfl⟩
  have h0 : DataW.trod enc Tryz.prog w base spare held n 9 (([c0, c1, c2].drop 0).take (Tryz.prog.cellsOf 9)) = some x0 := hf 0 _ rfl
  have h1 : DataW.trod enc Tryz.prog w base spare held n 9 (([c0, c1, c2].drop 1).take (Tryz.prog.cellsOf 9)) = some x1 := hf 1 _ rfl
  have h2 : DataW.trod enc Tryz.prog w base spare held n 3 (([c0, c1, c2].drop 2).take (Tryz.prog.cellsOf 3)) = some x2 := hf 2 _ rfl
  rw [cellsS] at h0 h1
  rw [cellsI] at h2
  obtain ⟨s0, e0, _, _⟩ := DataW.trod_string Tryz.underlying9 h0
  obtain ⟨s1, e1, _, _⟩ := DataW.trod_string Tryz.underlying9 h1
  obtain ⟨n2, e2, _, _⟩ := DataW.trod_int Tryz.underlying3 h2
  simp at e0 e1 e2
  exact ⟨⟨bs s0, bs s1, n2⟩, by rw [e0, e1, e2, ← str_of, ← str_of]⟩
theorem trod_ev (h : DataW.trod enc Tryz.prog w base spare held fuel 26 cs = some x) : ∃ e : BEv, cs = evCs e := by
  obtain ⟨xs, n, _, _, hl, hxl, hf⟩ := DataW.trod_struct Tryz.underlying26 h
  rw [cells26] at hl
  obtain ⟨c0, c1, c2, c3, c4, c5, c6, c7, c8, rfl⟩ : ∃ a b c d e f g h i, cs = [a, b, c, d, e, f, g, h, i] := by
    clear h hf
    rcases cs with _ | ⟨a, _ | ⟨b, _ | ⟨c, _ | ⟨d, _ | ⟨e, _ | ⟨f, _ | ⟨g, _ | ⟨hh, _ | ⟨i, _ | ⟨j, r⟩⟩⟩⟩⟩⟩⟩⟩⟩⟩ <;> simp at hl
    exact ⟨a, b, c, d, e, f, g, hh, i, rfl⟩
  obtain ⟨x0, x1, x2, x3, x4, x5, x6, rfl⟩ : ∃ a b c d e f g, xs = [a, b, c, d, e, f, g] := by
    have hxl' : xs.length = 7 := hxl
    rcases xs with _ | ⟨a, _ | ⟨b, _ | ⟨c, _ | ⟨d, _ | ⟨e, _ | ⟨f, _ | ⟨g, _ | ⟨h, r⟩⟩⟩⟩⟩⟩⟩⟩ <;> simp at hxl'
    exact ⟨a, b, c, d, e, f, g, rfl⟩
  have h0 : DataW.trod enc Tryz.prog w base spare held n 3 (([c0, c1, c2, c3, c4, c5, c6, c7, c8].drop 0).take (Tryz.prog.cellsOf 3)) = some x0 := hf 0 _ rfl
  have h1 : DataW.trod enc Tryz.prog w base spare held n 24 (([c0, c1, c2, c3, c4, c5, c6, c7, c8].drop 1).take (Tryz.prog.cellsOf 24)) = some x1 := hf 1 _ rfl
  have h2 : DataW.trod enc Tryz.prog w base spare held n 3 (([c0, c1, c2, c3, c4, c5, c6, c7, c8].drop 4).take (Tryz.prog.cellsOf 3)) = some x2 := hf 2 _ rfl
  have h3 : DataW.trod enc Tryz.prog w base spare held n 3 (([c0, c1, c2, c3, c4, c5, c6, c7, c8].drop 5).take (Tryz.prog.cellsOf 3)) = some x3 := hf 3 _ rfl
  have h4 : DataW.trod enc Tryz.prog w base spare held n 3 (([c0, c1, c2, c3, c4, c5, c6, c7, c8].drop 6).take (Tryz.prog.cellsOf 3)) = some x4 := hf 4 _ rfl
  have h5 : DataW.trod enc Tryz.prog w base spare held n 9 (([c0, c1, c2, c3, c4, c5, c6, c7, c8].drop 7).take (Tryz.prog.cellsOf 9)) = some x5 := hf 5 _ rfl
  have h6 : DataW.trod enc Tryz.prog w base spare held n 4 (([c0, c1, c2, c3, c4, c5, c6, c7, c8].drop 8).take (Tryz.prog.cellsOf 4)) = some x6 := hf 6 _ rfl
  rw [cellsI] at h0 h2 h3 h4
  rw [cells24] at h1
  rw [cellsS] at h5
  rw [cellsB] at h6
  obtain ⟨k, ek⟩ := trod_key h1
  obtain ⟨n0, e0, _, _⟩ := DataW.trod_int Tryz.underlying3 h0
  obtain ⟨n2, e2, _, _⟩ := DataW.trod_int Tryz.underlying3 h2
  obtain ⟨n3, e3, _, _⟩ := DataW.trod_int Tryz.underlying3 h3
  obtain ⟨n4, e4, _, _⟩ := DataW.trod_int Tryz.underlying3 h4
  obtain ⟨s5, e5, _, _⟩ := DataW.trod_string Tryz.underlying9 h5
  obtain ⟨b6, e6, _⟩ := DataW.trod_bool Tryz.underlying4 h6
  simp at e0 e2 e3 e4 e5 e6 ek
  exact ⟨⟨n0, k, n2, n3, n4, bs s5, b6⟩, by rw [e0, ek.1, ek.2.1, ek.2.2, e2, e3, e4, e5, e6]; simp only [evCs, ← str_of]⟩
end
theorem list_of {α : Type} {P : Nat → α → Prop} : ∀ n, (∀ i, i < n → ∃ e, P i e) → ∃ l : List α, l.length = n ∧ ∀ i (hi : i < l.length), P i l[i]
  | 0, _ => ⟨[], rfl, fun i hi => by cases hi⟩
  | n + 1, h => by
    obtain ⟨l, hl, hp⟩ := list_of n fun i hi => h i (by omega)
    obtain ⟨e, he⟩ := h n (by omega)
    refine ⟨l ++ [e], by simp [hl], fun i hi => ?_⟩
    by_cases hin : i < l.length
    · rw [List.getElem_append_left hin]; exact hp i hin
    · rw [List.getElem_append_right (by omega)]
      have : i = n := by simp at hi; omega
      subst this
      simpa using he
theorem evs_in {H : Type} {enc : TypeId × Value → H} {W : World} {base b0 : Nat} {sp : Nat → Bool} {held : Bool} {r : Reach} {v : Value} {d : DataW H} {ps : List MemPlace}
    (hval : Value.okWide Tryz.prog W r b0 22 v) (h : DataW.Trod enc Tryz.prog W base sp held 22 v d ps) (hw : ∀ x ∈ d.weights Tryz.prog 22, x ≤ reachBytes) :
    ∃ l : List BEv, RowsIn evCs 9 W v l ∧ l.length ≤ 4000000000000 := by
  obtain ⟨a0, n0, c0, rfl⟩ := okWide_slice Tryz.underlying22 hval
  obtain ⟨fuel, hf⟩ := h
  rcases Go.Deep.open_slice Tryz.underlying22 hf with ⟨hv, hx⟩ | ⟨a, len, cap, m, n, D, Pl, hv, _, hl, hm, hmm, hx, hi⟩
  · simp only [Value.cells, List.cons.injEq, Value.slice.injEq, and_true] at hv
    obtain ⟨rfl, rfl, rfl⟩ := hv
    exact ⟨[], RowsIn.nil _, by simp⟩
  · simp only [Value.cells, List.cons.injEq, Value.slice.injEq, and_true] at hv
    obtain ⟨rfl, rfl, rfl⟩ := hv
    have hle : n0 ≤ m := by rw [hmm]; split <;> omega
    rw [cells26] at hi
    obtain ⟨l, hll, hp⟩ := list_of (P := fun i e => ∀ j, j < 9 → W.cell? ((a.add (i * 9)).add j) = (evCs e)[j]?) n0 fun i hin => by
      obtain ⟨cs', hc, ht'⟩ := hi i (by omega)
      obtain ⟨_, _, hat⟩ := World.cells?_some hc
      obtain ⟨e, rfl⟩ := trod_ev ht'
      exact ⟨e, hat⟩
    refine ⟨l, ⟨some a, c0, by rw [hll], by omega, fun hx => ?_⟩, ?_⟩
    · have h0 : 0 < l.length := List.length_pos_iff.2 hx
      have hs : a.spot = none := by
        have := hp 0 h0 0 (by omega)
        simp only [Nat.zero_mul, Addr.add, if_pos, World.cell?] at this
        split at this
        · split at this
          · cases this
          · rename_i hn
            simpa using hn
        · cases this
      have ea : a = ⟨a.block, a.off, none⟩ := by rw [← hs]
      have hadd : ∀ i j, (a.add i).add j = ⟨a.block, a.off + i + j, none⟩ := fun i j => by rw [ea, Addr.add_mid, Addr.add_mid]
      refine ⟨a.block, a.off, by rw [← ea], ?_, fun i hi j hj => ?_⟩
      · have := hp 0 h0 0 (by omega)
        rw [hadd] at this
        rw [show (evCs l[0])[0]? = some (.int .i64 l[0].kind) from rfl] at this
        exact World.block_lt_of_cell? W (⟨a.block, a.off + 0 * 9 + 0, none⟩ : Addr) this
      · have := hp i hi j hj
        rw [hadd] at this
        rw [this]
        exact List.getElem?_eq_getElem hj
    · have hd := congrArg Prod.fst hx
      simp only at hd
      subst hd
      have h5 := hw ((n0 + (m - n0)) * 96) (by simp [DataW.weights, Tryz.underlying22, bytes26])
      unfold reachBytes at h5
      rw [hll]
      omega
theorem ev_in {H : Type} {enc : TypeId × Value → H} {W : World} {base b0 : Nat} {sp : Nat → Bool} {held : Bool} {r : Reach} {v : Value} {d : DataW H} {ps : List MemPlace}
    (hval : Value.okWide Tryz.prog W r b0 26 v) (h : DataW.Trod enc Tryz.prog W base sp held 26 v d ps) : ∃ e : BEv, v = evV e := by
  obtain ⟨cs, rfl, _⟩ := okWide_struct Tryz.underlying26 hval
  obtain ⟨fuel, hf⟩ := h
  obtain ⟨e, he⟩ := trod_ev hf
  refine ⟨e, ?_⟩
  have : cs.toList = evCs e := he
  rw [show cs = (evCs e).toArray from by rw [← this]]
end Go.Proofs.YtnjiomggbafkmaaGreatDoor
