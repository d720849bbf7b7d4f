/- Memory words, of no program: a block of bytes; what a call leaves alone. -/
import Derived.Test.YtnjiomggbafkmaaGreatDoorBase
import Derived.Deep.OwnRows
import Derived.Deep.Draws
import Derived.Laws.IdiomStrings
import Derived.Lib.Hide
namespace Go.Proofs.YtnjiomggbafkmaaGreatDoor
open Go.RowKit

def byteV (b : UInt8) : Value := .int .u8 (b.toNat : Int)
def bytesArr (l : List UInt8) : Array Value := (l.map byteV).toArray

/-- Block B holds just these bytes. -/
def BytesAt (T : TypeId) (w : World) (B : Nat) (l : List UInt8) : Prop := w.heap[B]? = some (.cells (bytesArr l) T (0, 0))

theorem madeCells_bytes (n : Nat) : madeCells #[Value.int .u8 0] n = bytesArr (List.replicate n 0) := by
  apply Array.ext
  · simp [madeCells, bytesArr]
  · intro i h1 h2
    simp [madeCells, bytesArr, byteV, Nat.mod_one]

section
variable {T : TypeId} {w w' : World} {B : Nat} {l : List UInt8}

theorem BytesAt.made (w : World) (n : Nat) : BytesAt T (w.alloc (.cells (madeCells #[Value.int .u8 0] n) T)) w.heap.size (List.replicate n 0) := by
  rw [madeCells_bytes]; exact heap_alloc_new w _
theorem BytesAt.lt (h : BytesAt T w B l) : B < w.heap.size := (Array.getElem?_eq_some_iff.1 h).1
theorem BytesAt.cell (h : BytesAt T w B l) (k : Nat) (hk : k < l.length) : w.cell? ⟨B, k, none⟩ = some (.int .u8 (l[k].toNat : Int)) := by
  unfold BytesAt at h
  simp [World.cell?, h, bytesArr, byteV, hk]
theorem BytesAt.free (h : BytesAt T w B l) (k : Nat) : w.frozen? ⟨B, k, none⟩ = false := by
  unfold BytesAt at h
  simp [World.frozen?, h]
theorem BytesAt.set (h : BytesAt T w B l) (k : Nat) (b : UInt8) : BytesAt T (w.setCell ⟨B, k, none⟩ (.int .u8 (b.toNat : Int))) B (l.set k b) := by
  unfold BytesAt at *
  have e : (bytesArr l).setIfInBounds k (.int .u8 (b.toNat : Int)) = bytesArr (l.set k b) := by
    simp [bytesArr, byteV, List.map_set]
  simp only [World.setCell]
  rw [Array.getElem?_modify, if_pos rfl, h]
  simp [e]
theorem BytesAt.same (h : BytesAt T w B l) (hs : w'.heap[B]? = w.heap[B]?) : BytesAt T w' B l := hs.trans h
theorem BytesAt.drewN (h : BytesAt T w B l) (n : Nat) : BytesAt T (w.drewN n) B l := h
theorem BytesAt.below {K : Nat} (h : BytesAt T w B l) (hb : Below K w w') (hK : B < K) : BytesAt T w' B l := h.same (hb.block B hK)
/-- 'string(b)' of the whole block. -/
theorem BytesAt.str {P : Program} (h : BytesAt T w B l) (src dst : TypeId) (cap : Nat) (hs : P.underlying src = some (.slice T)) (he : P.underlying T = some (.int .u8)) (hd : P.underlying dst = some .string) (n : Nat) (hn : n = l.length) :
    (convert src dst (.slice (some ⟨B, 0, none⟩) n cap)).run P w = .ok (.string (str l)) w := by
  subst hn
  exact run_convert_bytes_back w src dst T ⟨B, 0, none⟩ cap l hs he hd (fun j hj => by
    have : (⟨B, 0, none⟩ : Addr).add j = ⟨B, j, none⟩ := by unfold Addr.add; split <;> simp_all
    rw [this]; exact h.cell j hj)
end

theorem below_drewN' {B : Nat} {w W : World} (h : Below B w W) (n : Nat) : Below B w (W.drewN n) := ⟨h.os, h.tape, h.output, h.size, h.block⟩
theorem below_of_drewN {w : World} (n : Nat) : Below w.heap.size w (w.drewN n) := below_drewN' (Below.refl _ _) n
/-- Two calls one behind the other. -/
theorem below_then {B : Nat} {w w1 w2 : World} (h : Below B w w1) (k : Below w1.heap.size w1 w2) (hB : B ≤ w1.heap.size) : Below B w w2 := h.trans (k.mono hB)
theorem below_seq {w w1 w2 : World} (h : Below w.heap.size w w1) (k : Below w1.heap.size w1 w2) : Below w.heap.size w w2 := below_then h k h.size


/-- Some strings as values. -/
def strV (p : List UInt8) : Value := .string (str p)
def strVs (ps : List (List UInt8)) : List Value := ps.map strV
theorem strVs_length (ps : List (List UInt8)) : (strVs ps).length = ps.length := by simp [strVs]
theorem strVs_snoc (ps : List (List UInt8)) (p : List UInt8) : strVs (ps ++ [p]) = strVs ps ++ [.string (str p)] := by simp [strVs, strV]

/-- The value is a slice that reads as these strings. -/
def StrsIn (w : World) (v : Value) (ps : List (List UInt8)) : Prop :=
  ∃ a c, v = .slice a ps.length c ∧ ∀ i (h : i < ps.length), ∃ b off, a = some ⟨b, off, none⟩ ∧ w.cell? ⟨b, off + i, none⟩ = some (.string (str ps[i]))
theorem StrsIn.nil (w : World) : StrsIn w (.slice none 0 0) [] := ⟨none, 0, rfl, fun i h => by cases h⟩
theorem StrsIn.below {w w' : World} {v : Value} {ps : List (List UInt8)} (h : StrsIn w v ps) (hb : Below w.heap.size w w') : StrsIn w' v ps := by
  obtain ⟨a, c, hv, hc⟩ := h
  refine ⟨a, c, hv, fun i hi => ?_⟩
  obtain ⟨b, off, ha, hx⟩ := hc i hi
  exact ⟨b, off, ha, (hb.cell (p := ⟨b, off + i, none⟩) (World.block_lt_of_cell? w _ hx)).trans hx⟩
/-- A slice that the call owns reads so. -/
theorem StrsIn.of_own {w : World} {B n : Nat} {T : TypeId} {v : Value} {ps : List (List UInt8)} (h : w.ownsRow B T 1 v n (strVs ps)) : StrsIn w v ps := by
  have hn : n = ps.length := by have := h.1; rw [strVs_length] at this; omega
  subst hn
  rcases h.2 with ⟨rfl, h0⟩ | ⟨g, cap, cur, rfl, hB, hg, hnc, hm, hcs, htk⟩
  · refine ⟨none, 0, by rw [h0], fun i hi => by omega⟩
  · refine ⟨_, cap, rfl, fun i hi => ⟨g, 0, rfl, ?_⟩⟩
    have h1 : cur[i]? = some (strV ps[i]) := by
      have h2 : (cur.toList.take (ps.length * 1))[i]? = (strVs ps)[i]? := by rw [htk]
      rw [List.getElem?_take, if_pos (by omega)] at h2
      simp [strVs, hi] at h2
      simpa using h2
    rw [Nat.zero_add]
    simp [World.cell?, hg, h1, strV]
theorem ownsRow_old {w w' : World} {B n size : Nat} {T : TypeId} {v : Value} {xs : List Value} (h : w.ownsRow B T size v n xs) (hb : Below w.heap.size w w') : w'.ownsRow B T size v n xs :=
  h.kept ⟨hb.os, hb.tape, hb.output, hb.size, fun k hk _ => hb.block k hk⟩ (row := none) (by cases hq : v.ownBlock <;> simp)

/-- A slice of strings is empty, or its strings lie one behind the other. -/
theorem StrsIn.split {w : World} {v : Value} {ps : List (List UInt8)} (h : StrsIn w v ps) :
    (ps = [] ∧ ∃ a c, v = .slice a 0 c) ∨ ∃ b off c, v = .slice (some ⟨b, off, none⟩) ps.length c ∧ ∀ i (hi : i < ps.length), w.cell? ⟨b, off + i, none⟩ = some (.string (str ps[i])) := by
  obtain ⟨a, c, hv, hc⟩ := h
  cases ps with
  | nil => exact .inl ⟨rfl, a, c, hv⟩
  | cons p ps =>
    obtain ⟨b, off, ha, _⟩ := hc 0 (by simp)
    refine .inr ⟨b, off, c, by rw [hv, ha], fun i hi => ?_⟩
    obtain ⟨b', off', ha', hx⟩ := hc i hi
    rw [ha] at ha'
    simp only [Option.some.injEq, Addr.mk.injEq, and_true] at ha'
    rw [ha'.1, ha'.2]; exact hx
def StrsAt (w : World) (b off : Nat) (ps : List (List UInt8)) : Prop := ∀ i (_ : i < ps.length), w.cell? ⟨b, off + i, none⟩ = some (.string (str ps[i]))
theorem StrsAt.below {w w' : World} {b off : Nat} {ps : List (List UInt8)} (h : StrsAt w b off ps) (hb : Below w.heap.size w w') : StrsAt w' b off ps := fun i hi =>
  (hb.cell (p := ⟨b, off + i, none⟩) (World.block_lt_of_cell? w _ (h i hi))).trans (h i hi)

theorem StrsAt.lit (w : World) (T : TypeId) (ps : List (List UInt8)) : StrsAt (w.alloc (.cells (strVs ps).toArray T)) w.heap.size 0 ps := fun i hi => by
  have h : (w.alloc (.cells (strVs ps).toArray T)).heap[w.heap.size]? = some (.cells (strVs ps).toArray T (0, 0)) := heap_alloc_new w _
  rw [Nat.zero_add]
  simp only [World.cell?]
  rw [h]
  simp [strVs, strV, hi]

end Go.Proofs.YtnjiomggbafkmaaGreatDoor
