/- Pack of package record, where Encode is not in the cut: the words of Encode's template that it wants, then Pack's template. -/
import Derived.Test.YtnjiomggbafkmaaGreatDoorRecAB
import Derived.Test.YtnjiomggbafkmaaGreatDoorMem
import Derived.OwnWalk
import Derived.WalkSmall
import Derived.LoopN
namespace Go.Proofs.YtnjiomggbafkmaaGreatDoor
open Go.RowKit Go.Lib

theorem grownBy_of_below {w w' : World} (hb : Below w.heap.size w w') (row : Option Nat) : w.grownBy w' row := ⟨hb.os, hb.tape, hb.output, hb.size, fun k hk _ => hb.block k hk⟩
theorem builderAt_old {T e : TypeId} {B b : Nat} {p : Value} {xs : List Value} {w w' : World} (h : Lib.BuilderAt T e B b p xs w) (hb : Below w.heap.size w w') : Lib.BuilderAt T e B b p xs w' := by
  have hlt := h.lt
  obtain ⟨hB, v, hv, ho, hne⟩ := h
  exact ⟨hB, v, (hb.block b hlt).trans hv, ho.kept (grownBy_of_below hb none) (by cases hq : v.ownBlock <;> simp), hne⟩
theorem isBuilder_old {T e : TypeId} {B b : Nat} {xs : List Value} {w w' : World} (h : Lib.IsBuilder T e B b xs w) (hb : Below w.heap.size w w') : Lib.IsBuilder T e B b xs w' :=
  h.elim (fun h => .inl (builderAt_old h hb)) (fun h => .inr (builderAt_old h hb))

theorem builderAtF_old {T e : TypeId} {B b : Nat} {p : Value} {xs : List Value} {w w' : World} (h : Lib.BuilderAtF T e B b p xs w) (hb : Below w.heap.size w w') : Lib.BuilderAtF T e B b p xs w' := by
  have hlt := h.lt
  obtain ⟨hB, v, hv, ho, hne⟩ := h
  refine ⟨hB, v, (hb.block b hlt).trans hv, ⟨ho.1, ?_⟩, hne⟩
  rcases ho.2 with h0 | ⟨g, cap, cur, fz, h1, h2, h3, h4⟩
  · exact .inl h0
  · exact .inr ⟨g, cap, cur, fz, h1, h2, (hb.block g (Array.getElem?_eq_some_iff.1 h3).1).trans h3, h4⟩
theorem isBuilderF_old {T e : TypeId} {B b : Nat} {xs : List Value} {w w' : World} (h : Lib.IsBuilderF T e B b xs w) (hb : Below w.heap.size w w') : Lib.IsBuilderF T e B b xs w' :=
  h.elim (fun h => .inl (builderAtF_old h hb)) (fun h => .inr (builderAtF_old h hb))

theorem strCells_str (l : List UInt8) : Lib.strCells (str l) = Lib.byteCells l := by
  rw [Lib.strCells_eq]; exact congrArg Lib.byteCells (bs_str l)

/-- The library's table of powers reads as its initialiser lays it. -/
def Tab (w : World) : Prop := Lib.TabIs Tryz.prog w "internal/strconv.uint64pow10" .u64 Lib.pow10Tab
theorem Tab.below {w w' : World} (h : Tab w) (hb : Below w.heap.size w w') : Tab w' := by
  unfold Tab Lib.TabIs at *
  cases hg : Tryz.prog.globalNamed "internal/strconv.uint64pow10" with
  | none => simp [World.var?, hg] at h
  | some g =>
    refine var?_below hb hg ?_ h
    simp only [World.var?, hg, Option.bind_some] at h
    cases hx : w.heap[g]? with
    | none => rw [hx] at h; cases h
    | some o => exact (Array.getElem?_eq_some_iff.1 hx).1

theorem below_grow (w : World) (k : Nat) (os : Array Obj) : Below w.heap.size w (Sort.grow (w.drewN k) os) :=
  ⟨rfl, rfl, rfl, by simp [Sort.grow, World.drewN], fun i hi => by
    show (w.heap ++ os)[i]? = _
    rw [Array.getElem?_append_left hi]⟩

/-- strconv.Itoa at a number that is not negative. -/
theorem itoa_walk (n : Nat) (w : World) (hn : n < 9223372036854775808) (ht : Tab w) :
    Calls Tryz.prog 67 #[.int .i64 n] w fun e w' => e = .returned (.string (str (decDigits n))) ∧ Below w.heap.size w w' := by
  refine (Tryz.strconv_Itoa (n : Int) (by omega) (by omega) w ht).mono ?_
  rintro e w' ⟨rfl, k, os, rfl⟩
  exact ⟨by rw [itoa_nonneg]; rfl, below_grow _ _ _⟩

/-- The bytes of a field. -/
def packF (f : List UInt8) : List UInt8 := decDigits f.length ++ 58 :: f
/-- The bytes of fields. -/
def packL (fs : List (List UInt8)) : List UInt8 := fs.flatMap packF
theorem packL_snoc (fs : List (List UInt8)) (f : List UInt8) : packL (fs ++ [f]) = packL fs ++ packF f := by simp [packL]
theorem packF_length (f : List UInt8) : (packF f).length = (decDigits f.length).length + 1 + f.length := by simp [packF]; omega
theorem packL_take_le (fs : List (List UInt8)) (k : Nat) : (packL (fs.take k)).length ≤ (packL fs).length := by
  have h : packL fs = packL (fs.take k) ++ packL (fs.drop k) := by
    unfold packL
    rw [← List.flatMap_append, List.take_append_drop]
  rw [h, List.length_append]; omega
theorem packL_step (fs : List (List UInt8)) (k : Nat) (h : k < fs.length) : packL (fs.take (k + 1)) = packL (fs.take k) ++ packF fs[k] := by
  rw [take_snoc' fs k h, packL_snoc]

def packRes (fs : List (List UInt8)) : Value := if fs.length ≤ 4096 ∧ (packL fs).length ≤ 30000 then .tuple #[.string (str (packL fs)), .int .i64 0] else .tuple #[.string ⟨#[]⟩, .int .i64 8]

set_option maxHeartbeats 2000000 in
set_option maxRecDepth 100000 in
theorem Pack_some (b off c : Nat) (fs : List (List UInt8)) (w : World) (hc : StrsAt w b off fs) (hlen : fs.length ≤ 1000000000000) (hsum : (packL fs).length ≤ 1000000000000) (ht : Tab w) :
    Calls Tryz.prog 58 #[.slice (some ⟨b, off, none⟩) fs.length c] w fun e w' => e = .returned (packRes fs) ∧ Below w.heap.size w w' := by
  have hC := Lib.hid hc
  have hT := Lib.hid ht
  clear hc ht
  go_enter Tryz.func58, Tryz.ntmps58
  go_wp2_with fail
  go_loopw [4, 12] (fun v4 v12 wr => ∃ k : Nat, k ≤ fs.length ∧ v12 = .int .i64 k ∧ v4 = .int .i64 ((packL (fs.take k)).length : Int) ∧ Hid (Below w.heap.size w wr)) (fun _ i _ => fs.length - (RowKit.intOf i).toNat)
  case atStart => exact ⟨0, Nat.zero_le _, rfl, rfl, Lib.hid (Below.refl _ _)⟩
  case round =>
    obtain ⟨k, hk, rfl, rfl, hb⟩ := hrel
    by_cases hlt : k < fs.length
    · have hcell := (hC.out.below hb.out) k hlt
      have hle := packL_take_le fs (k + 1)
      rw [packL_step fs k hlt, List.length_append, packF_length] at hle
      have hz : (str fs[k]).size = fs[k].length := str_size _
      have hz2 : (str (decDigits fs[k].length)).size = (decDigits fs[k].length).length := str_size _
      go_wp2_with fail
      refine (itoa_walk fs[k].length _ (by omega) (hT.out.below hb.out)).mono ?_
      rintro e w1 ⟨rfl, hb1⟩
      go_wp2_with fail
      exact ⟨⟨k + 1, by omega, by simp, by rw [packL_step fs k hlt, List.length_append, packF_length]; simp, Lib.hid (below_seq hb.out hb1)⟩, by simp [RowKit.intOf]; omega⟩
    · have htk : fs.take k = fs := List.take_of_length_le (by omega)
      by_cases h1 : fs.length ≤ 4096
      · by_cases h2 : (packL fs).length ≤ 30000
        · have hres := Lib.hid (show packRes fs = _ from if_pos ⟨h1, h2⟩)
          go_wp2_with fail
          clear htk
          obtain ⟨wo, hwo⟩ : ∃ wo : World, wo = wr := ⟨_, rfl⟩
          subst hwo
          have hI := Lib.hid (Lib.fresh_isBuilder 124 5 wo)
          have hb1 := Lib.hid ((Below.refl wo.heap.size wo).alloc (Nat.le_refl _) (.cells #[Value.pointer none, Value.slice none 0 0] 124))
          go_loopw [36] (fun v36 wq => ∃ j : Nat, j ≤ fs.length ∧ v36 = .int .i64 j ∧ Hid (Lib.IsBuilder 124 5 wo.heap.size wo.heap.size (Lib.byteCells (packL (fs.take j))) wq) ∧ Hid (Below wo.heap.size wo wq)) (fun i _ => fs.length - (RowKit.intOf i).toNat)
          case atStart => exact ⟨0, Nat.zero_le _, rfl, hI, hb1⟩
          case round =>
            clear hI hb1
            obtain ⟨j, hj, rfl, hI, hb1⟩ := hrel
            have hbw := Lib.hid (below_seq hb.out hb1.out)
            by_cases hlj : j < fs.length
            · have hcell := (hC.out.below hbw.out) j hlj
              have hle := packL_take_le fs (j + 1)
              rw [packL_step fs j hlj, List.length_append, packF_length] at hle
              have hz : (str fs[j]).size = fs[j].length := str_size _
              have hz2 : (str (decDigits fs[j].length)).size = (decDigits fs[j].length).length := str_size _
              go_wp2_with fail
              refine (itoa_walk fs[j].length _ (by omega) (hT.out.below hbw.out)).mono ?_
              rintro e w1 ⟨rfl, hb2⟩
              go_wp2_with fail
              rw [show (str (decDigits fs[j].length) ++ (⟨#[58]⟩ : ByteArray) ++ str fs[j]) = str (packF fs[j]) from by
                rw [show (⟨#[58]⟩ : ByteArray) = str [58] from rfl, str_append, str_append]; simp [packF]]
              have hb3 := below_seq hb1.out hb2
              refine (writeString wo.heap.size wo.heap.size _ _ _ (isBuilder_old hI.out hb2) (by rw [str_size, Lib.byteCells_length, packF_length]; omega) hb3.size).mono ?_
              rintro e w2 ⟨rfl, hI2, hb4⟩
              rw [strCells_str, ← Lib.byteCells_append, ← packL_step fs j hlj] at hI2
              have hI3 := Lib.hid hI2
              clear hI2 hI
              go_wp2_with fail
              exact ⟨⟨j + 1, by omega, by simp, .inr hI3.out, hb3.trans hb4⟩, by simp [RowKit.intOf]; omega⟩
            · have htk : fs.take j = fs := List.take_of_length_le (by omega)
              have hI1 := hI.out
              rw [htk] at hI1
              have hI2 := Lib.hid hI1
              clear hI1 hI htk
              go_wp2_with fail
              refine (Tryz.Builder_String_any wo.heap.size wo.heap.size (packL fs) _ hI2.out hb1.out.size).mono ?_
              rintro e w1 ⟨rfl, hb2⟩
              go_wp2_with fail
              go_ret2
              exact ⟨by rw [hres.out]; rfl, below_seq hb.out (hb1.out.trans hb2)⟩
        · have hres := Lib.hid (show packRes fs = _ from if_neg (fun h => h2 h.2))
          go_wp2_with fail
          go_ret2
          exact ⟨by rw [hres.out]; rfl, hb.out⟩
      · have hres := Lib.hid (show packRes fs = _ from if_neg (fun h => h1 h.1))
        go_wp2_with fail
        go_ret2
        exact ⟨by rw [hres.out]; rfl, hb.out⟩

set_option maxHeartbeats 1000000 in
set_option maxRecDepth 100000 in
theorem Pack_none (a : Option Addr) (c : Nat) (w : World) :
    Calls Tryz.prog 58 #[.slice a 0 c] w fun e w' => e = .returned (packRes []) ∧ Below w.heap.size w w' := by
  go_enter Tryz.func58, Tryz.ntmps58
  go_wp2_with fail
  refine wp_loop_rounds 1 ?_
  rw [rounds_succ]
  go_wp2_with fail
  refine wp_loop_rounds 1 ?_
  rw [rounds_succ]
  go_wp2_with fail
  refine (Tryz.Builder_String_any w.heap.size w.heap.size [] _ (Lib.fresh_isBuilder 124 5 w) (by simp)).mono ?_
  rintro e w1 ⟨rfl, hb2⟩
  go_wp2_with fail
  go_ret2
  exact ⟨rfl, ((Below.refl _ _).alloc (Nat.le_refl _) _).trans hb2⟩

/-- Pack, whatever the slice. -/
theorem Pack_walk (v : Value) (fs : List (List UInt8)) (w : World) (hv : StrsIn w v fs) (hlen : fs.length ≤ 1000000000000) (hsum : (packL fs).length ≤ 1000000000000) (ht : Tab w) :
    Calls Tryz.prog 58 #[v] w fun e w' => e = .returned (packRes fs) ∧ Below w.heap.size w w' := by
  rcases hv.split with ⟨rfl, a, c, rfl⟩ | ⟨b, off, c, rfl, hc⟩
  · exact Pack_none a c w
  · exact Pack_some b off c fs w hc hlen hsum ht

end Go.Proofs.YtnjiomggbafkmaaGreatDoor
