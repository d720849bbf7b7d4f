/- Contracts of small functions of package record and of the library: strings.Builder's copyCheck and WriteString, IndexRune over the hexadecimal digits, digit. -/
import Derived.Test.YtcbapogicjhkjaaDoorShelf
import Derived.WalkKit
import Derived.WalkLawsBesides
import Derived.WalkSpells
import Derived.Deep.QuietTactic
import Derived.BigQuiet
import Derived.Deep.Draws
import Derived.KernelRfl
import Derived.Lib.Hide
import Derived.LoopN
namespace Go.Proofs.YtcbapogicjhkjaaDoor
open Go.RowKit Go.Lib

theorem infoBuilder : (Tryd.prog.info? 59).map (·.size) = some 2 := by kernel_rfl
theorem liesBuilder : liesAt Tryd.prog Tryd.prog.depth 59 (2 / Tryd.prog.cellsOf 59) 0 59 1 = true := by kernel_rfl
theorem infoByte : (Tryd.prog.info? 5).map (fun i => (i.zero, i.size, i.bytes)) = some (some (.int .u8 0), 1, 1) := by kernel_rfl

set_option maxHeartbeats 1000000 in
set_option maxRecDepth 100000 in
theorem copyCheck_used (b : Nat) (w : World) (h0 : w.cell? ⟨b, 0, none⟩ = some (.pointer (some ⟨b, 0, none⟩))) :
    Calls Tryd.prog 52 #[.pointer (some ⟨b, 0, none⟩)] w fun e w' => e = .returned (.tuple #[]) ∧ w' = w := by
  obtain ⟨j, hj, _⟩ := Option.map_eq_some_iff.1 infoBuilder
  go_enter Tryd.func52, Tryd.ntmps52
  go_wp2
  rw [Lib.run_neq_ptr_same w _ Tryd.underlying57 hj]
  go_wp2
  go_end0
  exact ⟨rfl, rfl⟩

set_option maxHeartbeats 1000000 in
set_option maxRecDepth 100000 in
theorem copyCheck_fresh (b : Nat) (w : World) (h0 : w.cell? ⟨b, 0, none⟩ = some (.pointer none)) (hsh : w.shape? b = some (59, 2)) (hfz : w.frozen? ⟨b, 0, none⟩ = false) :
    Calls Tryd.prog 52 #[.pointer (some ⟨b, 0, none⟩)] w fun e w' => e = .returned (.tuple #[]) ∧ w' = w.setCell ⟨b, 0, none⟩ (.pointer (some ⟨b, 0, none⟩)) := by
  obtain ⟨j, hj, hjs⟩ := Option.map_eq_some_iff.1 infoBuilder
  go_enter Tryd.func52, Tryd.ntmps52
  go_wp2
  rw [Lib.run_to_unsafe w ⟨b, 0, none⟩ Tryd.underlying57 Tryd.underlying88 hj (by rw [hjs]; decide) hsh (Nat.zero_lt_succ 1)]
  simp only [Result.andThen]
  rw [Oper.upon_value]
  go_wp2
  rw [run_callFunc_extern Tryd.func61 (by kernel_rfl) (by kernel_rfl) (by kernel_rfl) (e := Extern.AbiNoEscape.same) (by kernel_rfl)]
  rw [Lib.run_noEscape]
  simp only [Result.andThen]
  rw [Oper.upon_value]
  go_wp2
  rw [Lib.run_from_unsafe w ⟨b, 0, none⟩ Tryd.underlying88 Tryd.underlying57 hj hsh liesBuilder]
  simp only [Result.andThen]
  rw [Oper.upon_value]
  go_wp2
  go_end0
  exact ⟨rfl, rfl⟩

theorem copyCheck (B b : Nat) (bs : List Value) (w : World) (h : Lib.IsBuilder 59 5 B b bs w) :
    Calls Tryd.prog 52 #[.pointer (some ⟨b, 0, none⟩)] w fun e w' => e = .returned (.tuple #[]) ∧ (Lib.BuilderAt 59 5 B b (.pointer (some ⟨b, 0, none⟩)) bs w' ∧ Below B w w') := by
  rcases h with h | h
  · refine (copyCheck_fresh b w h.cell0 h.shape h.frozen0).mono ?_
    rintro e w' ⟨rfl, rfl⟩
    exact ⟨rfl, h.used _, (Below.refl B w).setCell (p := ⟨b, 0, none⟩) h.1 _⟩
  · refine (copyCheck_used b w h.cell0).mono ?_
    rintro e w' ⟨rfl, rfl⟩
    exact ⟨rfl, h, Below.refl B _⟩

set_option maxHeartbeats 2000000 in
set_option maxRecDepth 100000 in
/-- WriteString at a builder of the call's own. -/
theorem writeString (B b : Nat) (bs : List Value) (s : ByteArray) (w : World) (h : Lib.IsBuilder 59 5 B b bs w) (hlen : bs.length + s.size ≤ 140737488355328) (hBw : B ≤ w.heap.size) :
    Calls Tryd.prog 31 #[.pointer (some ⟨b, 0, none⟩), .string s] w fun e w' => e = .returned (.tuple #[.int .i64 s.size, .nilIface]) ∧ (Lib.BuilderAt 59 5 B b (.pointer (some ⟨b, 0, none⟩)) (bs ++ Lib.strCells s) w' ∧ Below B w w') := by
  obtain ⟨i0, hi, hz0, hz1, hz2⟩ := info_parts infoByte
  go_enter Tryd.func31, Tryd.ntmps31
  go_wp2_with (go_at_call 52; refine (copyCheck B b bs _ h).mono ?_)
  rintro e w1 ⟨rfl, h1, hb1⟩
  obtain ⟨hB, v, hbk, hown, hne⟩ := h1
  have c0 : w1.cell? ⟨b, 0, none⟩ = some (.pointer (some ⟨b, 0, none⟩)) := by rw [Lib.cell_of_heap hbk]; rfl
  have c1 : w1.cell? ⟨b, 1, none⟩ = some v := by rw [Lib.cell_of_heap hbk]; rfl
  go_wp2_with (at_builtin; refine Lib.wpList_append_own_string _ rfl _ _ 33 9 rfl B 5 i0 Tryd.underlying33 Tryd.underlying9 hi hz0 hz1 hz2 _ _ _ rfl hown s rfl ?c3 ?c4 ?c5 ?_)
  case c3 => unfold maxLen; omega
  case c4 => omega
  case c5 => have := hb1.size; omega
  intro v' w2 hown' hgrow _
  have hlt : b < w1.heap.size := by
    rcases Nat.lt_or_ge b w1.heap.size with h' | h'
    · exact h'
    · simp [Array.getElem?_eq_none h'] at hbk
  have hb2 : w2.heap[b]? = some (.cells #[.pointer (some ⟨b, 0, none⟩), v] 59 (0, 0)) := by
    rw [hgrow.block b hlt (fun e => hne e.symm)]
    exact hbk
  have d0 : w2.cell? ⟨b, 0, none⟩ = some (.pointer (some ⟨b, 0, none⟩)) := by rw [Lib.cell_of_heap hb2]; rfl
  have d1 : w2.cell? ⟨b, 1, none⟩ = some v := by rw [Lib.cell_of_heap hb2]; rfl
  have f1 : w2.frozen? ⟨b, 1, none⟩ = false := Lib.frozen_of_heap hb2 1
  obtain ⟨ao, n', cap, rfl⟩ : ∃ ao n' cap, v' = .slice ao n' cap := by
    rcases hown'.2 with ⟨hv, _⟩ | ⟨g, cap, cur, hv, _⟩
    · exact ⟨_, _, _, hv⟩
    · exact ⟨_, _, _, hv⟩
  go_wp2
  go_ret2
  refine ⟨rfl, ?_, ?_⟩
  · exact Lib.BuilderAt.put (T := 59) (e := 5) hB hb2 (bs' := bs ++ Lib.strCells s) (by simpa [Lib.strCells_length] using hown') (by decide)
  · exact (hb1.grown hgrow (by have := hb1.size; omega) (fun k hk => (hown.lt k hk).1)).setCell (p := ⟨b, 1, none⟩) hB _

theorem encode_two (r : Int) (hv : Utf8.valid r = true) (h0 : 128 ≤ r) (h1 : r < 256) : (Utf8.encode r).size = 2 := by
  have hc : ¬ r.toNat < 128 := by omega
  have hd : r.toNat < 2048 := by omega
  unfold Utf8.encode
  simp only [hv, if_true, hc, if_false, hd]
  rfl

set_option maxHeartbeats 2000000 in
set_option maxRecDepth 100000 in
/-- IndexRune over a text of ASCII at a rune of two bytes: it is not there. -/
theorem indexRune_none (s : ByteArray) (hs : ∀ b ∈ s.data.toList, b.toNat < 128) (hn : 2 ≤ s.size) (hn2 : s.size ≤ 100) (r : Int) (w : World) (h0 : 128 ≤ r) (h1 : r < 256) :
    Calls Tryd.prog 62 #[.string s, .int .i32 r] w fun e w' => e = .returned (.int .i64 (-1)) ∧ ∃ n, w' = w.drewN n := by
  have hv : Utf8.valid r = true := by rw [validRune_eq]; simp [Go.validRune]; omega
  have hv2 : Lib.validRune r = true := by simp [Lib.validRune]; omega
  obtain ⟨_, _, e3⟩ := encode_facts r hv h0
  have e2 := encode_two r hv h0 h1
  have e4 := e3 (by omega)
  have e5 : ∀ h : 1 < (Utf8.encode r).size, 128 ≤ ((Utf8.encode r)[1]'h).toNat := by
    intro h
    have : (Utf8.encode r)[(Utf8.encode r).size - 1]'(by omega) = (Utf8.encode r)[1]'h := by congr 1; omega
    rw [← this]; exact e4
  clear e3 e4
  have e7 := e5 (by omega)
  have e6 : ((((s[1]'(by omega) : UInt8).toNat : Int)) != (((Utf8.encode r)[1]'(by omega)).toNat : Int)) = true := by
    have h3 := hs (s[1]'(by omega)) (Array.getElem_mem_toList (xs := s.data) (by exact (show 1 < s.size by omega)))
    rw [bne_iff_ne]
    omega
  have e8 : indexByte (List.take (s.size - 2) (List.drop 2 s.data.toList)) ((Utf8.encode r)[1]'(by omega)) = -1 := by
    have h := firstIdx_ascii s 2 s.size ((Utf8.encode r)[1]'(by omega)) hs e7
    rw [firstIdx_eq, ByteArray.data_extract, Array.toList_extract, List.extract_eq_take_drop] at h
    exact h
  clear e5 e7 hs
  go_enter Tryd.func62, Tryd.ntmps62
  go_wp2_with (go_at_call 69; refine (Tryd.utf8_ValidRune _ _).mono ?_; rintro e w' ⟨rfl, rfl⟩)
  go_step3
  go_wp2
  refine wp_loop_rounds 1 ?_
  rw [rounds_succ]
  go_wp2
  go_step3
  go_wp2
  go_quiet (fail)
  obtain ⟨W1, hW1, hW2⟩ : ∃ W1, W1 = w'.drewN nq ∧ ∃ n, W1 = w'.drewN n := ⟨_, rfl, _, rfl⟩
  rw [← hW1]
  have HW := Lib.hid hW2
  clear hW1 hW2
  go_wp2
  go_quiet ((go_at_call 68; exact Calls.quiet_of_same (Tryd.strings_IndexByte _ _ _)))
  go_wp2
  simp only [Exit.noGoto_ret, Exit.inBlock, Exit.then]
  go_ret
  obtain ⟨n1, hn1⟩ := HW.out
  exact ⟨rfl, n1 + nq, by rw [hn1, World.drewN_drewN]⟩

/-- The sixteen digits. -/
def hexS : ByteArray := ⟨#[48, 49, 50, 51, 52, 53, 54, 55, 56, 57, 97, 98, 99, 100, 101, 102]⟩

/-- The value of a hexadecimal digit, if it is one. -/
def hexVal (c : Int) : Option Int := if 48 ≤ c ∧ c ≤ 57 then some (c - 48) else if 97 ≤ c ∧ c ≤ 102 then some (c - 87) else none

theorem hexVal_index : ∀ n : Fin 128, Lib.indexByte hexS.data.toList (n.val.toUInt8) = (hexVal n.val).getD (-1) := by decide +kernel
theorem hexS_ascii : ∀ b ∈ hexS.data.toList, b.toNat < 128 := by decide +kernel

theorem hexVal_range (c d : Int) (h : hexVal c = some d) : 0 ≤ d ∧ d < 16 := by
  unfold hexVal at h
  split at h
  · simp only [Option.some.injEq] at h; omega
  · split at h
    · simp only [Option.some.injEq] at h; omega
    · cases h

set_option maxHeartbeats 400000 in
/-- digit at a byte. -/
theorem digit_some (c d : Int) (w : World) (h : hexVal c = some d) :
    Calls Tryd.prog 53 #[.int .i32 c] w fun e w' => e = .returned (.tuple #[.int .i64 d, .bool true]) ∧ w' = w := by
  have hd := hexVal_range c d h
  have hc : 0 ≤ c ∧ c < 128 := by
    unfold hexVal at h
    split at h
    · omega
    · split at h
      · omega
      · cases h
  have hi := hexVal_index ⟨c.toNat, by omega⟩
  simp only [Int.toNat_of_nonneg hc.1, h, Option.getD_some] at hi
  have HI := Lib.hid hi
  clear hi h
  go_enter Tryd.func53, Tryd.ntmps53
  go_wp2_with (go_at_call 62; refine (Tryd.strings_IndexRune_ascii hexS _ _ hc.1 hc.2).mono ?_; rintro e w' ⟨rfl, rfl⟩; rw [HI.out])
  go_ret2
  exact ⟨by first | rfl | (simp; omega), rfl⟩

set_option maxHeartbeats 400000 in
theorem digit_none (c : Int) (w : World) (h0 : 0 ≤ c) (h1 : c < 256) (h : hexVal c = none) :
    Calls Tryd.prog 53 #[.int .i32 c] w fun e w' => e = .returned (.tuple #[.int .i64 0, .bool false]) ∧ ∃ n, w' = w.drewN n := by
  by_cases hc : c < 128
  · have hi := hexVal_index ⟨c.toNat, by omega⟩
    simp only [Int.toNat_of_nonneg h0, h, Option.getD_none] at hi
    have HI := Lib.hid hi
    clear hi h
    go_enter Tryd.func53, Tryd.ntmps53
    go_wp2_with (go_at_call 62; refine (Tryd.strings_IndexRune_ascii hexS _ _ h0 hc).mono ?_; rintro e w' ⟨rfl, rfl⟩; rw [HI.out])
    go_ret2
    exact ⟨rfl, 0, rfl⟩
  · have hge : 128 ≤ c := by omega
    clear h hc
    go_enter Tryd.func53, Tryd.ntmps53
    go_wp2_with (go_at_call 62; refine (indexRune_none hexS hexS_ascii (by decide) (by decide) _ _ hge h1).mono ?_; rintro e w' ⟨rfl, n, rfl⟩)
    go_ret2
    exact ⟨rfl, _, rfl⟩

/-- digit, both ways. -/
theorem digit_any (c : Int) (w : World) (h0 : 0 ≤ c) (h1 : c < 256) :
    Calls Tryd.prog 53 #[.int .i32 c] w fun e w' => e = .returned (.tuple #[.int .i64 ((hexVal c).getD 0), .bool (hexVal c).isSome]) ∧ ∃ n, w' = w.drewN n := by
  cases h : hexVal c with
  | none => exact digit_none c w h0 h1 h
  | some d => exact (digit_some c d w h).mono fun e w' ⟨he, hw⟩ => ⟨he, 0, hw⟩

end Go.Proofs.YtcbapogicjhkjaaDoor
