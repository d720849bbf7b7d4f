/- The reference's Pack. -/
import Derived.Test.YtcbapogicjhkjaaDoorRefD
import Derived.Deep.RegionHeld3
namespace Go.Proofs.YtcbapogicjhkjaaDoor
open Go.RowKit Go.Lib

theorem keepS {w wr w1 : World} {p : Addr} {v : Value} (h : wr.cell? p = some v ∧ Below w.heap.size w wr) (hb1 : Below wr.drew.heap.size wr.drew w1) : w1.cell? p = some v ∧ Below w.heap.size w w1 :=
  ⟨(hb1.cell (p := p) (World.block_lt_of_cell? wr _ h.1)).trans h.1, below_seq h.2.drew hb1⟩

set_option maxHeartbeats 4000000 in
set_option maxRecDepth 100000 in
theorem refPack_some (b off c : Nat) (fs : List (List UInt8)) (w : World) (hc : StrsAt w b off fs) (hlen : fs.length ≤ 2500) (hsum : (packL fs).length ≤ 30000) :
    Calls Tryd.prog 24 #[.slice (some ⟨b, off, none⟩) fs.length c] w fun e w' => e = .returned (.tuple #[.string (str (packL fs)), .int .i64 0]) ∧ Below w.heap.size w w' := by
  have hC := Lib.hid hc
  clear hc
  go_enter Tryd.func24, Tryd.ntmps24
  go_wp2_with fail
  go_loopw [4, 5] (fun v4 v5 wr => ∃ k : Nat, k ≤ fs.length ∧ v5 = .int .i64 k ∧ v4 = .string (str (packL (fs.take k))) ∧ Hid (Below w.heap.size w wr)) (fun _ i _ => fs.length - (RowKit.intOf i).toNat)
  case atStart => exact ⟨0, Nat.zero_le _, rfl, rfl, Lib.hid (Below.refl _ _)⟩
  case round =>
    obtain ⟨k, hk, rfl, rfl, hb⟩ := hrel
    by_cases hlt : k < fs.length
    · have hcell := (hC.out.below hb.out) k hlt
      have hle := packL_take_le fs (k + 1)
      rw [packL_step fs k hlt, List.length_append, packF_length] at hle
      have hz : (str fs[k]).size = fs[k].length := str_size _
      have hz2 : (str (decDigits fs[k].length)).size = (decDigits fs[k].length).length := str_size _
      have hz3 : (str (packL (fs.take k))).size = (packL (fs.take k)).length := str_size _
      have hz5 : (str (packL (fs.take k) ++ decDigits fs[k].length)).size = (packL (fs.take k)).length + (decDigits fs[k].length).length := by rw [str_size, List.length_append]
      have hz6 : (str (packL (fs.take k) ++ (decDigits fs[k].length ++ [58]))).size = (packL (fs.take k)).length + (decDigits fs[k].length).length + 1 := by rw [str_size, List.length_append, List.length_append]; rfl
      have hz7 : (str [58]).size = 1 := rfl
      have hcat1 : str (packL (fs.take k)) ++ str (decDigits fs[k].length) = str (packL (fs.take k) ++ decDigits fs[k].length) := (str_append _ _).symm
      have hcat2 : str (packL (fs.take k) ++ decDigits fs[k].length) ++ (⟨#[58]⟩ : ByteArray) = str (packL (fs.take k) ++ (decDigits fs[k].length ++ [58])) := by
        show str (packL (fs.take k) ++ decDigits fs[k].length) ++ str [58] = _
        rw [← List.append_assoc]
        exact (str_append _ _).symm
      have hjoin : packL (fs.take k) ++ (decDigits fs[k].length ++ [58]) ++ fs[k] = packL (fs.take (k + 1)) := by
        rw [packL_step fs k hlt, packF, List.append_assoc, List.append_assoc, List.singleton_append]
      have hcat3 : str (packL (fs.take k) ++ (decDigits fs[k].length ++ [58])) ++ str fs[k] = str (packL (fs.take (k + 1))) :=
        (str_append (packL (fs.take k) ++ (decDigits fs[k].length ++ [58])) fs[k]).symm.trans (congrArg str hjoin)
      clear hjoin
      have hm0 : ¬ (9223372036854775807 < (packL (fs.take k)).length + (decDigits fs[k].length).length) := by omega
      have hm1 : ¬ (9223372036854775807 < (packL (fs.take k)).length + (decDigits fs[k].length).length + 1) := by omega
      have hm2 : ¬ (9223372036854775807 < (packL (fs.take k)).length + (decDigits fs[k].length).length + 1 + fs[k].length) := by omega
      go_wp2_with fail
      have hS0 : wr.cell? ⟨b, off + k, none⟩ = some (.string (str fs[k])) ∧ Below w.heap.size w wr := ⟨hcell, hb.out⟩
      replace hS0 := Lib.hid hS0
      go_region_held3 (fun W => W.cell? ⟨b, off + k, none⟩ = some (.string (str fs[k])) ∧ Below w.heap.size w W) (first | exact ⟨hS0.out.1, hS0.out.2.drew⟩ | exact keepS hS0.out hb1)
        (first | (go_at_call 47; refine (decimal_walk fs[k].length _ (by omega)).mono ?_; rintro e w1 ⟨rfl, hb1⟩))
      all_goals (go_wp2_with fail)
      all_goals (refine ⟨⟨k + 1, by omega, by simp, rfl, ?_⟩, by simp [RowKit.intOf]; omega⟩; first | exact (keepS hS0.out hb1).2 | exact Lib.hid (And.right (by assumption)))
    · have hkk : k = fs.length := by omega
      subst hkk
      rw [List.take_length]
      have hz3 : (str (packL fs)).size = (packL fs).length := str_size _
      go_wp2_with fail
      go_ret2
      exact ⟨rfl, hb.out⟩

set_option maxHeartbeats 1000000 in
theorem refPack_none (a : Option Addr) (c : Nat) (w : World) :
    Calls Tryd.prog 24 #[.slice a 0 c] w fun e w' => e = .returned (.tuple #[.string (str (packL [])), .int .i64 0]) ∧ Below w.heap.size w w' := by
  go_enter Tryd.func24, Tryd.ntmps24
  go_wp2_with fail
  refine wp_loop_rounds 1 ?_
  rw [rounds_succ]
  go_wp2_with fail
  go_ret2
  exact ⟨rfl, Below.refl _ _⟩

/-- The reference's Pack, where the fields are few. -/
theorem refPack_walk (v : Value) (fs : List (List UInt8)) (w : World) (hv : StrsIn w v fs) (hlen : fs.length ≤ 2500) (hsum : (packL fs).length ≤ 30000) :
    Calls Tryd.prog 24 #[v] w fun e w' => e = .returned (.tuple #[.string (str (packL fs)), .int .i64 0]) ∧ Below w.heap.size w w' := by
  rcases hv.split with ⟨rfl, a, c, rfl⟩ | ⟨b, off, c, rfl, hc⟩
  · exact refPack_none a c w
  · exact refPack_some b off c fs w hc hlen hsum
end Go.Proofs.YtcbapogicjhkjaaDoor
