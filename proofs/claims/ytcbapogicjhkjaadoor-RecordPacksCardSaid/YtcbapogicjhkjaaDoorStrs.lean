/- Strings and Few of the reference of layer 54. -/
import Derived.Test.YtcbapogicjhkjaaDoorRecA
import Derived.Test.YtcbapogicjhkjaaDoorMem
import Derived.LoopN
namespace Go.Proofs.YtcbapogicjhkjaaDoor
open Go.RowKit Go.Lib

theorem strings_take {ps qs : List (List UInt8)} {k : Nat} (h : ps.length = qs.length) (hk : k = ps.length) (ht : ps.take k = qs.take k) : ps = qs := by
  rw [List.take_of_length_le (by omega), List.take_of_length_le (by omega)] at ht
  exact ht
theorem take_step {ps qs : List (List UInt8)} {k : Nat} (h1 : k < ps.length) (h2 : k < qs.length) (ht : ps.take k = qs.take k) (he : ps[k] = qs[k]) : ps.take (k + 1) = qs.take (k + 1) := by
  rw [take_snoc' ps k h1, take_snoc' qs k h2, ht, he]
theorem get_ne {ps qs : List (List UInt8)} {k : Nat} (h1 : k < ps.length) (h2 : k < qs.length) (hne : ps[k] ≠ qs[k]) : ps ≠ qs := by
  intro h
  subst h
  exact hne rfl

theorem drawn_add {w wr : World} (h : ∃ n, wr = w.drewN n) (m : Nat) : ∃ n, wr.drewN m = w.drewN n := by
  obtain ⟨n, rfl⟩ := h
  exact ⟨n + m, by rw [World.drewN_drewN]⟩

set_option maxHeartbeats 1000000 in
set_option maxRecDepth 100000 in
theorem Strings_some (b off c b' off' c' : Nat) (ps qs : List (List UInt8)) (w : World) (h1 : StrsAt w b off ps) (h2 : StrsAt w b' off' qs) (hlen : ps.length = qs.length) (hm : ps.length ≤ 9223372036854775806) :
    Calls Tryd.prog 13 #[.slice (some ⟨b, off, none⟩) ps.length c, .slice (some ⟨b', off', none⟩) qs.length c'] w fun e w' => e = .returned (.bool (decide (ps = qs))) ∧ ∃ n, w' = w.drewN n := by
  have H1 := Lib.hid h1
  have H2 := Lib.hid h2
  have HL := Lib.hid hlen
  clear h1 h2 hlen
  have hne : ((ps.length : Int) != (qs.length : Int)) = false := by rw [bne_eq_false_iff_eq, HL.out]
  go_enter Tryd.func13, Tryd.ntmps13
  go_wp2_with fail
  clear hne
  go_loopw [5] (fun v5 wr => ∃ k : Nat, k ≤ ps.length ∧ v5 = .int .i64 k ∧ Hid (ps.take k = qs.take k) ∧ Hid (∃ n, wr = w.drewN n)) (fun i _ => ps.length - (RowKit.intOf i).toNat)
  case atStart => exact ⟨0, Nat.zero_le _, rfl, Lib.hid rfl, Lib.hid ⟨0, rfl⟩⟩
  case round =>
    obtain ⟨k, hk, rfl, ht, hw⟩ := hrel
    by_cases hlt : k < ps.length
    · have hlt2 : k < qs.length := by rw [← HL.out]; exact hlt
      have hcell : wr.cell? ⟨b, off + k, none⟩ = some (.string (str ps[k])) := by
        obtain ⟨n, rfl⟩ := hw.out
        exact H1.out k hlt
      have hcell2 : wr.cell? ⟨b', off' + k, none⟩ = some (.string (str qs[k])) := by
        obtain ⟨n, rfl⟩ := hw.out
        exact H2.out k hlt2
      by_cases he : ps[k] = qs[k]
      · have hx : ((str ps[k]).toList == (str qs[k]).toList) = true := by rw [he]; exact beq_self_eq_true _
        have HE := Lib.hid he
        clear he
        go_wp2_with fail
        go_quiet (fail)
        go_wp2_with fail
        exact ⟨⟨k + 1, by omega, by simp, take_step hlt hlt2 ht.out HE.out, drawn_add hw.out nq⟩, by simp [RowKit.intOf]; omega⟩
      · have hx : ((str ps[k]).toList == (str qs[k]).toList) = false := by
          rw [beq_eq_false_iff_ne, toList_bs, toList_bs, bs_str, bs_str]; exact he
        have HE := Lib.hid he
        clear he
        go_wp2_with fail
        go_quiet (fail)
        go_wp2_with fail
        go_ret
        refine ⟨?_, drawn_add hw.out nq⟩
        rw [decide_eq_false (get_ne hlt hlt2 HE.out)]
        rfl
    · go_wp2_with fail
      go_ret
      refine ⟨?_, hw.out⟩
      rw [decide_eq_true (strings_take HL.out (by omega) ht.out)]
      rfl

set_option maxHeartbeats 1000000 in
theorem Strings_lens (a : Option Addr) (n c : Nat) (a' : Option Addr) (n' c' : Nat) (w : World) (hne : n ≠ n') :
    Calls Tryd.prog 13 #[.slice a n c, .slice a' n' c'] w fun e w' => e = .returned (.bool false) ∧ w = w' := by
  have hx : ((n : Int) != (n' : Int)) = true := by rw [bne_iff_ne]; omega
  go_enter Tryd.func13, Tryd.ntmps13
  go_wp2_with fail
  go_ret
  exact ⟨rfl, rfl⟩

set_option maxHeartbeats 1000000 in
theorem Strings_empty (a : Option Addr) (c : Nat) (a' : Option Addr) (c' : Nat) (w : World) :
    Calls Tryd.prog 13 #[.slice a 0 c, .slice a' 0 c'] w fun e w' => e = .returned (.bool true) ∧ w = w' := by
  go_enter Tryd.func13, Tryd.ntmps13
  go_wp2_with fail
  refine wp_loop_rounds 1 ?_
  rw [rounds_succ]
  go_wp2_with fail
  go_ret
  exact ⟨rfl, rfl⟩

/-- Strings: whether two lists of strings are equal. -/
theorem Strings_walk (v v' : Value) (ps qs : List (List UInt8)) (w : World) (h1 : StrsIn w v ps) (h2 : StrsIn w v' qs) (hm : ps.length ≤ 9223372036854775806) :
    Calls Tryd.prog 13 #[v, v'] w fun e w' => e = .returned (.bool (decide (ps = qs))) ∧ ∃ n, w' = w.drewN n := by
  by_cases hl : ps.length = qs.length
  · rcases h1.split with ⟨rfl, a, c, rfl⟩ | ⟨b, off, c, rfl, hc⟩
    · have hq : qs = [] := List.eq_nil_of_length_eq_zero (by simpa using hl.symm)
      subst hq
      obtain ⟨a', c', rfl, _⟩ := h2
      exact (Strings_empty a c a' c' w).mono fun e w' ⟨he, hw⟩ => ⟨by rw [he]; rfl, 0, hw.symm⟩
    · rcases h2.split with ⟨rfl, a', c', rfl⟩ | ⟨b', off', c', rfl, hc'⟩
      · have hq : ps = [] := List.eq_nil_of_length_eq_zero (by simpa using hl)
        subst hq
        exact (Strings_empty _ c a' c' w).mono fun e w' ⟨he, hw⟩ => ⟨by rw [he]; rfl, 0, hw.symm⟩
      · exact Strings_some b off c b' off' c' ps qs w hc hc' hl hm
  · obtain ⟨a, c, rfl, _⟩ := h1
    obtain ⟨a', c', rfl, _⟩ := h2
    have hne : ps ≠ qs := fun h => hl (by rw [h])
    exact (Strings_lens a _ c a' _ c' w hl).mono fun e w' ⟨he, hw⟩ => ⟨by rw [he, decide_eq_false hne], 0, hw.symm⟩

/-- Few strings, all of them short. -/
def fewB (ps : List (List UInt8)) (count bytes : Int) : Bool := ps.all (fun p => decide ((p.length : Int) ≤ bytes)) && decide ((ps.length : Int) ≤ count)

set_option maxHeartbeats 1000000 in
set_option maxRecDepth 100000 in
theorem Few_some (b off c : Nat) (ps : List (List UInt8)) (count bytes : Int) (w : World) (h1 : StrsAt w b off ps) (hm : ps.length ≤ 9223372036854775806) :
    Calls Tryd.prog 14 #[.slice (some ⟨b, off, none⟩) ps.length c, .int .i64 count, .int .i64 bytes] w fun e w' => e = .returned (.bool (fewB ps count bytes)) ∧ w = w' := by
  have H1 := Lib.hid h1
  clear h1
  go_enter Tryd.func14, Tryd.ntmps14
  go_wp2_with fail
  go_loop [7] (fun v7 => ∃ k : Nat, k ≤ ps.length ∧ v7 = .int .i64 k ∧ Hid ((ps.take k).all (fun p => decide ((p.length : Int) ≤ bytes)) = true)) (fun i => ps.length - (RowKit.intOf i).toNat)
  case atStart => exact ⟨0, Nat.zero_le _, rfl, Lib.hid rfl⟩
  case round =>
    obtain ⟨k, hk, rfl, ht⟩ := hrel
    by_cases hlt : k < ps.length
    · have hcell := H1.out k hlt
      have hz : (str ps[k]).size = ps[k].length := str_size _
      by_cases he : (ps[k].length : Int) ≤ bytes
      · go_wp2_with fail
        refine ⟨⟨k + 1, by omega, by simp, Lib.hid ?_⟩, by simp [RowKit.intOf]; omega⟩
        rw [take_snoc' ps k hlt, List.all_append, ht.out]
        simpa using he
      · have hgt : bytes < (ps[k].length : Int) := by omega
        have HF := Lib.hid (show fewB ps count bytes = false from by
          unfold fewB
          rw [Bool.and_eq_false_iff]; left
          rw [List.all_eq_false]
          exact ⟨ps[k], List.getElem_mem hlt, by simpa using hgt⟩)
        clear he
        go_wp2_with fail
        go_ret
        exact ⟨by rw [HF.out]; rfl, rfl⟩
    · have HF := Lib.hid (show fewB ps count bytes = decide ((ps.length : Int) ≤ count) from by
        have h := ht.out
        rw [List.take_of_length_le (by omega)] at h
        unfold fewB
        rw [h, Bool.true_and])
      go_wp2_with fail
      go_ret
      exact ⟨by rw [HF.out]; rfl, rfl⟩

set_option maxHeartbeats 1000000 in
theorem Few_empty (a : Option Addr) (c : Nat) (count bytes : Int) (w : World) :
    Calls Tryd.prog 14 #[.slice a 0 c, .int .i64 count, .int .i64 bytes] w fun e w' => e = .returned (.bool (fewB [] count bytes)) ∧ w = w' := by
  go_enter Tryd.func14, Tryd.ntmps14
  go_wp2_with fail
  refine wp_loop_rounds 1 ?_
  rw [rounds_succ]
  go_wp2_with fail
  go_ret
  exact ⟨by simp [fewB], rfl⟩

theorem Few_walk (v : Value) (ps : List (List UInt8)) (count bytes : Int) (w : World) (h1 : StrsIn w v ps) (hm : ps.length ≤ 9223372036854775806) :
    Calls Tryd.prog 14 #[v, .int .i64 count, .int .i64 bytes] w fun e w' => e = .returned (.bool (fewB ps count bytes)) ∧ w = w' := by
  rcases h1.split with ⟨rfl, a, c, rfl⟩ | ⟨b, off, c, rfl, hc⟩
  · exact Few_empty a c count bytes w
  · exact Few_some b off c ps count bytes w hc hm

end Go.Proofs.YtcbapogicjhkjaaDoor
