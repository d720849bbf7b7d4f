/- RecordGenerations returns true. -/
import Derived.Test.YtcbapogicjhkjaaDoorAwake54
import Derived.Test.YtcbapogicjhkjaaDoorLawEnc
namespace Go.Proofs.YtcbapogicjhkjaaDoor
open Go.RowKit Go.Lib

theorem same_below' {w w' : World} (h : w = w') : Below w.heap.size w w' := h ▸ Below.refl _ _

/-- What Walk returns where there is no record of the generation. -/
theorem Walk_nothing (data : ByteArray) (o : Int) (hs : data.size ≤ 140737488351232) (h : ∀ k : Nat, o = (k : Int) → (1 ≤ k ∧ k ≤ 1099511627776) → decL (bs data) k = none) : ∀ w, Calls Tryd.prog 11 #[.string data, .int .i64 o] w fun e w' =>
    (∃ a c, e = .returned (.tuple #[.slice a 0 c, .int .i64 0])) ∧ Below w.heap.size w w' := by
  intro w
  by_cases ho : 1 ≤ o ∧ o ≤ 1099511627776
  · obtain ⟨k, rfl⟩ := Int.eq_ofNat_of_zero_le (show 0 ≤ o by omega)
    have hd := h k rfl (by omega)
    refine (Walk_walk data k w (by omega) hs).mono ?_
    rintro e w' ⟨⟨v, rfl, hv⟩, hb⟩
    rw [walkL_none hd] at hv ⊢
    obtain ⟨a, c, rfl, _⟩ := hv
    exact ⟨⟨a, c, rfl⟩, hb⟩
  · exact (Walk_bad data o w ho hs).mono fun e w' ⟨he, hw⟩ => ⟨⟨none, 0, he⟩, same_below' hw⟩

/-- What Decode returns where there is no record of the generation. -/
theorem Decode_nothing (data : ByteArray) (o : Int) (hs : data.size ≤ 140737488351232) (h : ∀ k : Nat, o = (k : Int) → (1 ≤ k ∧ k ≤ 1099511627776) → decL (bs data) k = none) : ∃ n : Int, n ≠ 0 ∧ ∀ w, Calls Tryd.prog 16 #[.string data, .int .i64 0, .int .i64 o] w fun e w' =>
    e = .returned (.tuple #[.string ⟨#[]⟩, .int .i64 0, .int .i64 n]) ∧ Below w.heap.size w w' := by
  by_cases ho : 1 ≤ o ∧ o ≤ 1099511627776
  · obtain ⟨k, rfl⟩ := Int.eq_ofNat_of_zero_le (show 0 ≤ o by omega)
    have hd := h k rfl (by omega)
    by_cases he : data.size = 0
    · exact ⟨7, by decide, fun w => (Decode_end data 0 k w (by omega) (by omega) he.symm).mono fun e w' ⟨h1, h2⟩ => ⟨h1, same_below' h2⟩⟩
    · refine ⟨11, by decide, fun w => (Decode_at data 0 k w (by omega) (by omega) (by omega)).mono fun e w' ⟨h1, h2⟩ => ⟨?_, h2⟩⟩
      rw [h1, List.drop_zero, hd]
      rfl
  · exact ⟨2, by decide, fun w => (Decode_bad data 0 o w (by omega) (Or.inl ho)).mono fun e w' ⟨h1, h2⟩ => ⟨h1, same_below' h2⟩⟩

set_option maxHeartbeats 2000000 in
set_option maxRecDepth 100000 in
theorem RecordGenerations_walk (g o : Int) (v : Value) (ps : List (List UInt8)) (w : World) (h1 : StrsIn w v ps) (hm2 : ps.length ≤ 140737488351232) (ht : Tab w) :
    Calls Tryd.prog 5 #[.int .i64 g, .int .i64 o, v] w fun e w' => e = .returned (.bool true) ∧ Below w.heap.size w w' := by
  have hT := Lib.hid ht
  have H1 := Lib.hid h1
  clear ht h1
  cases hf : fewB ps 6 60 with
  | false =>
    have HF := Lib.hid hf
    clear hf
    go_enter Tryd.func5, Tryd.ntmps5
    go_wp2_with fail
    refine (awake54 _ hT.out).mono ?_
    rintro e w1 ⟨rfl, hb1⟩
    go_wp2_with fail
    refine (Few_walk v ps 6 60 _ (H1.out.below hb1) (by omega)).mono ?_
    rintro e w2 ⟨rfl, rfl⟩
    rw [HF.out]
    go_wp2_with fail
    go_ret
    exact ⟨rfl, hb1⟩
  | true =>
    obtain ⟨hp, hn⟩ := few_true hf
    have hp : ∀ p ∈ ps, p.length ≤ 60 := fun p hq => by have := hp p hq; omega
    have hn : ps.length ≤ 8 := by omega
    have HF := Lib.hid hf
    clear hf
    by_cases hgo : (1 ≤ g ∧ g ≤ 1099511627776) ∧ o ≠ g
    · obtain ⟨k, rfl⟩ := Int.eq_ofNat_of_zero_le (show 0 ≤ g by omega)
      have hne := hgo.2
      have hk : 1 ≤ k ∧ k ≤ 1099511627776 := by omega
      have hz : (str (encL k ps)).size = offL ps := by rw [str_size, encL_length]
      have hoff : offL ps ≤ 1500 := by
        have h2 := offL_bound ps 60 hp
        omega
      have hnone : ∀ j : Nat, o = (j : Int) → (1 ≤ j ∧ j ≤ 1099511627776) → decL (bs (str (encL k ps))) j = none := by
        intro j hj hj2
        rw [bs_str]
        exact decL_none.2 fun q => not_other ps (fun p hq => by have := hp p hq; omega) (by omega) (by omega) (by omega) q
      have cw := Lib.hid (Walk_nothing (str (encL k ps)) o (by omega) hnone)
      obtain ⟨n, hn0, cd⟩ := Decode_nothing (str (encL k ps)) o (by omega) hnone
      have cd := Lib.hid cd
      have hn1 : (n != 0) = true := by simpa using hn0
      have HP := Lib.hid hp
      have HZ := Lib.hid hz
      have hd1 : decide ((k : Int) < 1) = false := by simp; omega
      have hd2 : decide (1099511627776 < (k : Int)) = false := by simp; omega
      have hd3 : (o == (k : Int)) = false := by simp; omega
      clear hnone hp hz hgo hne
      go_enter Tryd.func5, Tryd.ntmps5
      go_wp2_with fail
      refine (awake54 _ hT.out).mono ?_
      rintro e w1 ⟨rfl, hb1⟩
      go_wp2_with fail
      refine (Few_walk v ps 6 60 _ (H1.out.below hb1) (by omega)).mono ?_
      rintro e w2 ⟨rfl, rfl⟩
      rw [HF.out]
      go_wp2_with fail
      refine (lawEncode_walk k v ps _ (H1.out.below hb1) hk HP.out hn).mono ?_
      rintro e w3 ⟨⟨b', c', rfl, hn3⟩, hb3⟩
      clear hn3
      have hb := below_seq hb1 hb3
      clear hb1 hb3
      go_wp2_with fail
      refine (cw.out _).mono ?_
      rintro e w4 ⟨⟨a, c, rfl⟩, hb4⟩
      have hb := below_seq hb hb4
      clear hb4
      go_wp2_with fail
      refine (cd.out _).mono ?_
      rintro e w5 ⟨rfl, hb5⟩
      have hb := below_seq hb hb5
      clear hb5
      go_wp2_with fail
      go_ret
      exact ⟨rfl, hb⟩
    · go_enter Tryd.func5, Tryd.ntmps5
      go_wp2_with fail
      refine (awake54 _ hT.out).mono ?_
      rintro e w1 ⟨rfl, hb1⟩
      go_wp2_with fail
      refine (Few_walk v ps 6 60 _ (H1.out.below hb1) (by omega)).mono ?_
      rintro e w2 ⟨rfl, rfl⟩
      rw [HF.out]
      by_cases ha : g < 1
      · go_wp2_with fail
        go_ret
        exact ⟨rfl, hb1⟩
      · by_cases hc : 1099511627776 < g
        · go_wp2_with fail
          go_ret
          exact ⟨rfl, hb1⟩
        · have he : o = g := by omega
          subst he
          go_wp2_with fail
          go_ret
          exact ⟨rfl, hb1⟩
end Go.Proofs.YtcbapogicjhkjaaDoor
