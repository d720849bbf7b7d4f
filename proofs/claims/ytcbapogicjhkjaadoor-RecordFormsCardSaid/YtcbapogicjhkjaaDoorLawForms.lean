/- RecordForms returns true. -/
import Derived.Test.YtcbapogicjhkjaaDoorAwake54
import Derived.Test.YtcbapogicjhkjaaDoorRefC
import Derived.Test.YtcbapogicjhkjaaDoorStrs
namespace Go.Proofs.YtcbapogicjhkjaaDoor
open Go.RowKit Go.Lib

theorem same_below {w w' : World} (h : w = w') : Below w.heap.size w w' := h ▸ Below.refl _ _

/-- Both ways of encoding answer alike. -/
theorem encode_both (g : Int) (p : ByteArray) (hp : p.size ≤ 100) : ∃ (s : ByteArray) (e : Int),
    (∀ W, Calls Tryd.prog 17 #[.int .i64 g, .string p] W fun r w' => r = .returned (.tuple #[.string s, .int .i64 e]) ∧ Below W.heap.size W w') ∧
    (∀ W, Calls Tryd.prog 18 #[.int .i64 g, .string p] W fun r w' => r = .returned (.tuple #[.string s, .int .i64 e]) ∧ Below W.heap.size W w') := by
  by_cases hg : 1 ≤ g ∧ g ≤ 1099511627776
  · obtain ⟨k, rfl⟩ := Int.eq_ofNat_of_zero_le (show 0 ≤ g by omega)
    exact ⟨_, _, fun W => encode_walk k p W (by omega) (by omega) (by omega), fun W => refEncode_walk k p W (by omega) (by omega) (by omega)⟩
  · exact ⟨_, _, fun W => (encode_range g p W hg).mono fun _ _ h => ⟨h.1, same_below h.2⟩, fun W => (refEncode_range g p W hg).mono fun _ _ h => ⟨h.1, same_below h.2⟩⟩

/-- Both ways of decoding answer alike. -/
theorem decode_both (d : ByteArray) (at_ g : Int) (hd : d.size ≤ 600) : ∃ (x : ByteArray) (n e : Int),
    (∀ W, Calls Tryd.prog 16 #[.string d, .int .i64 at_, .int .i64 g] W fun r w' => r = .returned (.tuple #[.string x, .int .i64 n, .int .i64 e]) ∧ Below W.heap.size W w') ∧
    (∀ W, Calls Tryd.prog 19 #[.string d, .int .i64 at_, .int .i64 g] W fun r w' => r = .returned (.tuple #[.string x, .int .i64 n, .int .i64 e]) ∧ Below W.heap.size W w') := by
  by_cases hb : badAt d at_ g
  · exact ⟨_, _, _, fun W => (Decode_bad d at_ g W (by omega) hb).mono fun _ _ h => ⟨h.1, same_below h.2⟩, fun W => (refDecode_bad d at_ g W (by omega) hb).mono fun _ _ h => ⟨h.1, same_below h.2⟩⟩
  · unfold badAt at hb
    have hg : 1 ≤ g ∧ g ≤ 1099511627776 := by omega
    obtain ⟨k, rfl⟩ := Int.eq_ofNat_of_zero_le (show 0 ≤ g by omega)
    obtain ⟨j, rfl⟩ := Int.eq_ofNat_of_zero_le (show 0 ≤ at_ by omega)
    by_cases he : j = d.size
    · exact ⟨_, _, _, fun W => (Decode_end d j k W (by omega) (by omega) he).mono fun _ _ h => ⟨h.1, same_below h.2⟩, fun W => (refDecode_end d j k W (by omega) (by omega) he).mono fun _ _ h => ⟨h.1, same_below h.2⟩⟩
    · have h1 := fun W => Decode_at d j k W (by omega) (by omega) (by omega)
      have h2 := fun W => refDecode_at d j k W (by omega) (by omega) (by omega)
      cases hx : decL ((bs d).drop j) k with
      | none => rw [hx] at h1 h2; exact ⟨_, _, _, h1, h2⟩
      | some q => rw [hx] at h1 h2; exact ⟨_, _, _, h1, h2⟩

/-- Both ways to find the generation answer alike. -/
theorem generation_both (d : ByteArray) (hd : d.size ≤ 600) : ∃ (a : Int) (ok : Bool),
    (∀ W, Calls Tryd.prog 20 #[.string d] W fun r w' => r = .returned (.tuple #[.int .i64 a, .bool ok]) ∧ Below W.heap.size W w') ∧
    (∀ W, Calls Tryd.prog 21 #[.string d] W fun r w' => r = .returned (.tuple #[.int .i64 a, .bool ok]) ∧ Below W.heap.size W w') := by
  have h1 := fun W => Generation_walk d W (by omega)
  have h2 := fun W => refGeneration_walk d W (by omega)
  cases hx : genL (bs d) with
  | none => rw [hx] at h1 h2; exact ⟨_, _, h1, h2⟩
  | some q => rw [hx] at h1 h2; exact ⟨_, _, h1, h2⟩

set_option maxHeartbeats 2000000 in
set_option maxRecDepth 100000 in
theorem RecordForms_walk (g : Int) (p d : ByteArray) (at_ : Int) (w : World) (ht : Tab w) (hsp : p.size ≤ 140737488351232) (hsd : d.size ≤ 140737488351232) :
    Calls Tryd.prog 6 #[.int .i64 g, .string p, .string d, .int .i64 at_] w fun e w' => e = .returned (.bool true) ∧ Below w.heap.size w w' := by
  have hT := Lib.hid ht
  clear ht
  by_cases hbig : p.size ≤ 100
  · by_cases hbig2 : d.size ≤ 600
    · obtain ⟨s, e, c1, c2⟩ := encode_both g p hbig
      obtain ⟨x, n, h, c3, c4⟩ := decode_both d at_ g hbig2
      obtain ⟨a, ok, c5, c6⟩ := generation_both d hbig2
      have C1 := Lib.hid c1
      have C2 := Lib.hid c2
      have C3 := Lib.hid c3
      have C4 := Lib.hid c4
      have C5 := Lib.hid c5
      have C6 := Lib.hid c6
      clear c1 c2 c3 c4 c5 c6
      go_enter Tryd.func6, Tryd.ntmps6
      go_wp2_with fail
      refine (awake54 _ hT.out).mono ?_
      rintro e w1 ⟨rfl, hb1⟩
      go_wp2_with fail
      refine (C1.out _).mono ?_
      rintro e w2 ⟨rfl, hb2⟩
      go_wp2_with fail
      refine (C2.out _).mono ?_
      rintro e w3 ⟨rfl, hb3⟩
      have hb := below_seq (below_seq hb1 hb2) hb3
      clear hb1 hb2 hb3
      go_wp2_with fail
      refine (C3.out _).mono ?_
      rintro e w4 ⟨rfl, hb4⟩
      go_wp2_with fail
      refine (C4.out _).mono ?_
      rintro e w5 ⟨rfl, hb5⟩
      have hb := below_seq (below_seq hb hb4) hb5
      clear hb4 hb5
      go_wp2_with fail
      refine (C5.out _).mono ?_
      rintro e w6 ⟨rfl, hb6⟩
      go_wp2_with fail
      refine (C6.out _).mono ?_
      rintro e w7 ⟨rfl, hb7⟩
      have hb := below_seq (below_seq hb hb6) hb7
      go_wp2_with fail
      go_ret
      exact ⟨rfl, hb⟩
    · go_enter Tryd.func6, Tryd.ntmps6
      go_wp2_with fail
      refine (awake54 _ hT.out).mono ?_
      rintro e w1 ⟨rfl, hb1⟩
      go_wp2_with fail
      go_ret
      exact ⟨rfl, hb1⟩
  · go_enter Tryd.func6, Tryd.ntmps6
    go_wp2_with fail
    refine (awake54 _ hT.out).mono ?_
    rintro e w1 ⟨rfl, hb1⟩
    go_wp2_with fail
    go_ret
    exact ⟨rfl, hb1⟩
end Go.Proofs.YtcbapogicjhkjaaDoor
