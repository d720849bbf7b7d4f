/- RecordWalks returns true. -/
import Derived.Test.YtcbapogicjhkjaaDoorAwake54
import Derived.Test.YtcbapogicjhkjaaDoorRefC
import Derived.Test.YtcbapogicjhkjaaDoorStrs
namespace Go.Proofs.YtcbapogicjhkjaaDoor
open Go.RowKit Go.Lib

set_option maxHeartbeats 2000000 in
set_option maxRecDepth 100000 in
theorem RecordWalks_walk (data : ByteArray) (g : Int) (w : World) (hs : data.size ≤ 140737488351232) (hg : -9223372036854775808 ≤ g ∧ g ≤ 9223372036854775807) (ht : Tab w) :
    Calls Tryd.prog 3 #[.string data, .int .i64 g] w fun e w' => e = .returned (.bool true) ∧ Below w.heap.size w w' := by
  have hT := Lib.hid ht
  clear ht
  by_cases hbig : 800 < data.size
  · go_enter Tryd.func3, Tryd.ntmps3
    go_wp2_with fail
    refine (awake54 _ hT.out).mono ?_
    rintro e w1 ⟨rfl, hb1⟩
    go_wp2_with fail
    go_ret
    exact ⟨rfl, hb1⟩
  · by_cases hok : 1 ≤ g ∧ g ≤ 1099511627776
    · obtain ⟨k, rfl⟩ := Int.eq_ofNat_of_zero_le (show 0 ≤ g by omega)
      have hk : 1 ≤ k ∧ k ≤ 1099511627776 := by omega
      clear hok hg
      go_enter Tryd.func3, Tryd.ntmps3
      go_wp2_with fail
      refine (awake54 _ hT.out).mono ?_
      rintro e w1 ⟨rfl, hb1⟩
      go_wp2_with fail
      refine (Walk_walk data k _ hk hs).mono ?_
      rintro e w2 ⟨⟨v, rfl, hv⟩, hb2⟩
      go_wp2_with fail
      refine (refWalk_walk data k _ hk hs).mono ?_
      rintro e w3 ⟨⟨v', rfl, hv'⟩, hb3⟩
      have hb := below_seq (below_seq hb1 hb2) hb3
      have hv2 := hv.below hb3
      clear hv hb1 hb2 hb3
      go_wp2_with fail
      refine (Strings_walk v v' _ _ _ hv2 hv' ?_).mono ?_
      · have := offL_length (walkL (bs data) k)
        have := walkL_off k _ (bs data) (Nat.le_refl _)
        rw [bs_length] at this
        omega
      rintro e w4 ⟨rfl, n, rfl⟩
      rw [decide_eq_true rfl]
      go_wp2_with fail
      go_ret
      exact ⟨rfl, below_drewN' hb n⟩
    · go_enter Tryd.func3, Tryd.ntmps3
      go_wp2_with fail
      refine (awake54 _ hT.out).mono ?_
      rintro e w1 ⟨rfl, hb1⟩
      go_wp2_with fail
      refine (Walk_bad data g _ hok hs).mono ?_
      rintro e w' ⟨rfl, rfl⟩
      go_wp2_with fail
      refine (refWalk_bad data g _ hok hs).mono ?_
      rintro e w3 ⟨⟨v', rfl, hv'⟩, hb3⟩
      have hb := below_seq hb1 hb3
      go_wp2_with fail
      refine (Strings_walk (.slice none 0 0) v' [] [] _ (StrsIn.nil _) hv' (by simp)).mono ?_
      rintro e w4 ⟨rfl, n, rfl⟩
      rw [decide_eq_true rfl]
      go_wp2_with fail
      go_ret
      exact ⟨rfl, below_drewN' hb n⟩

/-! ### The row and the card -/

theorem own : ownKnob Tryd.prog.godebug = none := by kernel_rfl

end Go.Proofs.YtcbapogicjhkjaaDoor
