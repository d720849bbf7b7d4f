/- The check of the examples by which each law of layer 54 begins. -/
import Derived.Test.YtcbapogicjhkjaaDoorPack
namespace Go.Proofs.YtcbapogicjhkjaaDoor
open Go.RowKit Go.Lib

theorem pack_example : packRes [[97, 98], [], [120, 58, 121]] = .tuple #[.string (⟨#[50, 58, 97, 98, 48, 58, 51, 58, 120, 58, 121]⟩ : ByteArray), .int .i64 0] := by
  have h : packL [[97, 98], [], [120, 58, 121]] = [50, 58, 97, 98, 48, 58, 51, 58, 120, 58, 121] := by
    simp [packL, packF, decDigits_one]
  unfold packRes
  rw [h, if_pos ⟨by decide, by decide⟩]
  rfl

theorem rec_example : ((recL 1 (bs ⟨#[65]⟩)).take 43).drop 17 = [48, 48, 48, 48, 48, 48, 48, 48, 48, 48, 48, 48, 48, 48, 48, 49, 48, 48, 48, 48, 48, 48, 48, 49, 52, 49] ∧
    ((recL 1 (bs ⟨#[65]⟩)).take 52).drop 43 = [128, 128, 128, 128, 128, 128, 128, 128, 129] := by
  unfold recL
  generalize fnv (bodyL 1 (bs ⟨#[65]⟩)) = n
  have h1 : bodyL 1 (bs ⟨#[65]⟩) = [48, 48, 48, 48, 48, 48, 48, 48, 48, 48, 48, 48, 48, 48, 48, 49, 48, 48, 48, 48, 48, 48, 48, 49, 52, 49] := by decide +kernel
  have h2 : stN 9 1 = [128, 128, 128, 128, 128, 128, 128, 128, 129] := by decide +kernel
  rw [h1, h2]
  have hl : (82 :: hexN 16 n).length = 17 := by simp [hexN_length]
  generalize 82 :: hexN 16 n = f at hl
  constructor
  · rw [List.append_assoc, List.take_append, List.drop_append, hl, List.drop_of_length_le (by rw [List.length_take]; omega)]
    simp [hl]
  · rw [List.append_assoc, List.take_append, List.drop_append, hl, List.drop_of_length_le (by rw [List.length_take]; omega)]
    simp [hl]

set_option maxHeartbeats 2000000 in
set_option maxRecDepth 100000 in
theorem awake54 (w : World) (ht : Tab w) :
    Calls Tryd.prog 10 #[] w fun e w' => e = .returned (.bool true) ∧ Below w.heap.size w w' := by
  have hT := Lib.hid ht
  clear ht
  go_enter Tryd.func10, Tryd.ntmps10
  go_wp2_with fail
  have hb0 := (Below.refl w.heap.size w).alloc (Nat.le_refl _) (.cells (strVs [[97, 98], [], [120, 58, 121]]).toArray 9)
  refine (Pack_some w.heap.size 0 3 [[97, 98], [], [120, 58, 121]] _ (StrsAt.lit w 9 _) (by decide) (by simp [packL, packF, decDigits_one]) (hT.out.below hb0)).mono ?_
  rintro e w1 ⟨rfl, hb1⟩
  have hb2 := below_seq hb0 hb1
  rw [pack_example]
  clear hb0 hb1
  go_wp2_with fail
  refine (encode_walk 1 ⟨#[65]⟩ _ (by decide) (by decide) (by decide)).mono ?_
  rintro e w2 ⟨rfl, hb3⟩
  have hb4 := below_seq hb2 hb3
  clear hb2 hb3
  have z1 : (str (recL 1 (bs ⟨#[65]⟩))).size = 52 := by rw [str_size, recL_length]; decide
  have y1 : ((str (recL 1 (bs ⟨#[65]⟩))).extract 17 43).toList = [48, 48, 48, 48, 48, 48, 48, 48, 48, 48, 48, 48, 48, 48, 48, 49, 48, 48, 48, 48, 48, 48, 48, 49, 52, 49] := by
    rw [toList_bs, bs_extract, bs_str]; exact rec_example.1
  have y2 : ((str (recL 1 (bs ⟨#[65]⟩))).extract 43 52).toList = [128, 128, 128, 128, 128, 128, 128, 128, 129] := by
    rw [toList_bs, bs_extract, bs_str]; exact rec_example.2
  go_wp2_with fail
  go_ret
  exact ⟨rfl, hb4⟩

end Go.Proofs.YtcbapogicjhkjaaDoor
