/- RecordPacks returns true. -/
import Derived.Test.YtcbapogicjhkjaaDoorAwake54
import Derived.Test.YtcbapogicjhkjaaDoorRefUnpack
import Derived.Test.YtcbapogicjhkjaaDoorRefPack
import Derived.Test.YtcbapogicjhkjaaDoorStrs
namespace Go.Proofs.YtcbapogicjhkjaaDoor
open Go.RowKit Go.Lib

theorem unpackEnd_packs {d : List UInt8} {fs : List (List UInt8)} {e : Ending} {w : World} (h : UnpackEnd d e w) (hd : d = packL fs) : ∃ v, e = .returned (.tuple #[v, .int .i64 0]) ∧ StrsIn w v fs := by
  rcases h with ⟨gs, v, h1, h2, h3⟩ | ⟨h1, _⟩
  · obtain rfl := packL_inj (h1.symm.trans hd)
    exact ⟨v, h2, h3⟩
  · exact absurd hd (h1 fs)
theorem unpackEnd_none {d : List UInt8} {e : Ending} {w : World} (h : UnpackEnd d e w) (hd : ∀ fs, d ≠ packL fs) : e = .returned (.tuple #[.slice none 0 0, .int .i64 11]) := by
  rcases h with ⟨gs, v, h1, h2, h3⟩ | ⟨_, h⟩
  · exact absurd h1 (hd gs)
  · exact h
theorem few_packs {fs : List (List UInt8)} (h : fewB fs 20 100 = true) : fs.length ≤ 20 ∧ (packL fs).length ≤ 3000 := by
  unfold fewB at h
  simp only [Bool.and_eq_true, List.all_eq_true, decide_eq_true_eq] at h
  have hl : fs.length ≤ 20 := by omega
  have : ∀ gs : List (List UInt8), (∀ x ∈ gs, x.length ≤ 100) → (packL gs).length ≤ gs.length * 104 := by
    intro gs
    induction gs with
    | nil => intro _; simp [packL]
    | cons g gs ih =>
      intro hg
      rw [packL_cons, List.length_append, packF_length, List.length_cons, Nat.succ_mul]
      have h1 := ih fun x hx => hg x (List.mem_cons_of_mem _ hx)
      have h2 := hg g List.mem_cons_self
      have h3 := decDigits_len 2 g.length (by omega)
      omega
  have := this fs fun x hx => by have := h.1 x hx; omega
  exact ⟨hl, by omega⟩

set_option maxHeartbeats 4000000 in
set_option maxRecDepth 100000 in
theorem RecordPacks_walk (v : Value) (fs : List (List UInt8)) (data : ByteArray) (w : World) (hv : StrsIn w v fs) (hn : fs.length ≤ 140737488351232) (hs : data.size ≤ 140737488351232) (ht : Tab w) (he : Errs w) :
    Calls Tryd.prog 9 #[v, .string data] w fun e w' => e = .returned (.bool true) ∧ Below w.heap.size w w' := by
  have hT := Lib.hid ht
  have hE := Lib.hid he
  have hV := Lib.hid hv
  clear ht he hv
  have C := fun W h => Few_walk v fs 20 100 W h (by omega)
  by_cases hfew : fewB fs 20 100 = true
  · rw [hfew] at C
    replace C := fun W h => Lib.hid (C W h)
    by_cases hbig : 300 < data.size
    · go_enter Tryd.func9, Tryd.ntmps9
      go_wp2_with fail
      refine (awake54 _ hT.out).mono ?_
      rintro e w1 ⟨rfl, hb1⟩
      go_wp2_with fail
      refine (C _ (hV.out.below hb1)).out.mono ?_
      rintro e w2 ⟨rfl, rfl⟩
      go_wp2_with fail
      go_ret
      exact ⟨rfl, hb1⟩
    · obtain ⟨hl20, hpk⟩ := few_packs hfew
      have hres : packRes fs = .tuple #[.string (str (packL fs)), .int .i64 0] := if_pos ⟨by omega, by omega⟩
      clear hfew
      have hdz := bs_length data
      have hx : ((str (packL fs)).toList == (str (packL fs)).toList) = true := beq_self_eq_true _
      by_cases hp : ∃ gs, bs data = packL gs
      · obtain ⟨gs, hgs⟩ := hp
        have hcnt := packL_count gs
        have hglen : (packL gs).length = data.size := by rw [← hgs, hdz]
        have hres2 : packRes gs = .tuple #[.string (str (packL gs)), .int .i64 0] := if_pos ⟨by omega, by omega⟩
        have hgd : (str (packL gs)) = data := by rw [← hgs, str_bs]
        replace hres2 := Lib.hid hres2
        replace hres := Lib.hid hres
        replace hgd := Lib.hid hgd
        replace hgs := Lib.hid hgs
        go_enter Tryd.func9, Tryd.ntmps9
        go_wp2_with fail
        refine (awake54 _ hT.out).mono ?_
        rintro e w1 ⟨rfl, hb1⟩
        go_wp2_with fail
        refine (C _ (hV.out.below hb1)).out.mono ?_
        rintro e w1' ⟨rfl, rfl⟩
        go_wp2_with fail
        refine (Pack_walk v fs _ (hV.out.below hb1) (by omega) (by omega) (hT.out.below hb1)).mono ?_
        rintro e w2 ⟨rfl, hb2⟩
        rw [hres.out]
        replace hb2 := Lib.hid (below_seq hb1 hb2)
        clear hb1
        go_wp2_with fail
        refine (refPack_walk v fs _ (hV.out.below hb2.out) (by omega) (by omega)).mono ?_
        rintro e w3 ⟨rfl, hb3⟩
        replace hb3 := Lib.hid (below_seq hb2.out hb3)
        clear hb2
        go_wp2_with fail
        rw [show data = str (packL gs) from hgd.out.symm]
        refine (Unpack_walk (packL gs) _ (by omega) (hT.out.below hb3.out) (hE.out.below hb3.out)).mono ?_
        rintro e w4 ⟨hu, hb4⟩
        obtain ⟨l, rfl, hl⟩ := unpackEnd_packs hu rfl
        replace hb4 := Lib.hid (below_seq hb3.out hb4)
        replace hl := Lib.hid hl
        clear hb3 hu
        have hszd : (str (packL gs)).size = data.size := by rw [str_size, hglen]
        go_wp2_with fail
        refine (refUnpack_walk (str (packL gs)) _ (by omega)).mono ?_
        rintro e w5 ⟨hu, hb5⟩
        rw [bs_str] at hu
        obtain ⟨m, rfl, hm⟩ := unpackEnd_packs hu rfl
        replace hl := Lib.hid (hl.out.below hb5)
        replace hm := Lib.hid hm
        replace hb5 := Lib.hid (below_seq hb4.out hb5)
        clear hb4 hu
        go_wp2_with fail
        refine (Strings_walk l m gs gs _ hl.out hm.out (by omega)).mono ?_
        rintro e w6 ⟨rfl, n, hw6⟩
        rw [decide_eq_true rfl]
        replace hl := Lib.hid (hl.out.below (hw6 ▸ below_of_drewN n))
        replace hb5 := Lib.hid (below_seq hb5.out (hw6 ▸ below_of_drewN n))
        clear hw6 hm
        go_wp2_with fail
        refine (sum_walk (str (packL gs)) _ (by omega)).mono ?_
        rintro e w7 ⟨rfl, rfl⟩
        go_wp2_with fail
        refine (refSum_walk (str (packL gs)) _ (by omega)).mono ?_
        rintro e w8 ⟨rfl, rfl⟩
        go_wp2_with fail
        refine (Unpack_walk (packL fs) _ (by omega) (hT.out.below hb5.out) (hE.out.below hb5.out)).mono ?_
        rintro e w9 ⟨hu, hb9⟩
        obtain ⟨bk, rfl, hbk⟩ := unpackEnd_packs hu rfl
        replace hl := Lib.hid (hl.out.below hb9)
        replace hbk := Lib.hid hbk
        replace hb9 := Lib.hid (below_seq hb5.out hb9)
        clear hb5 hu
        go_wp2_with fail
        refine (Strings_walk bk v fs fs _ hbk.out (hV.out.below hb9.out) (by omega)).mono ?_
        rintro e w10 ⟨rfl, n, hw10⟩
        rw [decide_eq_true rfl]
        replace hl := Lib.hid (hl.out.below (hw10 ▸ below_of_drewN n))
        replace hb9 := Lib.hid (below_seq hb9.out (hw10 ▸ below_of_drewN n))
        clear hw10 hbk
        go_wp2_with fail
        refine (Pack_walk l gs _ hl.out (by omega) (by omega) (hT.out.below hb9.out)).mono ?_
        rintro e w11 ⟨rfl, hb11⟩
        rw [hres2.out]
        go_wp2_with fail
        go_ret
        exact ⟨by simp, below_seq hb9.out hb11⟩
      · have hno : ∀ gs, bs data ≠ packL gs := fun gs h => hp ⟨gs, h⟩
        replace hno := Lib.hid hno
        clear hp
        have hd : data = str (bs data) := (str_bs data).symm
        replace hres := Lib.hid hres
        replace hd := Lib.hid hd
        go_enter Tryd.func9, Tryd.ntmps9
        go_wp2_with fail
        refine (awake54 _ hT.out).mono ?_
        rintro e w1 ⟨rfl, hb1⟩
        go_wp2_with fail
        refine (C _ (hV.out.below hb1)).out.mono ?_
        rintro e w1' ⟨rfl, rfl⟩
        go_wp2_with fail
        refine (Pack_walk v fs _ (hV.out.below hb1) (by omega) (by omega) (hT.out.below hb1)).mono ?_
        rintro e w2 ⟨rfl, hb2⟩
        rw [hres.out]
        replace hb2 := Lib.hid (below_seq hb1 hb2)
        clear hb1
        go_wp2_with fail
        refine (refPack_walk v fs _ (hV.out.below hb2.out) (by omega) (by omega)).mono ?_
        rintro e w3 ⟨rfl, hb3⟩
        replace hb3 := Lib.hid (below_seq hb2.out hb3)
        clear hb2
        go_wp2_with fail
        have U := Unpack_walk (bs data) w3 (by omega) (hT.out.below hb3.out) (hE.out.below hb3.out)
        rw [str_bs] at U
        refine U.mono ?_
        rintro e w4 ⟨hu, hb4⟩
        obtain rfl := unpackEnd_none hu hno.out
        replace hb4 := Lib.hid (below_seq hb3.out hb4)
        clear hb3 hu U
        go_wp2_with fail
        refine (refUnpack_walk data _ (by omega)).mono ?_
        rintro e w5 ⟨hu, hb5⟩
        obtain rfl := unpackEnd_none hu hno.out
        replace hb5 := Lib.hid (below_seq hb4.out hb5)
        clear hb4 hu
        go_wp2_with fail
        refine (Strings_walk (.slice none 0 0) (.slice none 0 0) [] [] _ (StrsIn.nil _) (StrsIn.nil _) (by simp)).mono ?_
        rintro e w6 ⟨rfl, n, hw6⟩
        rw [decide_eq_true rfl]
        replace hb5 := Lib.hid (below_seq hb5.out (hw6 ▸ below_of_drewN n))
        clear hw6
        go_wp2_with fail
        refine (sum_walk data _ (by omega)).mono ?_
        rintro e w7 ⟨rfl, rfl⟩
        go_wp2_with fail
        refine (refSum_walk data _ (by omega)).mono ?_
        rintro e w8 ⟨rfl, rfl⟩
        go_wp2_with fail
        refine (Unpack_walk (packL fs) _ (by omega) (hT.out.below hb5.out) (hE.out.below hb5.out)).mono ?_
        rintro e w9 ⟨hu, hb9⟩
        obtain ⟨bk, rfl, hbk⟩ := unpackEnd_packs hu rfl
        replace hbk := Lib.hid hbk
        replace hb9 := Lib.hid (below_seq hb5.out hb9)
        clear hb5 hu
        go_wp2_with fail
        refine (Strings_walk bk v fs fs _ hbk.out (hV.out.below hb9.out) (by omega)).mono ?_
        rintro e w10 ⟨rfl, n, hw10⟩
        rw [decide_eq_true rfl]
        replace hb9 := Lib.hid (below_seq hb9.out (hw10 ▸ below_of_drewN n))
        clear hw10 hbk
        go_wp2_with fail
        go_ret
        exact ⟨by simp, hb9.out⟩
  · have hff : fewB fs 20 100 = false := by simpa using hfew
    rw [hff] at C
    replace C := fun W h => Lib.hid (C W h)
    clear hfew hff
    go_enter Tryd.func9, Tryd.ntmps9
    go_wp2_with fail
    refine (awake54 _ hT.out).mono ?_
    rintro e w1 ⟨rfl, hb1⟩
    go_wp2_with fail
    refine (C _ (hV.out.below hb1)).out.mono ?_
    rintro e w2 ⟨rfl, rfl⟩
    go_wp2_with fail
    go_ret
    exact ⟨rfl, hb1⟩
end Go.Proofs.YtcbapogicjhkjaaDoor
