/- RecordTorn returns true. -/
import Derived.Test.YtcbapogicjhkjaaDoorLawRets
import Derived.Test.YtcbapogicjhkjaaDoorPlainC
namespace Go.Proofs.YtcbapogicjhkjaaDoor
open Go.RowKit Go.Lib

/-- The value is a slice that reads as these numbers. -/
def IntsIn (w : World) (v : Value) (l : List Int) : Prop :=
  ∃ a c, v = .slice a l.length c ∧ ∀ i (h : i < l.length), ∃ b off, a = some ⟨b, off, none⟩ ∧ w.cell? ⟨b, off + i, none⟩ = some (.int .i64 l[i])
theorem IntsIn.below {w w' : World} {v : Value} {l : List Int} (h : IntsIn w v l) (hb : Below w.heap.size w w') : IntsIn w' v l := by
  obtain ⟨a, c, hv, hc⟩ := h
  refine ⟨a, c, hv, fun i hi => ?_⟩
  obtain ⟨b, off, ha, hx⟩ := hc i hi
  exact ⟨b, off, ha, (hb.cell (p := ⟨b, off + i, none⟩) (World.block_lt_of_cell? w _ hx)).trans hx⟩

/-- Records of other generations. -/
def Others (g : Nat) (k : Nat) (l : List (Nat × List UInt8)) : Prop := l.length ≤ k ∧ ∀ x ∈ l, x.1 ≠ g ∧ x.1 ≤ 1099511627776 ∧ x.2.length ≤ 60
theorem Others.more {g k : Nat} {l : List (Nat × List UInt8)} (h : Others g k l) : Others g (k + 1) l := ⟨Nat.le_succ_of_le h.1, h.2⟩
theorem Others.snoc {g k j : Nat} {l : List (Nat × List UInt8)} {p : List UInt8} (h : Others g k l) (h1 : j ≠ g) (h2 : j ≤ 1099511627776) (h3 : p.length ≤ 60) : Others g (k + 1) (l ++ [(j, p)]) := by
  refine ⟨by rw [List.length_append]; simpa using h.1, fun x hx => ?_⟩
  rw [List.mem_append] at hx
  rcases hx with hx | hx
  · exact h.2 x hx
  · simp at hx; subst hx; exact ⟨h1, h2, h3⟩
theorem Others.size {g k : Nat} {l : List (Nat × List UInt8)} (h : Others g k l) : (encC l).length ≤ 170 * k := by
  have : ∀ l : List (Nat × List UInt8), (∀ x ∈ l, x.2.length ≤ 60) → (encC l).length ≤ 170 * l.length := by
    intro l
    induction l with
    | nil => intro _; simp [encC]
    | cons x l ih =>
      intro hx
      obtain ⟨j, p⟩ := x
      have h1 := ih fun y hy => hx y (by simp [hy])
      have h2 := hx (j, p) (by simp)
      rw [encC_cons, List.length_append, recL_length, List.length_cons]
      simp only at h2
      omega
  have h1 := this l fun x hx => (h.2 x hx).2.2
  have h2 := h.1
  omega

theorem StrsIn.news {w : World} {ad : Addr} {n c : Nat} {ps : List (List UInt8)} (h : StrsIn w (.slice (some ad) n c) ps) (j : Nat) (u : Value) (hu : (strVs ps)[j]? = some u) : w.cell? (ad.add j) = some u := by
  obtain ⟨a, c', hv, hc⟩ := h
  have hj : j < ps.length := by have := (List.getElem?_eq_some_iff.1 hu).1; rwa [strVs_length] at this
  obtain ⟨b, off, ha, hx⟩ := hc j hj
  simp only [Value.slice.injEq] at hv
  rw [← hv.1] at ha
  simp only [Option.some.injEq] at ha
  subst ha
  have e : (⟨b, off, none⟩ : Addr).add j = ⟨b, off + j, none⟩ := by unfold Addr.add; split <;> simp_all
  rw [e, hx]
  simp only [strVs, List.getElem?_map, List.getElem?_eq_getElem hj, Option.map_some, strV] at hu
  exact hu

theorem zeros_str (z : Nat) : (⟨(Lib.repeatL (⟨#[0]⟩ : ByteArray).data.toList z).toArray⟩ : ByteArray) = str (List.replicate z 0) := by
  have h : Lib.repeatL [0] z = List.replicate z (0 : UInt8) := by
    induction z with
    | zero => rfl
    | succ z ih => rw [List.replicate_succ, ← ih]; rfl
  show (⟨(Lib.repeatL [0] z).toArray⟩ : ByteArray) = _
  rw [h]
  rfl

set_option maxHeartbeats 4000000 in
set_option maxRecDepth 100000 in
theorem RecordTorn_good (g : Nat) (v vb vo : Value) (ps bl : List (List UInt8)) (os : List Int) (q : ByteArray) (cut : Int) (w : World) (h1 : StrsIn w v ps) (hcap : CapOk v) (h2 : StrsIn w vb bl) (h3 : IntsIn w vo os)
    (hf : fewB ps 3 60 = true) (hf2 : fewB bl 8 60 = true) (hq : q.size ≤ 60) (ho : os.length ≤ 8)
    (hg : 1 ≤ g ∧ g ≤ 1099511627776) (hcut : 0 ≤ cut ∧ cut ≤ 65535) (ht : Tab w) :
    Calls Tryd.prog 8 #[.int .i64 g, v, .string q, vb, vo, .int .u16 cut] w fun e w' => e = .returned (.bool true) ∧ Below w.heap.size w w' := by
  obtain ⟨i0, hi, hz0, hz1, hz2⟩ := info_parts infoString
  have hT := Lib.hid ht
  clear ht
  obtain ⟨hp, hn⟩ := few_true hf
  have hp : ∀ p ∈ ps, p.length ≤ 60 := fun p hq => by have := hp p hq; omega
  have hp3 : ∀ p ∈ ps, p.length ≤ 30000 := fun p hq => by have := hp p hq; omega
  have hn : ps.length ≤ 8 := by omega
  obtain ⟨hpb, hnb⟩ := few_true hf2
  have hpb : ∀ p ∈ bl, p.length ≤ 60 := fun p hq => by have := hpb p hq; omega
  have hnb : bl.length ≤ 8 := by omega
  have hz : (str (encL g ps)).size = offL ps := by rw [str_size, encL_length]
  have hoff : offL ps ≤ 1500 := by
    have h2 := offL_bound ps 60 hp
    omega
  obtain ⟨R, HR⟩ : ∃ R, R = 50 + 2 * q.size := ⟨_, rfl⟩
  have hR1 : 50 ≤ R ∧ R ≤ 170 := by omega
  have hrz : (str (recL g (bs q))).size = R := by rw [str_size, recL_length, bs_length, HR]
  have hrl : (recL g (bs q)).length = R := by rw [recL_length, bs_length, HR]
  replace hrl := Lib.hid hrl
  replace HR := Lib.hid HR
  have hne : (str (recL g (bs q))).toList.isEmpty = false := by
    rw [toList_bs, bs_str, List.isEmpty_eq_false_iff]
    intro h
    have := congrArg List.length h
    rw [recL_length] at this
    simp at this
  have hd1 : decide ((g : Int) < 1) = false := by simp; omega
  have hd2 : decide (1099511627776 < (g : Int)) = false := by simp; omega
  have hd3 : decide (8 < (os.length : Int)) = false := by simp; omega
  have hd4 : decide (60 < (q.size : Int)) = false := by simp; omega
  have H1 := Lib.hid h1
  have H2 := Lib.hid h2
  have H3 := Lib.hid h3
  have HF := Lib.hid hf
  have HF2 := Lib.hid hf2
  have HP := Lib.hid hp
  have HPB := Lib.hid hpb
  have HP3 := Lib.hid hp3
  clear h1 hf hp h2 h3 hf2 hpb hp3
  obtain ⟨av, cv, rfl, hcv0⟩ := id H1.out
  obtain ⟨ab, cb, rfl, hcb⟩ := id H2.out
  obtain ⟨ao, co, rfl, hco⟩ := id H3.out
  clear hcb hco hcv0
  have hcap2 := Lib.hid hcap.2
  clear hcap
  go_enter Tryd.func8, Tryd.ntmps8
  go_wp2_with fail
  refine (awake54 _ hT.out).mono ?_
  rintro e w1 ⟨rfl, hb1⟩
  go_wp2_with fail
  refine (Few_walk _ ps 3 60 _ (H1.out.below hb1) (by omega)).mono ?_
  rintro e w2 ⟨rfl, rfl⟩
  rw [HF.out]
  go_wp2_with fail
  refine (Few_walk _ bl 8 60 _ (H2.out.below hb1) (by omega)).mono ?_
  rintro e w2 ⟨rfl, rfl⟩
  rw [HF2.out]
  go_wp2_with fail
  refine (lawEncode_walk g _ ps _ (H1.out.below hb1) hg HP.out hn).mono ?_
  rintro e w3 ⟨⟨b', c', rfl, hn3⟩, hb3⟩
  have hN := Lib.hid hn3
  have hb := Lib.hid (below_seq hb1 hb3)
  clear hn3 hb1 hb3
  go_wp2_with fail
  refine (encode_walk g q _ hg.1 hg.2 (by omega)).mono ?_
  rintro e w4 ⟨rfl, hb4⟩
  have hN := Lib.hid (hN.out.below hb4)
  have hb := Lib.hid (below_seq hb.out hb4)
  clear hb4
  go_wp2_with fail
  go_loopw [18, 81] (fun v18 v81 wr => ∃ (k : Nat) (l : List (Nat × List UInt8)), k ≤ bl.length ∧ v18 = .string (str (encC l)) ∧ v81 = .int .i64 k ∧ Hid (Others g k l) ∧ Hid (Below w4.heap.size w4 wr)) (fun _ i _ => bl.length - (RowKit.intOf i).toNat)
  case atStart => exact ⟨0, [], Nat.zero_le _, rfl, rfl, Lib.hid ⟨by simp, by simp⟩, Lib.hid (Below.refl _ _)⟩
  case round =>
    obtain ⟨k, l, hk, rfl, rfl, hl, hbr⟩ := hrel
    have hlz : (str (encC l)).size ≤ 1360 := by rw [str_size]; have := hl.out.size; omega
    by_cases hlt : k < bl.length
    · have hB := below_seq hb.out hbr.out
      obtain ⟨b, off, hab, hcell⟩ := (show ∃ b off, ab = some ⟨b, off, none⟩ ∧ wr.cell? ⟨b, off + k, none⟩ = some (.string (str bl[k])) by
        obtain ⟨a', c', hv, hc⟩ := H2.out.below hB
        simp only [Value.slice.injEq] at hv
        obtain ⟨rfl, _, rfl⟩ := hv
        exact hc k hlt)
      have hbk : bl[k].length ≤ 60 := HPB.out _ (List.getElem_mem hlt)
      have hfin : ∀ (j : Nat) (W : World), j ≠ g → 1 ≤ j → j ≤ 1099511627776 → Calls Tryd.prog 17 #[.int .i64 j, .string (str bl[k])] W fun e w' => e = .returned (.tuple #[.string (str (recL j bl[k])), .int .i64 0]) ∧ Below W.heap.size W w' := by
        intro j W _ h1 h2
        have := encode_walk j (str bl[k]) W h1 h2 (by rw [str_size]; omega)
        rwa [bs_str] at this
      have hcat : ∀ j, str (encC l) ++ str (recL j bl[k]) = str (encC (l ++ [(j, bl[k])])) := fun j => by rw [encC_snoc, str_append]
      have hcz : ∀ j, (str (recL j bl[k])).size = 50 + 2 * bl[k].length := fun j => by rw [str_size, recL_length]
      have hfin := Lib.hid hfin
      subst hab
      by_cases hlo : k < os.length
      · obtain ⟨bo, oo, hao, hcello⟩ := (show ∃ bo oo, ao = some ⟨bo, oo, none⟩ ∧ wr.cell? ⟨bo, oo + k, none⟩ = some (.int .i64 os[k]) by
          obtain ⟨a', c', hv, hc⟩ := H3.out.below hB
          simp only [Value.slice.injEq] at hv
          obtain ⟨rfl, _, rfl⟩ := hv
          exact hc k hlo)
        subst hao
        obtain ⟨z, hzz⟩ : ∃ z, z = os[k] := ⟨_, rfl⟩
        rw [← hzz] at hcello
        clear hzz hB
        by_cases hzg : z = (g : Int)
        · subst hzg
          go_wp2_with fail
          exact ⟨⟨k + 1, l, by omega, rfl, by simp, Lib.hid hl.out.more, hbr⟩, by simp [RowKit.intOf]; omega⟩
        · have hd7 : (z == (g : Int)) = false := by rw [beq_eq_false_iff_ne]; exact hzg
          by_cases hz1 : z < 1
          · have hd5 : decide (z < 1) = true := by simpa using hz1
            clear hzg
            go_wp2_with fail
            exact ⟨⟨k + 1, l, by omega, rfl, by simp, Lib.hid hl.out.more, hbr⟩, by simp [RowKit.intOf]; omega⟩
          · by_cases hz2 : 1099511627776 < z
            · have hd5 : decide (z < 1) = false := by simpa using hz1
              have hd6 : decide (1099511627776 < z) = true := by simpa using hz2
              clear hzg hz1
              go_wp2_with fail
              exact ⟨⟨k + 1, l, by omega, rfl, by simp, Lib.hid hl.out.more, hbr⟩, by simp [RowKit.intOf]; omega⟩
            · obtain ⟨j, rfl⟩ := Int.eq_ofNat_of_zero_le (show 0 ≤ z by omega)
              have hd5 : decide ((j : Int) < 1) = false := by simpa using hz1
              have hd6 : decide (1099511627776 < (j : Int)) = false := by simpa using hz2
              have hjg := Lib.hid (show j ≠ g by omega)
              have hj1 : 1 ≤ j ∧ j ≤ 1099511627776 := by omega
              clear hzg hz1 hz2
              go_wp2_with fail
              refine (hfin.out j _ hjg.out hj1.1 hj1.2).mono ?_
              rintro e w5 ⟨rfl, hb5⟩
              go_wp2_with fail
              exact ⟨⟨k + 1, _, by omega, rfl, by simp, Lib.hid (hl.out.snoc hjg.out hj1.2 hbk), Lib.hid (below_seq hbr.out hb5)⟩, by simp [RowKit.intOf]; omega⟩
      · clear hB
        by_cases hmax : g = 1099511627776
        · subst hmax
          go_wp2_with fail
          exact ⟨⟨k + 1, l, by omega, rfl, by simp, Lib.hid hl.out.more, hbr⟩, by simp [RowKit.intOf]; omega⟩
        · have hd5 : decide ((g : Int) + 1 < 1) = false := by simp; omega
          have hd6 : decide (1099511627776 < (g : Int) + 1) = false := by simp; omega
          have hd7 : ((g : Int) + 1 == (g : Int)) = false := by rw [beq_eq_false_iff_ne]; omega
          go_wp2_with fail
          refine (hfin.out (g + 1) _ (by omega) (by omega) (by omega)).mono ?_
          rintro e w5 ⟨rfl, hb5⟩
          go_wp2_with fail
          exact ⟨⟨k + 1, _, by omega, rfl, by simp, Lib.hid (hl.out.snoc (by omega) (by omega) hbk), Lib.hid (below_seq hbr.out hb5)⟩, by simp [RowKit.intOf]; omega⟩
    · have hlen := hl.out.size
      obtain ⟨z, hzz⟩ : ∃ z, z = offL ps + R - (encC l).length := ⟨_, rfl⟩
      have hmax : max 0 ((offL ps : Int) + (R : Int) - ((str (encC l)).size : Int)) = (z : Int) := by rw [str_size]; omega
      obtain ⟨C, hCC⟩ : ∃ C, C = encC l ++ List.replicate z 0 := ⟨_, rfl⟩
      have hcat : str (encC l) ++ str (List.replicate z 0) = str C := by rw [hCC, str_append]
      have hCl : C.length = (encC l).length + z := by rw [hCC]; simp
      have hCz : (str C).size = C.length := str_size C
      have hrepz : (str (List.replicate z (0 : UInt8))).size = z := by rw [str_size]; simp
      have hCb : offL ps + R ≤ C.length ∧ C.length ≤ 4000 := by omega
      replace hCC := Lib.hid hCC
      obtain ⟨en, hen, henle⟩ : ∃ en : Nat, cut.tmod ((R : Int) + 1) = (en : Int) ∧ en ≤ R := by
        refine ⟨(cut.tmod ((R : Int) + 1)).toNat, ?_⟩
        have e : cut.tmod ((R : Int) + 1) = cut % ((R : Int) + 1) := Int.tmod_eq_emod_of_nonneg hcut.1
        rw [e]
        have h1 := Int.emod_nonneg cut (show ((R : Int) + 1) ≠ 0 by omega)
        have h2 := Int.emod_lt_of_pos cut (show 0 < ((R : Int) + 1) by omega)
        omega
      obtain ⟨D, hD⟩ : ∃ D, D = (recL g (bs q)).take en ++ (C.drop (offL ps + en)).take (R - en) := ⟨_, rfl⟩
      have hDl : D.length = R := by rw [hD, List.length_append, List.length_take, hrl.out, List.length_take, List.length_drop]; omega
      have hs1 : (str (recL g (bs q))).extract 0 en = str ((recL g (bs q)).take en) := by rw [← str_bs ((str (recL g (bs q))).extract 0 en), bs_mid, bs_str, List.drop_zero, Nat.sub_zero]
      have hs2 : str (encL g ps) ++ str ((recL g (bs q)).take en) = str (encL g ps ++ (recL g (bs q)).take en) := (str_append _ _).symm
      have hs3 : (str C).extract (offL ps + en) C.length = str (C.drop (offL ps + en)) := by rw [← str_bs ((str C).extract _ _), bs_mid, bs_str, List.take_of_length_le (by rw [List.length_drop]; omega)]
      have hs4 : str (encL g ps ++ (recL g (bs q)).take en) ++ str (C.drop (offL ps + en)) = str (encL g ps ++ (recL g (bs q)).take en ++ C.drop (offL ps + en)) := (str_append _ _).symm
      have hs5 : (str (encL g ps ++ ((recL g (bs q)).take en ++ C.drop (offL ps + en)))).extract 0 (offL ps + R) = str (encL g ps ++ D) := by
        rw [← str_bs ((str _).extract _ _), bs_mid, bs_str, List.drop_zero, Nat.sub_zero, List.take_append, encL_length, List.take_of_length_le (by rw [encL_length]; omega), Nat.add_sub_cancel_left, List.take_append, List.take_of_length_le (by rw [List.length_take, hrl.out]; omega), List.length_take, hrl.out, Nat.min_eq_left henle, hD]
      have hs6 : (str (encL g ps ++ D)).extract 0 (offL ps + R) = str (encL g ps ++ D) := by
        rw [← str_bs ((str _).extract _ _), bs_mid, bs_str, List.drop_zero, Nat.sub_zero, List.take_of_length_le (by rw [List.length_append, encL_length, hDl]; exact Nat.le_refl _)]
      have hs7 : str (encL g ps) ++ str (recL g (bs q)) = str (encL g ps ++ recL g (bs q)) := (str_append _ _).symm
      have hzA : (str ((recL g (bs q)).take en)).size = en := by rw [str_size, List.length_take, hrl.out, Nat.min_eq_left henle]
      have hzB : (str (encL g ps ++ (recL g (bs q)).take en)).size = offL ps + en := by rw [str_size, List.length_append, encL_length, List.length_take, hrl.out, Nat.min_eq_left henle]
      have hz3 : (str (C.drop (offL ps + en))).size = C.length - (offL ps + en) := by rw [str_size, List.length_drop]
      have hz4 : (str (encL g ps ++ ((recL g (bs q)).take en ++ C.drop (offL ps + en)))).size = C.length := by rw [str_size, List.length_append, List.length_append, encL_length, List.length_take, hrl.out, Nat.min_eq_left henle, List.length_drop]; omega
      have hz5 : (str (encL g ps ++ D)).size = offL ps + R := by rw [str_size, List.length_append, encL_length, hDl]
      have hz6 : (str (encL g ps ++ recL g (bs q))).size = offL ps + R := by rw [str_size, List.length_append, encL_length, hrl.out]
      have hrep := zeros_str z
      replace hrep := Lib.hid hrep
      replace hD := Lib.hid hD
      replace hDl := Lib.hid hDl
      replace hCl := Lib.hid hCl
      replace hzz := Lib.hid hzz
      go_wp2_with fail
      refine (Tryd.strings_Repeat ⟨#[0]⟩ z _ (by omega) (by have := hCl.out; show 1 * z ≤ _; omega)).mono ?_
      rintro e w5 ⟨rfl, hb5⟩
      rw [hrep.out]
      have hB := Lib.hid (below_seq (below_seq hb.out hbr.out) hb5)
      have hN5 := Lib.hid ((hN.out.below hbr.out).below hb5)
      go_wp2_with fail
      go_quiet (fail)
      obtain ⟨wq, hwq⟩ : ∃ wq, wq = w5.drewN nq := ⟨_, rfl⟩
      have hbq : Below w5.heap.size w5 wq := hwq ▸ below_of_drewN nq
      rw [← hwq]
      have hB := Lib.hid (below_seq hB.out hbq)
      have hN := Lib.hid (hN5.out.below hbq)
      clear hwq hbq hN5
      have cw : ∀ W, Calls Tryd.prog 11 #[.string (str (encL g ps ++ D)), .int .i64 g] W fun e w' => (∃ v, e = .returned (.tuple #[v, .int .i64 (offL (ps ++ (if D = recL g (bs q) then [bs q] else [])) : Int)]) ∧ StrsIn w' v (ps ++ (if D = recL g (bs q) then [bs q] else []))) ∧ Below W.heap.size W w' := by
        intro W
        have h := Walk_walk (str (encL g ps ++ D)) g W hg (by omega)
        have hno : noStamp g C := by
          rw [hCC.out]
          exact cells_noStamp g (by omega) z l fun x hx => by have := hl.out.2 x hx; exact ⟨this.1, by omega⟩
        rw [bs_str, walkL_torn g ps (bs q) C (offL ps) en HP3.out (by rw [bs_length]; omega) hno (by rw [hrl.out]; omega) D (by rw [hrl.out]; exact hD.out)] at h
        exact h
      replace cw := Lib.hid cw
      have hnl := Lib.hid (offs_length ps)
      by_cases hfull : en = R
      · have hDr : D = recL g (bs q) := by
          rw [hD.out, hfull, Nat.sub_self, List.take_zero, List.append_nil, List.take_of_length_le (by rw [hrl.out]; exact Nat.le_refl _)]
        have cw2 := cw.out
        rw [if_pos hDr] at cw2
        replace cw2 := Lib.hid cw2
        have hk1 : ((en : Int) == (R : Int)) = true := by rw [beq_iff_eq]; omega
        have hoz : offL (ps ++ [bs q]) = offL ps + R := by rw [offL_snoc, bs_length, ← HR.out]
        have H1q := Lib.hid (H1.out.below hB.out)
        replace hDr := Lib.hid hDr
        replace hfull := Lib.hid hfull
        clear cw
        go_wp2_with fail
        refine (cw2.out _).mono ?_
        rintro e w6 ⟨⟨v6, rfl, hv6⟩, hb6⟩
        have hB6 := Lib.hid (below_seq hB.out hb6)
        have H16 := Lib.hid (H1q.out.below hb6)
        have hv6 := Lib.hid hv6
        clear hb6 H1q
        rw [hoz]
        cases av with
        | none =>
          have hps : ps = [] := by
            obtain ⟨a', c', hv, hc⟩ := H16.out
            cases ps with
            | nil => rfl
            | cons p ps =>
              obtain ⟨b, off, ha, _⟩ := hc 0 (by simp)
              simp only [Value.slice.injEq] at hv
              rw [← hv.1] at ha
              cases ha
          have hcv : cv = 0 := hcap2.out rfl
          subst hps hcv
          have hown8 : Hid ((w6.alloc (.cells #[] 9)).ownsRow w6.heap.size 9 1 (.slice (some ⟨w6.heap.size, 0, none⟩) 0 0) 0 []) := World.ownsRow_lit w6 #[] 0 (Nat.le_refl _) (by decide) rfl
          have hap : (Builtin.append_ #[23, 23] 23 #[.slice (some ⟨w6.heap.size, 0, none⟩) 0 0, .slice none 0 0]).run Tryd.prog (w6.alloc (.cells #[] 9)) = .ok (.slice (some ⟨w6.heap.size, 0, none⟩) 0 0) (w6.alloc (.cells #[] 9)) := run_append_owned_none (ty := 23) (base := w6.heap.size) (size := 1) (n := 0) (xs := []) (ht := Tryd.underlying23) (hi := hi) (hown := hown8.out)
          have hB8 := Lib.hid (show Below w6.heap.size w6 (w6.alloc (.cells #[] 9)) from (Below.refl _ _).alloc (Nat.le_refl _) _)
          go_wp2_with (at_builtin; refine wpList_append_own _ rfl _ _ 23 rfl w6.heap.size 9 i0 (.string ⟨#[]⟩) 1 16 Tryd.underlying23 hi hz0 hz1 hz2 rfl (by decide) _ _ _ rfl (hown8.out.alloc _) ⟨w6.heap.size + 1, 0, none⟩ 1 1 [.string q] rfl rfl ?c1 ?c2 ?c3 ?c4 ?c5 ?_)
          case c1 => intro j u hu; have h := cell_one_new (w6.alloc (.cells #[] 9)) (.string q) 9 j u hu; simpa using h
          case c2 => intro u hu; simp at hu; subst hu; rfl
          case c3 => unfold maxLen; omega
          case c4 => omega
          case c5 => have := hB8.out.size; simp; omega
          intro v9 w9 hown9 hgr9 _
          have hb9 : Below w6.heap.size w6 w9 := (hB8.out.alloc (by have := hB8.out.size; omega) _).grown hgr9 (by have := hB8.out.size; simp; omega) (fun j hj => (hown8.out.lt j hj).1)
          have hv9 : StrsIn w9 v9 ([] ++ [bs q]) := StrsIn.of_own (n := 1) (by rw [strVs_snoc, str_bs]; exact hown9)
          have hv9 := Lib.hid hv9
          have hb9 := Lib.hid hb9
          clear hown9 hgr9
          go_wp2_with fail
          refine (Strings_walk v6 v9 ([] ++ [bs q]) ([] ++ [bs q]) _ (hv6.out.below hb9.out) hv9.out (by simp)).mono ?_
          rintro e w10 ⟨rfl, nq, rfl⟩
          rw [decide_eq_true rfl]
          go_wp2_with fail
          go_ret
          exact ⟨rfl, below_drewN' (below_seq hB6.out hb9.out) nq⟩
        | some ad =>
          go_wp2_with (at_builtin; refine wpList_append_own _ rfl _ _ 23 rfl w6.heap.size 9 i0 (.string ⟨#[]⟩) 1 16 Tryd.underlying23 hi hz0 hz1 hz2 rfl (by decide) _ _ _ rfl (World.ownsRow_lit (size := 1) w6 #[] 0 (Nat.le_refl _) (by decide) rfl) ad ps.length cv (strVs ps) rfl ?d0 ?d1 ?d2 ?d3 ?d4 ?d5 ?_)
          case d0 => rw [strVs_length, Nat.mul_one]
          case d1 => exact (H16.out.below ((Below.refl _ _).alloc (Nat.le_refl _) _)).news
          case d2 => intro u hu; simp [strVs, strV] at hu; obtain ⟨_, _, rfl⟩ := hu; rfl
          case d3 => unfold maxLen; omega
          case d4 => omega
          case d5 => simp
          intro v8 w8 hown8 hgr8 _
          have hown8 := Lib.hid (show w8.ownsRow w6.heap.size 9 1 v8 ps.length (strVs ps) from by simpa using hown8)
          have hB8 := Lib.hid (show Below w6.heap.size w6 w8 from ((Below.refl _ _).alloc (Nat.le_refl _) _).grown hgr8 (by simp) (fun j hj => by simp [Value.ownBlock] at hj; omega))
          clear hgr8
          go_wp2_with (at_builtin; refine wpList_append_own _ rfl _ _ 23 rfl w6.heap.size 9 i0 (.string ⟨#[]⟩) 1 16 Tryd.underlying23 hi hz0 hz1 hz2 rfl (by decide) _ _ _ rfl (hown8.out.alloc _) ⟨w8.heap.size, 0, none⟩ 1 1 [.string q] rfl rfl ?c1 ?c2 ?c3 ?c4 ?c5 ?_)
          case c1 => exact cell_one_new _ _ _
          case c2 => intro u hu; simp at hu; subst hu; rfl
          case c3 => unfold maxLen; omega
          case c4 => omega
          case c5 => have := hB8.out.size; simp; omega
          intro v9 w9 hown9 hgr9 _
          have hb9 : Below w6.heap.size w6 w9 := (hB8.out.alloc (by have := hB8.out.size; omega) _).grown hgr9 (by have := hB8.out.size; simp; omega) (fun j hj => (hown8.out.lt j hj).1)
          have hv9 : StrsIn w9 v9 (ps ++ [bs q]) := StrsIn.of_own (n := ps.length + 1) (by rw [strVs_snoc, str_bs]; exact hown9)
          have hv9 := Lib.hid hv9
          have hb9 := Lib.hid hb9
          clear hown9 hgr9
          go_wp2_with fail
          refine (Strings_walk v6 v9 (ps ++ [bs q]) (ps ++ [bs q]) _ (hv6.out.below hb9.out) hv9.out (by simp; omega)).mono ?_
          rintro e w10 ⟨rfl, nq, rfl⟩
          rw [decide_eq_true rfl]
          go_wp2_with fail
          go_ret
          exact ⟨rfl, below_drewN' (below_seq hB6.out hb9.out) nq⟩
      · have hk1 : ((en : Int) == (R : Int)) = false := by rw [beq_eq_false_iff_ne]; omega
        replace hfull := Lib.hid hfull
        by_cases hDr : D = recL g (bs q)
        · have cw2 := cw.out
          rw [if_pos hDr] at cw2
          replace cw2 := Lib.hid cw2
          have heq : ((str (encL g ps ++ D)).toList == (str (encL g ps ++ recL g (bs q))).toList) = true := by rw [hDr]; exact beq_self_eq_true _
          have hlen2 : (((ps ++ [bs q]).length : Nat) : Int) = (ps.length : Int) + 1 := by simp
          replace hDr := Lib.hid hDr
          clear cw
          go_wp2_with fail
          refine (cw2.out _).mono ?_
          rintro e w6 ⟨⟨v6, rfl, hv6⟩, hb6⟩
          obtain ⟨a6, c6, rfl, _⟩ := id hv6
          have hB := Lib.hid (below_seq hB.out hb6)
          clear hv6 hb6
          go_wp2_with fail
          go_ret
          exact ⟨rfl, hB.out⟩
        · have cw2 := cw.out
          rw [if_neg hDr, List.append_nil] at cw2
          replace cw2 := Lib.hid cw2
          have heq : ((str (encL g ps ++ D)).toList == (str (encL g ps ++ recL g (bs q))).toList) = false := by
            rw [beq_eq_false_iff_ne, toList_bs, toList_bs, bs_str, bs_str]
            intro h
            exact hDr (List.append_cancel_left h)
          replace hDr := Lib.hid hDr
          clear cw
          go_wp2_with fail
          refine (cw2.out _).mono ?_
          rintro e w6 ⟨⟨v6, rfl, hv6⟩, hb6⟩
          have hB := Lib.hid (below_seq hB.out hb6)
          have hN := Lib.hid (hN.out.below hb6)
          go_wp2_with fail
          refine (Strings_walk v6 _ ps ps _ hv6 (H1.out.below hB.out) (by omega)).mono ?_
          rintro e w7 ⟨rfl, nq, rfl⟩
          rw [decide_eq_true rfl]
          have hc := hN.out ps.length (by rw [offs_length]; omega)
          rw [offs_get, List.take_length] at hc
          have hol := hnl.out
          go_wp2_with fail
          go_ret
          exact ⟨rfl, below_drewN' hB.out nq⟩

set_option maxHeartbeats 4000000 in
set_option maxRecDepth 100000 in
/-- Where the law says nothing. -/
theorem RecordTorn_off (g : Int) (v vb : Value) (ao : Option Addr) (no co : Nat) (ps bl : List (List UInt8)) (q : ByteArray) (cut : Int) (w : World) (h1 : StrsIn w v ps) (h2 : StrsIn w vb bl)
    (hm : ps.length ≤ 140737488351232) (hm2 : bl.length ≤ 140737488351232)
    (hoff : fewB ps 3 60 = false ∨ fewB bl 8 60 = false ∨ 60 < q.size ∨ 8 < no ∨ ¬ (1 ≤ g ∧ g ≤ 1099511627776)) (ht : Tab w) :
    Calls Tryd.prog 8 #[.int .i64 g, v, .string q, vb, .slice ao no co, .int .u16 cut] w fun e w' => e = .returned (.bool true) ∧ Below w.heap.size w w' := by
  have hT := Lib.hid ht
  have H1 := Lib.hid h1
  have H2 := Lib.hid h2
  clear ht h1 h2
  cases hf : fewB ps 3 60 with
  | false =>
    have HF := Lib.hid hf
    clear hf hoff
    go_enter Tryd.func8, Tryd.ntmps8
    go_wp2_with fail
    refine (awake54 _ hT.out).mono ?_
    rintro e w1 ⟨rfl, hb1⟩
    go_wp2_with fail
    refine (Few_walk _ ps 3 60 _ (H1.out.below hb1) (by omega)).mono ?_
    rintro e w2 ⟨rfl, rfl⟩
    rw [HF.out]
    go_wp2_with fail
    go_ret
    exact ⟨rfl, hb1⟩
  | true =>
    have HF := Lib.hid hf
    rw [hf] at hoff
    clear hf
    cases hf2 : fewB bl 8 60 with
    | false =>
      have HF2 := Lib.hid hf2
      clear hf2 hoff
      go_enter Tryd.func8, Tryd.ntmps8
      go_wp2_with fail
      refine (awake54 _ hT.out).mono ?_
      rintro e w1 ⟨rfl, hb1⟩
      go_wp2_with fail
      refine (Few_walk _ ps 3 60 _ (H1.out.below hb1) (by omega)).mono ?_
      rintro e w2 ⟨rfl, rfl⟩
      rw [HF.out]
      go_wp2_with fail
      refine (Few_walk _ bl 8 60 _ (H2.out.below hb1) (by omega)).mono ?_
      rintro e w2 ⟨rfl, rfl⟩
      rw [HF2.out]
      go_wp2_with fail
      go_ret
      exact ⟨rfl, hb1⟩
    | true =>
      have HF2 := Lib.hid hf2
      rw [hf2] at hoff
      clear hf2
      by_cases hq : 60 < q.size
      · have hd4 : decide (60 < (q.size : Int)) = true := by simp; omega
        clear hoff hq
        go_enter Tryd.func8, Tryd.ntmps8
        go_wp2_with fail
        refine (awake54 _ hT.out).mono ?_
        rintro e w1 ⟨rfl, hb1⟩
        go_wp2_with fail
        refine (Few_walk _ ps 3 60 _ (H1.out.below hb1) (by omega)).mono ?_
        rintro e w2 ⟨rfl, rfl⟩
        rw [HF.out]
        go_wp2_with fail
        refine (Few_walk _ bl 8 60 _ (H2.out.below hb1) (by omega)).mono ?_
        rintro e w2 ⟨rfl, rfl⟩
        rw [HF2.out]
        go_wp2_with fail
        go_ret
        exact ⟨rfl, hb1⟩
      · have hd4 : decide (60 < (q.size : Int)) = false := by simp; omega
        by_cases hno : 8 < no
        · have hd3 : decide (8 < (no : Int)) = true := by simp; omega
          clear hoff hq hno
          go_enter Tryd.func8, Tryd.ntmps8
          go_wp2_with fail
          refine (awake54 _ hT.out).mono ?_
          rintro e w1 ⟨rfl, hb1⟩
          go_wp2_with fail
          refine (Few_walk _ ps 3 60 _ (H1.out.below hb1) (by omega)).mono ?_
          rintro e w2 ⟨rfl, rfl⟩
          rw [HF.out]
          go_wp2_with fail
          refine (Few_walk _ bl 8 60 _ (H2.out.below hb1) (by omega)).mono ?_
          rintro e w2 ⟨rfl, rfl⟩
          rw [HF2.out]
          go_wp2_with fail
          go_ret
          exact ⟨rfl, hb1⟩
        · have hd3 : decide (8 < (no : Int)) = false := by simp; omega
          by_cases hlt : g < 1
          · have hd1 : decide (g < 1) = true := by simpa using hlt
            clear hoff hq hno
            go_enter Tryd.func8, Tryd.ntmps8
            go_wp2_with fail
            refine (awake54 _ hT.out).mono ?_
            rintro e w1 ⟨rfl, hb1⟩
            go_wp2_with fail
            refine (Few_walk _ ps 3 60 _ (H1.out.below hb1) (by omega)).mono ?_
            rintro e w2 ⟨rfl, rfl⟩
            rw [HF.out]
            go_wp2_with fail
            refine (Few_walk _ bl 8 60 _ (H2.out.below hb1) (by omega)).mono ?_
            rintro e w2 ⟨rfl, rfl⟩
            rw [HF2.out]
            go_wp2_with fail
            go_ret
            exact ⟨rfl, hb1⟩
          · have hd1 : decide (g < 1) = false := by simpa using hlt
            have hgt : 1099511627776 < g := by
              rcases hoff with h | h | h | h | h
              · cases h
              · cases h
              · exact absurd h hq
              · exact absurd h hno
              · omega
            have hd2 : decide (1099511627776 < g) = true := by simpa using hgt
            clear hoff hq hno hlt hgt
            go_enter Tryd.func8, Tryd.ntmps8
            go_wp2_with fail
            refine (awake54 _ hT.out).mono ?_
            rintro e w1 ⟨rfl, hb1⟩
            go_wp2_with fail
            refine (Few_walk _ ps 3 60 _ (H1.out.below hb1) (by omega)).mono ?_
            rintro e w2 ⟨rfl, rfl⟩
            rw [HF.out]
            go_wp2_with fail
            refine (Few_walk _ bl 8 60 _ (H2.out.below hb1) (by omega)).mono ?_
            rintro e w2 ⟨rfl, rfl⟩
            rw [HF2.out]
            go_wp2_with fail
            go_ret
            exact ⟨rfl, hb1⟩

theorem RecordTorn_walk (g : Int) (v vb vo : Value) (ps bl : List (List UInt8)) (os : List Int) (q : ByteArray) (cut : Int) (w : World) (h1 : StrsIn w v ps) (hcap : CapOk v) (h2 : StrsIn w vb bl) (h3 : IntsIn w vo os)
    (hm : ps.length ≤ 140737488351232) (hm2 : bl.length ≤ 140737488351232) (hcut : 0 ≤ cut ∧ cut ≤ 65535) (ht : Tab w) :
    Calls Tryd.prog 8 #[.int .i64 g, v, .string q, vb, vo, .int .u16 cut] w fun e w' => e = .returned (.bool true) ∧ Below w.heap.size w w' := by
  by_cases hoff : fewB ps 3 60 = false ∨ fewB bl 8 60 = false ∨ 60 < q.size ∨ 8 < os.length ∨ ¬ (1 ≤ g ∧ g ≤ 1099511627776)
  · obtain ⟨ao, co, rfl, hc⟩ := h3
    exact RecordTorn_off g v vb ao _ co ps bl q cut w h1 h2 hm hm2 hoff ht
  · simp only [not_or, Decidable.not_not, Bool.not_eq_false, Nat.not_lt] at hoff
    obtain ⟨hf, hf2, hq, hno, hg⟩ := hoff
    obtain ⟨k, rfl⟩ := Int.eq_ofNat_of_zero_le (show 0 ≤ g by omega)
    exact RecordTorn_good k v vb vo ps bl os q cut w h1 hcap h2 h3 hf hf2 hq hno (by omega) hcut ht
end Go.Proofs.YtcbapogicjhkjaaDoor
