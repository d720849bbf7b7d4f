/- Unpack of package record. -/
import Derived.Test.YtcbapogicjhkjaaDoorSize
import Derived.Test.YtcbapogicjhkjaaDoorWalkRec
namespace Go.Proofs.YtcbapogicjhkjaaDoor
open Go.RowKit Go.Lib

/-- How Unpack ends. -/
def UnpackEnd (d : List UInt8) (e : Ending) (w' : World) : Prop :=
  (∃ fs v, d = packL fs ∧ e = .returned (.tuple #[v, .int .i64 0]) ∧ StrsIn w' v fs) ∨ ((∀ fs, d ≠ packL fs) ∧ e = .returned (.tuple #[.slice none 0 0, .int .i64 11]))
/-- A string's length. -/
def strLen : Value → Nat | .string s => s.size | _ => 0

theorem own_slice {w : World} {B n size : Nat} {T : TypeId} {v : Value} {xs : List Value} (h : w.ownsRow B T size v n xs) : ∃ a c, v = .slice a n c := by
  rcases h.2 with ⟨rfl, rfl⟩ | ⟨g, cap, cur, rfl, _⟩
  · exact ⟨_, _, rfl⟩
  · exact ⟨_, _, rfl⟩

/-- What stands behind some fields begins with a field, if the whole are the bytes of fields. -/
theorem next_field {d rest : List UInt8} {fs gs : List (List UInt8)} (hd : d = packL fs ++ rest) (hr : rest ≠ []) (h : d = packL gs) : ∃ f r, rest = decDigits f.length ++ 58 :: (f ++ r) := by
  obtain ⟨hs, _, e⟩ := packL_rest fs gs rest (hd.symm.trans h)
  cases hs with
  | nil => exact absurd e hr
  | cons f hs =>
    refine ⟨f, packL hs, ?_⟩
    rw [e, packL_cons, packF, List.append_assoc, List.cons_append]

set_option maxHeartbeats 4000000 in
set_option maxRecDepth 100000 in
theorem Unpack_walk (d : List UInt8) (w : World) (hd : d.length ≤ 8000) (ht : Tab w) (he : Errs w) :
    Calls Tryd.prog 25 #[.string (str d)] w fun e w' => UnpackEnd d e w' ∧ Below w.heap.size w w' := by
  obtain ⟨i0, hi, hz0, hz1, hz2⟩ := info_parts infoString
  have hT := Lib.hid ht
  have hE := Lib.hid he
  have hz : (str d).size = d.length := str_size d
  clear ht he
  go_enter Tryd.func25, Tryd.ntmps25
  go_wp2_with fail
  go_loopw [0, 4] (fun v0 v4 wr => ∃ (fs : List (List UInt8)) (rest : List UInt8), v0 = .string (str rest) ∧ Hid (d = packL fs ++ rest) ∧ Hid (wr.ownsRow w.heap.size 9 1 v4 fs.length (strVs fs)) ∧ Hid (Below w.heap.size w wr)) (fun v0 _ _ => strLen v0)
  case atStart => exact ⟨[], d, rfl, Lib.hid rfl, Lib.hid (World.ownsRow_nil _ _ _ _), Lib.hid (Below.refl _ _)⟩
  case round =>
    obtain ⟨fs, rest, rfl, hdr, hown, hb⟩ := hrel
    obtain ⟨a4, c4, rfl⟩ := own_slice hown.out
    have hdl : (packL fs).length + rest.length = d.length := by rw [hdr.out, List.length_append]
    have hcnt := packL_count fs
    have hrz : (str rest).size = rest.length := str_size rest
    by_cases hrest : rest = []
    · subst hrest
      have hfin := Lib.hid (show UnpackEnd d (.returned (.tuple #[.slice a4 fs.length c4, .int .i64 0])) wr from .inl ⟨fs, _, by rw [hdr.out, List.append_nil], rfl, StrsIn.of_own hown.out⟩)
      have hemp : (str []).toList.isEmpty = true := by rw [toList_bs, bs_str]; rfl
      go_wp2_with fail
      go_ret2
      exact ⟨hfin.out, hb.out⟩
    · have hemp : (str rest).toList.isEmpty = false := by rw [toList_bs, bs_str, List.isEmpty_eq_false_iff]; exact hrest
      have hbad : ∀ W, (∀ f r, rest ≠ decDigits f.length ++ 58 :: (f ++ r)) → UnpackEnd d (.returned (.tuple #[.slice none 0 0, .int .i64 11])) W := fun W h => .inr ⟨fun gs e => by
        obtain ⟨f, r, e2⟩ := next_field hdr.out hrest e
        exact h f r e2, rfl⟩
      have hbad := Lib.hid hbad
      rcases colon_split rest with ⟨a, b, hab, ha, hix⟩ | ⟨hno, hix⟩
      · subst hab
        have hal : a.length + 1 + b.length ≤ 8000 := by simp at hdl; omega
        have hix := Lib.hid hix
        have hA := Lib.hid ha
        clear ha hrest
        obtain ⟨wr0, hwr0⟩ : ∃ wr0, wr0 = wr := ⟨_, rfl⟩
        go_wp2_with fail
        refine (cut_some a b _ (by simp; omega) hix.out).mono ?_
        rintro e w1 ⟨rfl, n1, hw1⟩
        have hb1 : Below w.heap.size w w1 := hw1 ▸ below_drewN' hb.out n1
        have hown1 : w1.ownsRow w.heap.size 9 1 (.slice a4 fs.length c4) fs.length (strVs fs) := ownsRow_old hown.out (hw1 ▸ below_of_drewN n1)
        clear hw1
        obtain ⟨m, ok, hsz, hcase⟩ := size_any (str a) w1 (by rw [str_size]; omega) (hE.out.below hb1) (hT.out.below hb1)
        have hsz := Lib.hid hsz
        go_wp2_with fail
        refine hsz.out.mono ?_
        rintro e w2 ⟨rfl, hb2⟩
        have hown2 := Lib.hid (ownsRow_old hown1 hb2)
        have hb2 := Lib.hid (below_seq hb1 hb2)
        clear hb1 hown1 hsz
        have hbz : (str b).size = b.length := str_size b
        rcases hcase with ⟨rfl, n, rfl, hdig⟩ | ⟨rfl, hdig⟩
        · rw [bs_str] at hdig
          by_cases hnb : n ≤ b.length
          · have hx1 : (str b).extract 0 n = str (b.take n) := by rw [← str_bs ((str _).extract _ _), bs_mid, bs_str, List.drop_zero, Nat.sub_zero]
            have hx2 : (str b).extract n b.length = str (b.drop n) := by rw [← str_bs ((str _).extract _ _), bs_mid, bs_str, List.take_of_length_le (by rw [List.length_drop]; exact Nat.le_refl _)]
            have h4096 : ((fs.length : Int) == 4096) = false := by rw [beq_eq_false_iff_ne]; omega
            have hnext := Lib.hid (show d = packL (fs ++ [b.take n]) ++ b.drop n by
              rw [hdr.out, hdig, packL_snoc, packF, List.length_take, Nat.min_eq_left hnb, List.append_assoc, List.append_assoc, List.cons_append, List.take_append_drop])
            have hDig := Lib.hid hdig
            clear hdig
            go_wp2_with (at_builtin; refine wpList_append_own _ rfl _ _ 23 rfl w.heap.size 9 i0 (.string ⟨#[]⟩) 1 16 Tryd.underlying23 hi hz0 hz1 hz2 rfl (by decide) _ _ _ rfl (hown2.out.alloc _) ⟨w2.heap.size, 0, none⟩ 1 1 [.string (str (b.take n))] rfl rfl ?c1 ?c2 ?c3 ?c4 ?c5 ?_)
            case c1 => exact cell_one_new _ _ _
            case c2 => intro u hu; simp at hu; subst hu; rfl
            case c3 => unfold maxLen; omega
            case c4 => omega
            case c5 => have := hb2.out.size; simp; omega
            intro v' w3 hown3 hgr _
            have hown4 : w3.ownsRow w.heap.size 9 1 v' (fs ++ [b.take n]).length (strVs (fs ++ [b.take n])) := by
              rw [strVs_snoc, List.length_append]; exact hown3
            have hb3 : Below w.heap.size w w3 := (hb2.out.alloc (by have := hb2.out.size; omega) _).grown hgr (by have := hb2.out.size; simp; omega) (fun q hq => (hown2.out.lt q hq).1)
            have hOwn := Lib.hid hown4
            have hB3 := Lib.hid hb3
            clear hown3 hown4 hgr hb3
            go_wp2_with fail
            exact ⟨⟨fs ++ [b.take n], b.drop n, rfl, hnext, hOwn, hB3⟩, by simp only [strLen, str_size, List.length_drop, List.length_append, List.length_cons]; omega⟩
          · have hlt : (b.length : Int) < (n : Int) := by omega
            have hfin := Lib.hid (hbad.out w2 fun f r e => by
              obtain ⟨e1, e2⟩ := colon_cut hA.out (decDigits_colon _) e
              have := decDigits_inj (hdig.symm.trans e1)
              rw [e2, List.length_append] at hnb
              omega)
            clear hdig hnb
            go_wp2_with fail
            go_ret2
            exact ⟨hfin.out, hb2.out⟩
        · rw [bs_str] at hdig
          have hfin := Lib.hid (hbad.out w2 fun f r e => by
            obtain ⟨e1, e2⟩ := colon_cut hA.out (decDigits_colon _) e
            refine hdig f.length ?_ e1
            have := congrArg List.length e2
            rw [List.length_append] at this
            omega)
          clear hdig
          go_wp2_with fail
          go_ret2
          exact ⟨hfin.out, hb2.out⟩
      · have hfin0 : ∀ W, UnpackEnd d (.returned (.tuple #[.slice none 0 0, .int .i64 11])) W := fun W => hbad.out W fun f r e => hno 58 (by rw [e]; simp) rfl
        have hfin := Lib.hid hfin0
        have hix := Lib.hid hix
        clear hno hrest hfin0
        go_wp2_with fail
        refine (cut_none rest _ hix.out).mono ?_
        rintro e w1 ⟨rfl, n1, hw1⟩
        have hb1 : Below w.heap.size w w1 := hw1 ▸ below_drewN' hb.out n1
        clear hw1
        obtain ⟨m, ok, hsz, hcase⟩ := size_any (str rest) w1 (by omega) (hE.out.below hb1) (hT.out.below hb1)
        clear hcase
        have hsz := Lib.hid hsz
        go_wp2_with fail
        refine hsz.out.mono ?_
        rintro e w2 ⟨rfl, hb2⟩
        go_wp2_with fail
        go_ret2
        exact ⟨hfin.out _, below_seq hb1 hb2⟩
end Go.Proofs.YtcbapogicjhkjaaDoor
