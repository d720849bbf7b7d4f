/- The reference's Unpack. -/
import Derived.Test.YtcbapogicjhkjaaDoorUnpack
import Derived.Deep.RegionLaw
import Derived.Deep.AppendLies
import Derived.Deep.RegionHeld3
import Derived.Deep.DeepCutAuto
import Derived.IntWalk
import Derived.Deep.CutBlock
namespace Go.Proofs.YtcbapogicjhkjaaDoor
open Go.RowKit Go.Lib

theorem decV_lt (l : List UInt8) (h : ∀ b ∈ l, 48 ≤ b.toNat ∧ b.toNat ≤ 57) : decV l < 10 ^ l.length := by
  suffices all : ∀ (n : Nat) (l : List UInt8), l.length = n → (∀ b ∈ l, 48 ≤ b.toNat ∧ b.toNat ≤ 57) → decV l < 10 ^ n from all _ l rfl h
  intro n
  induction n with
  | zero => intro l hl _; rw [List.eq_nil_of_length_eq_zero hl]; decide
  | succ n ih =>
    intro l hl h
    have h0 : l ≠ [] := by intro e; rw [e] at hl; cases hl
    obtain ⟨q, b, rfl⟩ : ∃ q b, l = q ++ [b] := ⟨l.dropLast, l.getLast h0, (List.dropLast_concat_getLast h0).symm⟩
    have h1 := ih q (by simpa using hl) fun x hx => h x (by simp [hx])
    have h2 := h b (by simp)
    rw [decV_snoc, Nat.pow_succ]
    omega
theorem decDigits_len (k : Nat) : ∀ m, m < 10 ^ (k + 1) → (decDigits m).length ≤ k + 1 := by
  induction k with
  | zero => intro m h; rw [decDigits_one (by simpa using h)]; simp
  | succ k ih =>
    intro m h
    by_cases h10 : m < 10
    · rw [decDigits_one h10]; simp
    · rw [decDigits_step m h10, List.length_append]
      have := ih (m / 10) (by rw [Nat.pow_succ] at h; omega)
      simp; omega

/-- A number's digits ahead of a colon are all the digits at the front. -/
theorem front_digits {rest x : List UInt8} {m k : Nat} (hm : m < 1000000) (e : rest = decDigits m ++ 58 :: x) (hk : k ≤ rest.length) (hk6 : k ≤ 6) (hd : ∀ b ∈ rest.take k, 48 ≤ b.toNat ∧ b.toNat ≤ 57)
    (hmax : ∀ h : k < rest.length, k < 6 → ¬ (48 ≤ (rest[k]).toNat ∧ (rest[k]).toNat ≤ 57)) : k = (decDigits m).length ∧ rest.take k = decDigits m := by
  have hL := decDigits_len 5 m (by simpa using hm)
  have hlen : rest.length = (decDigits m).length + 1 + x.length := by rw [e]; simp; omega
  have h1 : k ≤ (decDigits m).length := by
    refine Nat.le_of_not_lt fun h => ?_
    have hin : (58 : UInt8) ∈ rest.take k := by
      rw [e, List.take_append, List.mem_append]
      right
      obtain ⟨j, hj⟩ : ∃ j, k - (decDigits m).length = j + 1 := ⟨k - (decDigits m).length - 1, by omega⟩
      rw [hj]; simp
    have := hd 58 hin
    simp at this
  have h2 : k = (decDigits m).length := by
    refine Nat.le_antisymm h1 (Nat.le_of_not_lt fun h => ?_)
    refine hmax (by omega) (by omega) ?_
    have he : rest[k]? = (decDigits m)[k]? := by rw [e, List.getElem?_append_left h]
    rw [List.getElem?_eq_getElem (by omega), List.getElem?_eq_getElem h] at he
    rw [Option.some.inj he]
    exact decDigits_digit m _ (List.getElem_mem h)
  exact ⟨h2, by rw [e, take_app _ _ _ h2.symm]⟩

/-- How many of the first bytes, at most six, are digits. -/
theorem front_dig (l : List UInt8) (m : Nat) : ∃ K, K ≤ l.length ∧ K ≤ m ∧ (∀ b ∈ l.take K, 48 ≤ b.toNat ∧ b.toNat ≤ 57) ∧ ∀ h : K < l.length, K < m → ¬ (48 ≤ (l[K]).toNat ∧ (l[K]).toNat ≤ 57) := by
  induction l generalizing m with
  | nil => exact ⟨0, by simp, by simp, by simp, fun h => by cases h⟩
  | cons c l ih =>
    cases m with
    | zero => exact ⟨0, by simp, by simp, by simp, fun _ h => by cases h⟩
    | succ m =>
      by_cases hc : 48 ≤ c.toNat ∧ c.toNat ≤ 57
      · obtain ⟨K, h1, h2, h3, h4⟩ := ih m
        refine ⟨K + 1, by simpa using h1, by omega, ?_, fun h hm => h4 (by simpa using h) (by omega)⟩
        intro b hb
        rw [List.take_succ_cons] at hb
        rcases List.mem_cons.1 hb with rfl | hb
        · exact hc
        · exact h3 b hb
      · exact ⟨0, by simp, by simp, by simp, fun _ _ => hc⟩

set_option maxHeartbeats 4000000 in
set_option maxRecDepth 100000 in
theorem refUnpack_walk (d : ByteArray) (w : World) (hd : d.size ≤ 8000) :
    Calls Tryd.prog 26 #[.string d] w fun e w' => UnpackEnd (bs d) e w' ∧ Below w.heap.size w w' := by
  obtain ⟨i0, hi, hz0, hz1, hz2⟩ := info_parts infoString
  have hdl := bs_length d
  go_enter Tryd.func26, Tryd.ntmps26
  go_wp2_with fail
  go_loopw [0, 4] (fun v0 v4 wr => ∃ (fs : List (List UInt8)) (s : ByteArray), v0 = .string s ∧ Hid (bs d = packL fs ++ bs s) ∧ Hid (wr.ownsRow w.heap.size 9 1 v4 fs.length (strVs fs)) ∧ Hid (Below w.heap.size w wr)) (fun v0 _ _ => strLen v0)
  case atStart => exact ⟨[], d, rfl, Lib.hid rfl, Lib.hid (World.ownsRow_lit w #[] 0 (Nat.le_refl _) (by decide) rfl), Lib.hid ((Below.refl _ _).alloc (Nat.le_refl _) _)⟩
  case round =>
    obtain ⟨fs, s, rfl, hdr, hown, hb⟩ := hrel
    obtain ⟨a4, c4, rfl⟩ := own_slice hown.out
    have hds : (packL fs).length + s.size = d.size := by rw [← hdl, hdr.out, List.length_append, bs_length]
    have hcnt := packL_count fs
    have hsl := bs_length s
    by_cases hrest : s.size = 0
    · have hemp : s.toList.isEmpty = true := by rw [toList_bs, List.isEmpty_iff_length_eq_zero, hsl]; exact hrest
      have hfin := Lib.hid (show UnpackEnd (bs d) (.returned (.tuple #[.slice a4 fs.length c4, .int .i64 0])) wr from .inl ⟨fs, _, by rw [hdr.out, List.eq_nil_of_length_eq_zero (hsl.trans hrest), List.append_nil], rfl, StrsIn.of_own hown.out⟩)
      clear hrest
      go_wp2_with fail
      go_ret2
      exact ⟨hfin.out, hb.out⟩
    · have hemp : s.toList.isEmpty = false := by rw [toList_bs, List.isEmpty_eq_false_iff]; intro h; rw [h] at hsl; exact hrest (by simpa using hsl.symm)
      have hbad : (∀ f r, bs s ≠ decDigits f.length ++ 58 :: (f ++ r)) → UnpackEnd (bs d) (.returned (.tuple #[.slice none 0 0, .int .i64 11])) wr := fun h => .inr ⟨fun gs e => by
        obtain ⟨f, r, e2⟩ := next_field hdr.out (by intro h; rw [h] at hsl; exact hrest (by simpa using hsl.symm)) e
        exact h f r e2, rfl⟩
      replace hbad := Lib.hid hbad
      have hpos : 0 < s.size := by omega
      clear hrest
      obtain ⟨K, hK, hK6, hdg, hmax⟩ := front_dig (bs s) 6
      have hv6 : decV ((bs s).take K) < 1000000 := by
        have hv := decV_lt _ hdg
        rw [List.length_take, Nat.min_eq_left hK] at hv
        exact Nat.lt_of_lt_of_le hv (Nat.pow_le_pow_right (by decide) hK6)
      rw [hsl] at hK
      replace hdg := Lib.hid hdg
      replace hmax := Lib.hid hmax
      obtain ⟨V, hV⟩ : ∃ V, V = decV ((bs s).take K) := ⟨_, rfl⟩
      rw [← hV] at hv6
      replace hV := Lib.hid hV
      -- a field ahead: its digits are these
      have hfield : ∀ f r, bs s = decDigits f.length ++ 58 :: (f ++ r) → K = (decDigits f.length).length ∧ V = f.length ∧ V + K + 1 ≤ s.size ∧ (bs s)[K]? = some 58 ∧ (1 < K → (s[0]'hpos).toNat ≠ 48) := by
        intro f r e
        have hm := congrArg List.length e
        rw [hsl] at hm
        simp only [List.length_append, List.length_cons] at hm
        obtain ⟨e1, e2⟩ := front_digits (by omega) e (by rw [hsl]; exact hK) hK6 hdg.out hmax.out
        have e3 : V = f.length := by rw [hV.out, e2, decDigits_val]
        refine ⟨e1, e3, by omega, by rw [e, List.getElem?_append_right (by omega), e1, Nat.sub_self]; rfl, fun h1k => ?_⟩
        have h0' : (bs s)[0]? = some (s[0]'hpos) := by rw [List.getElem?_eq_getElem (by omega), bs_get s 0 hpos]
        rw [e] at h0'
        cases hdm : decDigits f.length with
        | nil => exact absurd hdm (decDigits_ne _)
        | cons c0 r0 =>
          rw [hdm] at h0' e1
          simp at h0' e1
          have hf0 : 0 < f.length := by
            refine Nat.pos_of_ne_zero fun hz => ?_
            rw [hz, decDigits_one (by decide)] at hdm
            simp at hdm
            rw [hdm.2] at e1
            simp at e1
            omega
          have := decDigits_head f.length hf0 c0 r0 hdm
          rw [h0'] at this
          exact this
      replace hfield := Lib.hid hfield
      go_upto_block 2 with fail
      obtain ⟨wo, hwo⟩ : ∃ wo : World, wo = wr := ⟨_, rfl⟩
      subst hwo
      go_cut [5, 6] (fun v5 v6 wx => v5 = .int .i64 (K : Int) ∧ v6 = .int .i64 (V : Int) ∧ wx = wo)
      case first =>
        go_wp2_with fail
        go_loop [5, 6] (fun v5 v6 => ∃ k : Nat, k ≤ K ∧ v5 = .int .i64 k ∧ v6 = .int .i64 (decV ((bs s).take k) : Int)) (fun i _ => K - (RowKit.intOf i).toNat)
        case atStart => exact ⟨0, Nat.zero_le _, rfl, rfl⟩
        case round =>
          obtain ⟨k, hk, rfl, rfl⟩ := hrel
          by_cases hkK : k < K
          · have hlt : k < s.size := by omega
            have h6 : k < 6 := by omega
            have hmem : s[k] ∈ (bs s).take K := by
              rw [List.mem_take_iff_getElem]
              exact ⟨k, by rw [hsl]; omega, bs_get s k hlt⟩
            have h48 : (48 : Int) ≤ (s[k].toNat : Int) := by have := (hdg.out _ hmem).1; omega
            have h57 : (s[k].toNat : Int) ≤ 57 := by have := (hdg.out _ hmem).2; omega
            have hvk : decV ((bs s).take k) < 1000000 := by
              have hv := decV_lt ((bs s).take k) fun b hb => hdg.out b (List.take_subset_take_left _ (by omega) hb)
              rw [List.length_take, Nat.min_eq_left (by rw [hsl]; omega)] at hv
              exact Nat.lt_of_lt_of_le hv (Nat.pow_le_pow_right (n := 10) (by decide) (show k ≤ 6 by omega))
            have hnext : decV ((bs s).take (k + 1)) = decV ((bs s).take k) * 10 + (s[k].toNat - 48) := by
              rw [take_snoc' (bs s) k (by rw [hsl]; exact hlt), decV_snoc, bs_get s k hlt]
            replace hnext := Lib.hid hnext
            clear hmem
            go_wp2_with fail
            refine ⟨⟨k + 1, by omega, by simp, ?_⟩, by simp [RowKit.intOf]; omega⟩
            rw [hnext.out]; simp; omega
          · obtain rfl : k = K := by omega
            by_cases hlt : k < s.size
            · by_cases h6 : k < 6
              · have hm := hmax.out (by rw [hsl]; exact hlt) h6
                rw [bs_get s k hlt] at hm
                by_cases h48 : (48 : Int) ≤ (s[k].toNat : Int)
                · have h57 : ¬ (s[k].toNat : Int) ≤ 57 := by omega
                  clear hm
                  go_wp2_with fail
                  go_meet
                  exact ⟨rfl, by rw [hV.out], rfl⟩
                · clear hm
                  go_wp2_with fail
                  go_meet
                  exact ⟨rfl, by rw [hV.out], rfl⟩
              · go_wp2_with fail
                go_meet
                exact ⟨rfl, by rw [hV.out], rfl⟩
            · go_wp2_with fail
              go_meet
              exact ⟨rfl, by rw [hV.out], rfl⟩
      case rest =>
        obtain ⟨rfl, rfl, rfl⟩ := hcut
        by_cases hk0 : K = 0
        · have b0 : ((K : Int) == 0) = true := by rw [beq_iff_eq]; omega
          have hfin := Lib.hid (hbad.out fun f r e => by
            have := List.length_pos_iff.2 (decDigits_ne f.length)
            have := (hfield.out f r e).1
            omega)
          clear hk0
          go_wp2_with fail
          go_ret2
          exact ⟨hfin.out, hb.out⟩
        · have b0 : ((K : Int) == 0) = false := by rw [beq_eq_false_iff_ne]; omega
          by_cases hks : K = s.size
          · have b1 : ((K : Int) == (s.size : Int)) = true := by rw [beq_iff_eq]; omega
            have hfin := Lib.hid (hbad.out fun f r e => by
              have := (hfield.out f r e).2.2.1
              omega)
            clear hks hk0
            go_wp2_with fail
            go_ret2
            exact ⟨hfin.out, hb.out⟩
          · have b1 : ((K : Int) == (s.size : Int)) = false := by rw [beq_eq_false_iff_ne]; omega
            have hlt : K < s.size := by omega
            by_cases h58 : s[K] = 58
            · have b2 : ((s[K].toNat : Int) != 58) = false := by rw [h58]; rfl
              by_cases h4 : 1 < K ∧ (s[0]'hpos).toNat = 48
              · have b3 : decide (1 < (K : Int)) = true := by simp; omega
                have b4 : (((s[0]'hpos).toNat : Int) == 48) = true := by rw [beq_iff_eq]; omega
                have hfin := Lib.hid (hbad.out fun f r e => (hfield.out f r e).2.2.2.2 h4.1 h4.2)
                clear hks hk0 h58 h4
                go_wp2_with fail
                go_ret2
                exact ⟨hfin.out, hb.out⟩
              · by_cases hnl : V + K + 1 ≤ s.size
                · have b5 : decide ((s.size : Int) - (K : Int) - 1 < (V : Int)) = false := by simp; omega
                  have hdig := digits_are ((bs s).take K) (by intro h; have h' := congrArg List.length h; rw [List.length_take, hsl, Nat.min_eq_left hK] at h'; exact hk0 (by simpa using h')) hdg.out (fun c r e hr => by
                    intro hc
                    have h1k : 1 < K := by
                      have := congrArg List.length e
                      rw [List.length_take, hsl] at this
                      have := List.length_pos_iff.2 hr
                      simp at *; omega
                    have h0' : ((bs s).take K)[0]? = some (s[0]'hpos) := by rw [List.getElem?_take, if_pos (by omega), List.getElem?_eq_getElem (by omega), bs_get s 0 hpos]
                    rw [e] at h0'
                    simp at h0'
                    rw [h0'] at hc
                    exact h4 ⟨h1k, hc⟩)
                  rw [← hV.out] at hdig
                  have hnx := Lib.hid (show bs d = packL (fs ++ [((bs s).drop (K + 1)).take V]) ++ (bs s).drop (K + 1 + V) by
                    rw [packL_snoc, packF, List.length_take, List.length_drop, hsl, Nat.min_eq_left (by omega), ← hdig, List.append_assoc, List.append_assoc, List.cons_append, show (bs s).drop (K + 1 + V) = ((bs s).drop (K + 1)).drop V from by rw [List.drop_drop], List.take_append_drop]
                    have h58' : (58 : UInt8) :: (bs s).drop (K + 1) = (bs s).drop K := by
                      rw [List.drop_eq_getElem_cons (by omega : K < (bs s).length), bs_get s K hlt, h58]
                    rw [h58', List.take_append_drop]
                    exact hdr.out)
                  have hx1 := Lib.hid (show s.extract (K + 1) (K + 1 + V) = str (((bs s).drop (K + 1)).take V) by rw [← str_bs (s.extract _ _), bs_mid]; congr 2; omega)
                  have hx2 := Lib.hid (show bs (s.extract (K + 1 + V) s.size) = (bs s).drop (K + 1 + V) by rw [bs_mid, List.take_of_length_le (by rw [List.length_drop, hsl]; exact Nat.le_refl _)])
                  have hx3 := Lib.hid (show (s.extract (K + 1 + V) s.size).size = s.size - (K + 1 + V) by rw [← bs_length, hx2.out, List.length_drop, hsl])
                  have h4096 : ((fs.length : Int) == 4096) = false := by rw [beq_eq_false_iff_ne]; omega
                  have hwr1 : IntKind.i64.wrap ((K : Int) + 1) = (K : Int) + 1 := IntWalk.i64_in _ (by omega)
                  have hwr2 : IntKind.i64.wrap ((K : Int) + 1 + (V : Int)) = (K : Int) + 1 + (V : Int) := IntWalk.i64_in _ (by omega)
                  have hp1 : (0 : Int) ≤ (K : Int) + 1 := by omega
                  have hp2 : (K : Int) + 1 ≤ (K : Int) + 1 + (V : Int) := by omega
                  have hp3 : (K : Int) + 1 + (V : Int) ≤ (s.size : Int) := by omega
                  have hp4 : (0 : Int) ≤ (K : Int) + 1 + (V : Int) := by omega
                  have ht1 : ((K : Int) + 1).toNat = K + 1 := by omega
                  have ht2 : ((K : Int) + 1 + (V : Int)).toNat = K + 1 + V := by omega
                  replace hdig := Lib.hid hdig
                  have hbsz := hb.out.size
                  have step : ∀ (v' : Value) (w1 : World), w1.ownsRow w.heap.size 9 1 v' (fs.length + 1) (strVs fs ++ [.string (s.extract (K + 1) (K + 1 + V))]) → (wc.alloc (.cells #[.string (s.extract (K + 1) (K + 1 + V))] 9)).drew.grownBy w1 (Value.slice a4 fs.length c4).ownBlock →
                      Hid (w1.ownsRow w.heap.size 9 1 v' (fs ++ [((bs s).drop (K + 1)).take V]).length (strVs (fs ++ [((bs s).drop (K + 1)).take V]))) ∧ Hid (Below w.heap.size w w1) := by
                    intro v' w1 h1 h2
                    refine ⟨Lib.hid ?_, Lib.hid ?_⟩
                    · rw [strVs_snoc, List.length_append, ← hx1.out]; exact h1
                    · exact ((hb.out.alloc hbsz _).drew).grown h2 (by simp; omega) (fun q hq => (hown.out.lt q hq).1)
                  replace step := Lib.hid step
                  by_cases h1k : 1 < K
                  · have b3 : decide (1 < (K : Int)) = true := by simp; omega
                    have b4 : (((s[0]'hpos).toNat : Int) == 48) = false := by rw [beq_eq_false_iff_ne]; intro h; exact h4 ⟨h1k, by omega⟩
                    clear hks hk0 h58 h4
                    go_wp2_with fail
                    go_region_held3 (fun _ => True) (trivial)
                      ((refine step_append_lies _ (by rfl) _ _ _ (by rfl) w.heap.size 9 i0 (.string ⟨#[]⟩) 1 16 Tryd.underlying23 hi hz0 hz1 hz2 rfl (by decide) (.slice a4 fs.length c4) fs.length (strVs fs) (by rfl) ((hown.out.alloc _).drew)
                          ⟨wc.heap.size, 0, none⟩ 1 1 [.string (s.extract (K + 1) (K + 1 + V))] (by rfl) (by rfl) (World.news_of_block (cs := #[.string (s.extract (K + 1) (K + 1 + V))]) (t := 9) (fr := (0, 0)) (heap_alloc_new wc _)) (by simp [Value.oneCell'])
                          (by omega) (by unfold maxLen; omega) (by omega) (by simp; omega) (wc.heap.size + 1) (by simp) ?_; intro gg cap w1 hown1 hgrow hat hlt'))
                    obtain ⟨hO, hB⟩ := step.out _ _ hown1 hgrow
                    clear hown1 hgrow hat
                    go_wp2_with fail
                    refine ⟨⟨_, _, rfl, Lib.hid (hnx.out.trans (by rw [hx2.out])), hO, hB⟩, ?_⟩
                    simp only [strLen, hx3.out]; omega
                  · have b3 : decide (1 < (K : Int)) = false := by simp; omega
                    clear hks hk0 h58 h4
                    go_wp2_with fail
                    go_region_held3 (fun _ => True) (trivial)
                      ((refine step_append_lies _ (by rfl) _ _ _ (by rfl) w.heap.size 9 i0 (.string ⟨#[]⟩) 1 16 Tryd.underlying23 hi hz0 hz1 hz2 rfl (by decide) (.slice a4 fs.length c4) fs.length (strVs fs) (by rfl) ((hown.out.alloc _).drew)
                          ⟨wc.heap.size, 0, none⟩ 1 1 [.string (s.extract (K + 1) (K + 1 + V))] (by rfl) (by rfl) (World.news_of_block (cs := #[.string (s.extract (K + 1) (K + 1 + V))]) (t := 9) (fr := (0, 0)) (heap_alloc_new wc _)) (by simp [Value.oneCell'])
                          (by omega) (by unfold maxLen; omega) (by omega) (by simp; omega) (wc.heap.size + 1) (by simp) ?_; intro gg cap w1 hown1 hgrow hat hlt'))
                    obtain ⟨hO, hB⟩ := step.out _ _ hown1 hgrow
                    clear hown1 hgrow hat
                    go_wp2_with fail
                    refine ⟨⟨_, _, rfl, Lib.hid (hnx.out.trans (by rw [hx2.out])), hO, hB⟩, ?_⟩
                    simp only [strLen, hx3.out]; omega
                · have b5 : decide ((s.size : Int) - (K : Int) - 1 < (V : Int)) = true := by simp; omega
                  have hfin := Lib.hid (hbad.out fun f r e => hnl (hfield.out f r e).2.2.1)
                  by_cases h1k : 1 < K
                  · have b3 : decide (1 < (K : Int)) = true := by simp; omega
                    have b4 : (((s[0]'hpos).toNat : Int) == 48) = false := by rw [beq_eq_false_iff_ne]; intro h; exact h4 ⟨h1k, by omega⟩
                    clear hks hk0 h58 h4 hnl
                    go_wp2_with fail
                    go_ret2
                    exact ⟨hfin.out, hb.out⟩
                  · have b3 : decide (1 < (K : Int)) = false := by simp; omega
                    clear hks hk0 h58 h4 hnl
                    go_wp2_with fail
                    go_ret2
                    exact ⟨hfin.out, hb.out⟩
            · have b2 : ((s[K].toNat : Int) != 58) = true := by
                rw [bne_iff_ne]; intro h; exact h58 (UInt8.toNat_inj.1 (by have : s[K].toNat = 58 := by omega
                                                                           rw [this]; rfl))
              have hfin := Lib.hid (hbad.out fun f r e => by
                have h := (hfield.out f r e).2.2.2.1
                rw [List.getElem?_eq_getElem (by rw [hsl]; exact hlt), bs_get s K hlt] at h
                exact h58 (Option.some.inj h))
              clear hks hk0 h58
              go_wp2_with fail
              go_ret2
              exact ⟨hfin.out, hb.out⟩
end Go.Proofs.YtcbapogicjhkjaaDoor
