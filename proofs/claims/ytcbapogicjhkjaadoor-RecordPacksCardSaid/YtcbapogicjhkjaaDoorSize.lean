/- strings.Cut at a colon, and package record's size. -/
import Derived.Test.YtcbapogicjhkjaaDoorPlainD
import Derived.Test.YtcbapogicjhkjaaDoorDecode
import Derived.Lib.IndexLaws
import Derived.Lib.ConvBytes
import Derived.Lib.AtoiAllCases
namespace Go.Proofs.YtcbapogicjhkjaaDoor
open Go.RowKit Go.Lib

/-- The library's sentinels hold some errors. -/
def Errs (w : World) : Prop := (∃ t p, w.var? Tryd.prog "strconv.ErrSyntax" = some #[.iface t p]) ∧ ∃ t p, w.var? Tryd.prog "strconv.ErrRange" = some #[.iface t p]
theorem var_below {w w' : World} {n : String} {cs : Array Value} (h : w.var? Tryd.prog n = some cs) (hb : Below w.heap.size w w') : w'.var? Tryd.prog n = some cs := by
  cases hg : Tryd.prog.globalNamed n with
  | none => simp [World.var?, hg] at h
  | some g =>
    refine var?_below hb hg ?_ h
    simp only [World.var?, hg, Option.bind_some] at h
    cases hx : w.heap[g]? with
    | none => rw [hx] at h; cases h
    | some o => exact (Array.getElem?_eq_some_iff.1 hx).1
theorem Errs.below {w w' : World} (h : Errs w) (hb : Below w.heap.size w w') : Errs w' := by
  obtain ⟨⟨t, p, h1⟩, t', p', h2⟩ := h
  exact ⟨⟨t, p, var_below h1 hb⟩, t', p', var_below h2 hb⟩

/-- A text with its first colon, or without one. -/
theorem colon_split (l : List UInt8) : (∃ a b, l = a ++ 58 :: b ∧ (∀ c ∈ a, c ≠ 58) ∧ indexByte l 58 = (a.length : Int)) ∨ ((∀ c ∈ l, c ≠ 58) ∧ indexByte l 58 = -1) := by
  induction l with
  | nil => exact .inr ⟨by simp, rfl⟩
  | cons c l ih =>
    by_cases hc : c = 58
    · subst hc
      exact .inl ⟨[], l, rfl, by simp, by simp [indexByte]⟩
    · have hb : (c == 58) = false := by simpa using hc
      rcases ih with ⟨a, b, h1, h2, h3⟩ | ⟨h1, h2⟩
      · refine .inl ⟨c :: a, b, by rw [h1]; rfl, ?_, ?_⟩
        · intro x hx
          rcases List.mem_cons.1 hx with rfl | hx
          · exact hc
          · exact h2 x hx
        · rw [indexByte, hb, h3]
          have : ((a.length : Int) == -1) = false := by rw [beq_eq_false_iff_ne]; omega
          simp [this]
      · refine .inr ⟨?_, ?_⟩
        · intro x hx
          rcases List.mem_cons.1 hx with rfl | hx
          · exact hc
          · exact h1 x hx
        · rw [indexByte, hb, h2]; rfl

set_option maxHeartbeats 1000000 in
set_option maxRecDepth 100000 in
theorem liteCut_some (a b : List UInt8) (w : World) (hs : (a ++ 58 :: b).length ≤ 1000000) (hi : indexByte (a ++ 58 :: b) 58 = (a.length : Int)) :
    Calls Tryd.prog 59 #[.string (str (a ++ 58 :: b)), .string ⟨#[58]⟩] w fun e w' => e = .returned (.tuple #[.string (str a), .string (str b), .bool true]) ∧ ∃ n, w' = w.drewN n := by
  have hz : (str (a ++ 58 :: b)).size = a.length + 1 + b.length := by rw [str_size]; simp; omega
  have hl : a.length + 1 + b.length ≤ 1000000 := by simp at hs; omega
  have h1 : (str (a ++ 58 :: b)).extract 0 a.length = str a := by rw [← str_bs ((str _).extract _ _), bs_mid, bs_str, List.drop_zero, Nat.sub_zero, take_app _ _ _ rfl]
  have h2 : (str (a ++ 58 :: b)).extract (a.length + 1) (a.length + 1 + b.length) = str b := by
    rw [← str_bs ((str _).extract _ _), bs_mid, bs_str, ← List.drop_drop, drop_app _ _ _ rfl, List.drop_succ_cons, List.drop_zero, List.take_of_length_le (by omega)]
  have hi' := Lib.hid hi
  clear hi hs
  go_enter Tryd.func59, Tryd.ntmps59
  go_wp2_with fail
  refine (Tryd.stringslite_Index_one _ 58 _).mono ?_
  rintro e w1 ⟨rfl, rfl⟩
  rw [show (str (a ++ 58 :: b)).data.toList = a ++ 58 :: b from bs_str _, hi'.out]
  go_wp2_with fail
  go_quiet (fail)
  go_wp2_with fail
  go_ret3
  exact ⟨rfl, _, rfl⟩

set_option maxHeartbeats 1000000 in
set_option maxRecDepth 100000 in
theorem liteCut_none (l : List UInt8) (w : World) (hi : indexByte l 58 = -1) :
    Calls Tryd.prog 59 #[.string (str l), .string ⟨#[58]⟩] w fun e w' => e = .returned (.tuple #[.string (str l), .string ⟨#[]⟩, .bool false]) ∧ ∃ n, w' = w.drewN n := by
  have hi' := Lib.hid hi
  clear hi
  go_enter Tryd.func59, Tryd.ntmps59
  go_wp2_with fail
  refine (Tryd.stringslite_Index_one _ 58 _).mono ?_
  rintro e w1 ⟨rfl, rfl⟩
  rw [show (str l).data.toList = l from bs_str _, hi'.out]
  go_wp2_with fail
  go_ret3
  exact ⟨rfl, 0, rfl⟩

set_option maxHeartbeats 1000000 in
theorem cut_some (a b : List UInt8) (w : World) (hs : (a ++ 58 :: b).length ≤ 1000000) (hi : indexByte (a ++ 58 :: b) 58 = (a.length : Int)) :
    Calls Tryd.prog 48 #[.string (str (a ++ 58 :: b)), .string ⟨#[58]⟩] w fun e w' => e = .returned (.tuple #[.string (str a), .string (str b), .bool true]) ∧ ∃ n, w' = w.drewN n := by
  have hi' := Lib.hid hi
  clear hi
  go_enter Tryd.func48, Tryd.ntmps48
  go_wp2_with fail
  refine (liteCut_some a b _ hs hi'.out).mono ?_
  rintro e w1 ⟨rfl, n, rfl⟩
  go_wp2_with fail
  go_ret3
  exact ⟨rfl, n, rfl⟩
set_option maxHeartbeats 1000000 in
theorem cut_none (l : List UInt8) (w : World) (hi : indexByte l 58 = -1) :
    Calls Tryd.prog 48 #[.string (str l), .string ⟨#[58]⟩] w fun e w' => e = .returned (.tuple #[.string (str l), .string ⟨#[]⟩, .bool false]) ∧ ∃ n, w' = w.drewN n := by
  have hi' := Lib.hid hi
  clear hi
  go_enter Tryd.func48, Tryd.ntmps48
  go_wp2_with fail
  refine (liteCut_none l _ hi'.out).mono ?_
  rintro e w1 ⟨rfl, n, rfl⟩
  go_wp2_with fail
  go_ret3
  exact ⟨rfl, n, rfl⟩

theorem bytesWorld_below (w : World) (e : TypeId) (s : ByteArray) : Below w.heap.size w (bytesWorld w e s) := by
  refine ⟨?_, ?_, ?_, ?_, ?_⟩
  · simp [bytesWorld, World.freeze, World.alloc, World.drew, -World.alloc_eq, -World.drew_eq]
  · simp [bytesWorld, World.freeze, World.alloc, World.drew, -World.alloc_eq, -World.drew_eq]
  · simp [bytesWorld, World.freeze, World.alloc, World.drew, -World.alloc_eq, -World.drew_eq]
  · rw [bytesWorld_size]; omega
  · intro k hk; exact bytesWorld_at_old w _ s k hk

/-- Atoi: a number, or an error. -/
theorem atoi_any (s : ByteArray) (w : World) (hs : s.size ≤ 1000000) (he : Errs w) :
    (∃ v, atoiAll (bs s) = .ok v ∧ Calls Tryd.prog 60 #[.string s] w fun e w' => e = .returned (.tuple #[.int .i64 v, .nilIface]) ∧ Below w.heap.size w w') ∨
    ((∀ v, atoiAll (bs s) ≠ .ok v) ∧ ∃ (v : Int) (T : TypeId), Calls Tryd.prog 60 #[.string s] w fun e w' => (∃ N, e = .returned (.tuple #[.int .i64 v, .iface T (.pointer (some ⟨N, 0, none⟩))])) ∧ Below w.heap.size w w') := by
  obtain ⟨⟨t, p, h1⟩, t', p', h2⟩ := he
  have hnil : ∀ v, atoiAll [] ≠ .ok v := fun v h => by simp [atoiAll] at h
  cases hx : atoiAll (bs s) with
  | ok v =>
    refine .inl ⟨v, rfl, (Tryd.strconv_Atoi_ok s (by omega) v hx w).mono ?_⟩
    rintro e w' ⟨he, hw | ⟨t, hw⟩⟩
    · exact ⟨he, hw ▸ Below.refl _ _⟩
    · exact ⟨he, hw ▸ bytesWorld_below w _ t⟩
  | range =>
    refine .inr ⟨by simp, atoiSat s.data.toList, 106, ?_⟩
    exact (Tryd.strconv_Atoi_range_var s (by omega) hx t' p' w h2).mono fun e w' ⟨N, he, _, _, hb⟩ => ⟨⟨N, he⟩, hb⟩
  | _ =>
    refine .inr ⟨by simp, 0, 106, ?_⟩
    exact (Tryd.strconv_Atoi_syntax_var s (by omega) (hx.trans rfl) t p w h1).mono fun e w' ⟨N, he, _, _, hb⟩ => ⟨⟨N, he⟩, hb⟩

set_option maxHeartbeats 2000000 in
set_option maxRecDepth 100000 in
/-- size: a number and whether these are its digits. -/
theorem size_any (s : ByteArray) (w : World) (hs : s.size ≤ 1000000) (he : Errs w) (ht : Tab w) : ∃ (m : Int) (b : Bool),
    (Calls Tryd.prog 49 #[.string s] w fun e w' => e = .returned (.tuple #[.int .i64 m, .bool b]) ∧ Below w.heap.size w w') ∧
    ((b = true ∧ ∃ n : Nat, m = (n : Int) ∧ bs s = decDigits n) ∨ (b = false ∧ ∀ n : Nat, n < 9223372036854775808 → bs s ≠ decDigits n)) := by
  have hT := Lib.hid ht
  clear ht
  rcases atoi_any s w hs he with ⟨v, hv, hc⟩ | ⟨hv, v, T, hc⟩
  · have hC := Lib.hid hc
    clear hc
    by_cases h0 : 0 ≤ v
    · obtain ⟨n, rfl⟩ := Int.eq_ofNat_of_zero_le h0
      have hn : n < 9223372036854775808 := by
        have := atoiAll_bounds hv
        omega
      by_cases hd : bs s = decDigits n
      · refine ⟨n, true, ?_, .inl ⟨rfl, n, rfl, hd⟩⟩
        have heq : ((str (decDigits n)).toList == s.toList) = true := by rw [toList_bs, toList_bs, bs_str, hd]; exact beq_self_eq_true _
        clear hd hv h0
        go_enter Tryd.func49, Tryd.ntmps49
        go_wp2_with fail
        refine hC.out.mono ?_
        rintro e w1 ⟨rfl, hb1⟩
        go_wp2_with fail
        refine (itoa_walk n _ hn (hT.out.below hb1)).mono ?_
        rintro e w2 ⟨rfl, hb2⟩
        go_wp2_with fail
        go_ret2
        exact ⟨rfl, below_seq hb1 hb2⟩
      · refine ⟨n, false, ?_, .inr ⟨rfl, fun k hk e => ?_⟩⟩
        · have heq : ((str (decDigits n)).toList == s.toList) = false := by
            rw [toList_bs, toList_bs, bs_str, beq_eq_false_iff_ne]; exact fun h => hd h.symm
          clear hd hv h0
          go_enter Tryd.func49, Tryd.ntmps49
          go_wp2_with fail
          refine hC.out.mono ?_
          rintro e w1 ⟨rfl, hb1⟩
          go_wp2_with fail
          refine (itoa_walk n _ hn (hT.out.below hb1)).mono ?_
          rintro e w2 ⟨rfl, hb2⟩
          go_wp2_with fail
          go_ret2
          exact ⟨rfl, below_seq hb1 hb2⟩
        · rw [e, atoi_digits k hk] at hv
          injection hv with hv
          have : k = n := by omega
          exact hd (by rw [e, this])
    · refine ⟨v, false, ?_, .inr ⟨rfl, fun k hk e => ?_⟩⟩
      · have hneg : v < 0 := by omega
        clear hv h0
        go_enter Tryd.func49, Tryd.ntmps49
        go_wp2_with fail
        refine hC.out.mono ?_
        rintro e w1 ⟨rfl, hb1⟩
        go_wp2_with fail
        go_ret2
        exact ⟨rfl, hb1⟩
      · rw [e, atoi_digits k hk] at hv
        injection hv with hv
        omega
  · refine ⟨v, false, ?_, .inr ⟨rfl, fun k hk e => hv k (by rw [e, atoi_digits k hk])⟩⟩
    have hC := Lib.hid hc
    clear hc hv
    go_enter Tryd.func49, Tryd.ntmps49
    go_wp2_with fail
    refine hC.out.mono ?_
    rintro e w1 ⟨⟨N, rfl⟩, hb1⟩
    go_wp2_with fail
    go_ret2
    exact ⟨rfl, hb1⟩
end Go.Proofs.YtcbapogicjhkjaaDoor
