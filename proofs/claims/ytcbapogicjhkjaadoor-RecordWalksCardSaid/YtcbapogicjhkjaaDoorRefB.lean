/- Encode, Decode, Walk and Generation of the reference of layer 54. -/
import Derived.Test.YtcbapogicjhkjaaDoorRefA
import Derived.Test.YtcbapogicjhkjaaDoorGener
namespace Go.Proofs.YtcbapogicjhkjaaDoor
open Go.RowKit Go.Lib

theorem wrapU_small (n : Int) (h0 : 0 ≤ n) (h1 : n < 9223372036854775808) : IntKind.u64.wrap n = n := by
  simp [IntKind.wrap, IntKind.bits, IntKind.signed]; omega

set_option maxHeartbeats 2000000 in
set_option maxRecDepth 100000 in
theorem refEncode_walk (g : Nat) (p : ByteArray) (w : World) (h1 : 1 ≤ g) (h2 : g ≤ 1099511627776) (hp : p.size ≤ 30000) :
    Calls Tryd.prog 18 #[.int .i64 g, .string p] w fun e w' => e = .returned (.tuple #[.string (str (recL g (bs p))), .int .i64 0]) ∧ Below w.heap.size w w' := by
  have ha : decide (1 ≤ (g : Int) ∧ (g : Int) ≤ 1099511627776) = true := by simp; omega
  have z1 : (str (hexN 16 g)).size = 16 := by rw [str_size, hexN_length]
  have z2 : (str (hexN 8 p.size)).size = 8 := by rw [str_size, hexN_length]
  have y1 := wrapU_small (g : Int) (by omega) (by omega)
  have y2 := wrapU_small (p.size : Int) (by omega) (by omega)
  go_enter Tryd.func18, Tryd.ntmps18
  go_wp2_with (go_at_call 37; refine (refAllowed_walk _ _).mono ?_; rintro e w' ⟨rfl, rfl⟩; rw [ha])
  refine (refHex_walk g 16 _ (by omega) (by decide)).mono ?_
  rintro e w1 ⟨rfl, hb1⟩
  go_wp2_with fail
  refine (refHex_walk p.size 8 _ (by omega) (by decide)).mono ?_
  rintro e w2 ⟨rfl, hb2⟩
  have hb := Lib.hid (below_seq hb1 hb2)
  clear hb1 hb2
  go_wp2_with fail
  have hst : str (hexN 16 g) ++ str (hexN 8 p.size) = str (bodyAcc g 0 (bs p)) := by rw [str_append, bodyAcc_zero, bs_length]
  rw [hst]
  clear z1 z2 hst
  go_loopw [6, 7] (fun v6 v7 wr => ∃ k : Nat, k ≤ p.size ∧ v7 = .int .i64 k ∧ v6 = .string (str (bodyAcc g k (bs p))) ∧ Hid (Below w.heap.size w wr)) (fun _ i _ => p.size - (RowKit.intOf i).toNat)
  case atStart => exact ⟨0, Nat.zero_le _, rfl, rfl, hb⟩
  case round =>
    clear hb
    obtain ⟨k, hk, rfl, rfl, hb⟩ := hrel
    by_cases hlt : k < p.size
    · have hb255 : ((p[k].toNat : Nat) : Int) < 256 := by have := UInt8.toNat_lt p[k]; omega
      have y3 := wrapU_small ((p[k].toNat : Nat) : Int) (by omega) (by omega)
      have z1 : (str (bodyAcc g k (bs p))).size = 24 + 2 * k := by rw [str_size, bodyAcc_length _ _ _ (by rw [bs_length]; omega)]
      have z2 : (str (hexN 2 p[k].toNat)).size = 2 := by rw [str_size, hexN_length]
      go_wp2_with fail
      refine (refHex_walk p[k].toNat 2 _ (by omega) (by decide)).mono ?_
      rintro e w3 ⟨rfl, hb3⟩
      go_wp2_with fail
      refine ⟨⟨k + 1, by omega, by simp, ?_, Lib.hid (below_seq hb.out hb3)⟩, by simp [RowKit.intOf]; omega⟩
      rw [str_append, bodyAcc_step g k (bs p) (by rw [bs_length]; exact hlt), bs_get p k hlt]
    · have hall := bodyAcc_all g k (bs p) (by rw [bs_length]; omega)
      have hsz : (bodyL g (bs p)).length ≤ 100000 := by rw [bodyL_length, bs_length]; omega
      rw [hall]
      have z1 : (str (bodyL g (bs p))).size ≤ 100000 := by rw [str_size]; exact hsz
      have z2 : (str (hexN 16 (fnv (bodyL g (bs p))))).size = 16 := by rw [str_size, hexN_length]
      have z3 : (str (stN 9 g)).size = 9 := by rw [str_size, stN_length]
      clear hall
      go_wp2_with fail
      refine (refSum_walk _ _ (by omega)).mono ?_
      rintro e w' ⟨rfl, rfl⟩
      rw [bs_str]
      go_wp2_with fail
      refine (refHex_walk (fnv (bodyL g (bs p))) 16 _ (fnv_lt _) (by decide)).mono ?_
      rintro e w3 ⟨rfl, hb3⟩
      have hb4 := below_seq hb.out hb3
      clear hb hb3
      go_wp2_with fail
      refine (refStamp_walk g _ (by omega)).mono ?_
      rintro e w5 ⟨rfl, hb5⟩
      have hbf := below_seq hb4 hb5
      go_wp2_with fail
      go_ret2
      refine ⟨?_, hbf⟩
      show Ending.returned (.tuple #[.string ((⟨#[82]⟩ : ByteArray) ++ str (hexN 16 (fnv (bodyL g (bs p)))) ++ str (bodyL g (bs p)) ++ str (stN 9 g)), .int .i64 0]) = _
      rw [show (⟨#[82]⟩ : ByteArray) = str [82] from rfl, str_append, str_append, str_append]
      rfl

set_option maxHeartbeats 400000 in
theorem refEncode_range (g : Int) (p : ByteArray) (w : World) (h : ¬ (1 ≤ g ∧ g ≤ 1099511627776)) :
    Calls Tryd.prog 18 #[.int .i64 g, .string p] w fun e w' => e = .returned (.tuple #[.string ⟨#[]⟩, .int .i64 2]) ∧ w = w' := by
  have ha : decide (1 ≤ g ∧ g ≤ 1099511627776) = false := by simp only [decide_eq_false_iff_not]; exact h
  clear h
  go_enter Tryd.func18, Tryd.ntmps18
  go_wp2_with (go_at_call 37; refine (refAllowed_walk _ _).mono ?_; rintro e w' ⟨rfl, rfl⟩; rw [ha])
  go_ret2
  exact ⟨rfl, rfl⟩
set_option maxHeartbeats 400000 in
theorem refEncode_large (g : Int) (p : ByteArray) (w : World) (h : 1 ≤ g ∧ g ≤ 1099511627776) (hp : 30000 < p.size) :
    Calls Tryd.prog 18 #[.int .i64 g, .string p] w fun e w' => e = .returned (.tuple #[.string ⟨#[]⟩, .int .i64 8]) ∧ w = w' := by
  have ha : decide (1 ≤ g ∧ g ≤ 1099511627776) = true := by simp only [decide_eq_true_eq]; exact h
  clear h
  go_enter Tryd.func18, Tryd.ntmps18
  go_wp2_with (go_at_call 37; refine (refAllowed_walk _ _).mono ?_; rintro e w' ⟨rfl, rfl⟩; rw [ha])
  go_ret2
  exact ⟨rfl, rfl⟩

/-! ### Decode -/

set_option maxHeartbeats 1000000 in
theorem refDecode_end (data : ByteArray) (k g : Nat) (w : World) (hg : 1 ≤ g ∧ g ≤ 1099511627776) (_hs : data.size ≤ 4611686018427387904) (hk : k = data.size) :
    Calls Tryd.prog 19 #[.string data, .int .i64 k, .int .i64 g] w fun e w' => e = .returned (.tuple #[.string ⟨#[]⟩, .int .i64 0, .int .i64 7]) ∧ w = w' := by
  have ha : decide (1 ≤ (g : Int) ∧ (g : Int) ≤ 1099511627776) = true := by simp; omega
  subst hk
  go_enter Tryd.func19, Tryd.ntmps19
  go_wp2_with (go_at_call 37; refine (refAllowed_walk _ _).mono ?_; rintro e w' ⟨rfl, rfl⟩; rw [ha])
  go_ret3
  exact ⟨rfl, rfl⟩

set_option maxHeartbeats 1000000 in
theorem refDecode_bad (data : ByteArray) (at_ g : Int) (w : World) (_hs : data.size ≤ 4611686018427387904) (hk : badAt data at_ g) :
    Calls Tryd.prog 19 #[.string data, .int .i64 at_, .int .i64 g] w fun e w' => e = .returned (.tuple #[.string ⟨#[]⟩, .int .i64 0, .int .i64 2]) ∧ w = w' := by
  by_cases hg : 1 ≤ g ∧ g ≤ 1099511627776
  · have ha : decide (1 ≤ g ∧ g ≤ 1099511627776) = true := by simp; omega
    by_cases hneg : at_ < 0
    · clear hk hg
      go_enter Tryd.func19, Tryd.ntmps19
      go_wp2_with (go_at_call 37; refine (refAllowed_walk _ _).mono ?_; rintro e w' ⟨rfl, rfl⟩; rw [ha])
      go_ret3
      exact ⟨rfl, rfl⟩
    · have hgt : (data.size : Int) < at_ := by
        rcases hk with h | h | h
        · exact absurd hg h
        · exact absurd h hneg
        · exact h
      clear hk hg
      go_enter Tryd.func19, Tryd.ntmps19
      go_wp2_with (go_at_call 37; refine (refAllowed_walk _ _).mono ?_; rintro e w' ⟨rfl, rfl⟩; rw [ha])
      go_ret3
      exact ⟨rfl, rfl⟩
  · have ha : decide (1 ≤ g ∧ g ≤ 1099511627776) = false := by simp only [decide_eq_false_iff_not]; exact hg
    clear hk hg
    go_enter Tryd.func19, Tryd.ntmps19
    go_wp2_with (go_at_call 37; refine (refAllowed_walk _ _).mono ?_; rintro e w' ⟨rfl, rfl⟩; rw [ha])
    go_ret3
    exact ⟨rfl, rfl⟩

theorem refNum_some {s : ByteArray} {m : Nat} (h : numI (bs s) = some (m : Int)) (hm : m < 4294967296) : refNum s = .tuple #[.int .i64 (m : Int), .bool true] := by
  unfold refNum
  rw [h]
  simp only
  rw [wrap64_small _ (by omega) (by omega)]
theorem refNum_none {s : ByteArray} (h : numI (bs s) = none) : refNum s = .tuple #[.int .i64 0, .bool false] := by
  unfold refNum
  rw [h]

/-- The payload as far as it has been read. -/
def payStr (d : List UInt8) (k : Nat) : List UInt8 := (List.range k).map (payV d)
theorem payStr_step (d : List UInt8) (k : Nat) : payStr d (k + 1) = payStr d k ++ [payV d k] := by simp [payStr, List.range_succ]
theorem payStr_length (d : List UInt8) (k : Nat) : (payStr d k).length = k := by simp [payStr]
theorem payStr_is {d : List UInt8} {g m : Nat} {p : List UInt8} (hn : numI ((d.drop 33).take 8) = some (m : Int)) (h : IsRec d g p) : payStr d m = p := by
  have := payAcc_is hn h
  rwa [payAcc_full] at this

set_option maxHeartbeats 4000000 in
set_option maxRecDepth 100000 in
theorem refDecode_at (data : ByteArray) (k g : Nat) (w : World) (hg : 1 ≤ g ∧ g ≤ 1099511627776) (hs : data.size ≤ 4611686018427387904) (hk : k < data.size) :
    Calls Tryd.prog 19 #[.string data, .int .i64 k, .int .i64 g] w fun e w' => e = .returned (decRes2 (decL ((bs data).drop k) g)) ∧ Below w.heap.size w w' := by
  have ha : decide (1 ≤ (g : Int) ∧ (g : Int) ≤ 1099511627776) = true := by simp; omega
  have hx : bs (data.extract k data.size) = (bs data).drop k := by
    rw [bs_extract, ← bs_length, List.take_length]
  obtain ⟨s, hsl⟩ : ∃ s, data.extract k data.size = s := ⟨_, rfl⟩
  have hz : s.size + k = data.size := by rw [← hsl, size_mid _ _ _ (Nat.le_refl _)]; omega
  rw [hsl] at hx
  have hle : s.size ≤ 4611686018427387904 := by omega
  rw [← hx]
  clear hx hz
  by_cases hshort : s.size < 41
  · have hd : decL (bs s) g = none := decL_none.2 fun p hp => by
      have := hp.len
      rw [bs_length] at this
      omega
    have HD := Lib.hid hd
    clear hd
    go_enter Tryd.func19, Tryd.ntmps19
    go_wp2_with (go_at_call 37; refine (refAllowed_walk _ _).mono ?_; rintro e w' ⟨rfl, rfl⟩; rw [ha])
    go_ret3
    exact ⟨by rw [HD.out]; rfl, Below.refl _ _⟩
  cases hn : numI (bs (s.extract 33 41)) with
  | none =>
    have hd : decL (bs s) g = none := decL_none.2 fun p hp => by
      have := hp.sizeNum
      rw [bs_mid] at hn
      rw [hn] at this
      cases this
    have HD := Lib.hid hd
    have HN := Lib.hid (refNum_none hn)
    clear hd hn
    go_enter Tryd.func19, Tryd.ntmps19
    go_wp2_with (go_at_call 37; refine (refAllowed_walk _ _).mono ?_; rintro e w' ⟨rfl, rfl⟩; rw [ha])
    refine (refNumber_walk _ _ (by rw [size_mid _ _ _ (by omega)]; decide)).mono ?_
    rintro e w' ⟨rfl, rfl⟩
    rw [HN.out]
    go_wp2_with fail
    go_ret3
    exact ⟨by rw [HD.out]; rfl, Below.refl _ _⟩
  | some n =>
    have hr := numI_lt _ n 8 4294967296 (by rw [size_mid _ _ _ (by omega)]; decide) (by decide) hn
    obtain ⟨m, rfl⟩ := Int.eq_ofNat_of_zero_le hr.1
    have hm32 : m < 4294967296 := by omega
    have hNum := hn
    rw [bs_mid] at hNum
    have hno : ¬ (m ≤ 30000 ∧ 50 + 2 * m ≤ s.size) → decL (bs s) g = none := fun hx => decL_none.2 fun p hp => by
      have h3 := hp.sizeNum
      rw [hNum] at h3
      simp only [Option.some.injEq] at h3
      have h4 := hp.len
      have h5 := hp.1
      rw [bs_length] at h4
      omega
    have HN := Lib.hid (refNum_some hn hm32)
    have HNum := Lib.hid hNum
    clear hn hNum
    by_cases hbig : m ≤ 30000 ∧ 50 + 2 * m ≤ s.size
    · clear hno
      obtain ⟨hb1, hb2⟩ := hbig
      go_enter Tryd.func19, Tryd.ntmps19
      go_wp2_with (go_at_call 37; refine (refAllowed_walk _ _).mono ?_; rintro e w' ⟨rfl, rfl⟩; rw [ha])
      refine (refNumber_walk _ _ (by rw [size_mid _ _ _ (by omega)]; decide)).mono ?_
      rintro e w' ⟨rfl, rfl⟩
      rw [HN.out]
      go_wp2_with fail
      rw [show (⟨#[]⟩ : ByteArray) = str (payStr (bs s) 0) from rfl]
      go_loopw [12, 13] (fun v12 v13 wr => ∃ j : Nat, j ≤ m ∧ v13 = .int .i64 j ∧ v12 = .string (str (payStr (bs s) j)) ∧ Hid (∀ i, i < j → (numI (pairL (bs s) i)).isSome = true) ∧ Hid (Below w.heap.size w wr)) (fun _ i _ => m - (RowKit.intOf i).toNat)
      case atStart => exact ⟨0, Nat.zero_le _, rfl, rfl, Lib.hid (fun i hi => absurd hi (Nat.not_lt_zero _)), Lib.hid (Below.refl _ _)⟩
      case round =>
        obtain ⟨j, hj, rfl, rfl, hall, hb⟩ := hrel
        by_cases hlt : j < m
        · have hpair : bs (s.extract (41 + 2 * j) (43 + 2 * j)) = pairL (bs s) j := by
            rw [bs_mid, show 43 + 2 * j - (41 + 2 * j) = 2 from by omega]; rfl
          have hP := Lib.hid hpair
          cases hv : numI (pairL (bs s) j) with
          | none =>
            have hd : decL (bs s) g = none := decL_none.2 fun p hp => by
              have h3 := hp.sizeNum
              rw [HNum.out] at h3
              simp only [Option.some.injEq] at h3
              have h5 := hp.pairNum j (by omega)
              unfold pairL at hv
              rw [hv] at h5
              cases h5
            have HD := Lib.hid hd
            have HV := Lib.hid (refNum_none (s := s.extract (41 + 2 * j) (43 + 2 * j)) (by rw [hP.out]; exact hv))
            clear hd hv hpair
            go_wp2_with fail
            refine (refNumber_walk _ _ (by rw [size_mid _ _ _ (by omega)]; omega)).mono ?_
            rintro e w' ⟨rfl, rfl⟩
            rw [HV.out]
            go_wp2_with fail
            go_ret3
            exact ⟨by rw [HD.out]; rfl, hb.out⟩
          | some v =>
            have hv2 := numI_range _ _ hv
            have hvl : (pairL (bs s) j).length ≤ 2 := by unfold pairL; exact List.length_take_le _ _
            have h16 : 16 ^ (pairL (bs s) j).length ≤ 16 ^ 2 := Nat.pow_le_pow_right (by decide) hvl
            obtain ⟨u, rfl⟩ := Int.eq_ofNat_of_zero_le hv2.1
            have hu : u < 256 := by omega
            have hvu : payV (bs s) j = u.toUInt8 := by simp [payV, hv]
            have HV := Lib.hid (refNum_some (s := s.extract (41 + 2 * j) (43 + 2 * j)) (m := u) (by rw [hP.out]; exact hv) (by omega))
            have HI := Lib.hid (show (numI (pairL (bs s) j)).isSome = true from by rw [hv]; rfl)
            have HU := Lib.hid hvu
            have hcv : ∀ W : World, (convert 33 9 (.slice (some ⟨W.heap.size, 0, none⟩) 1 1)).run Tryd.prog (W.alloc (.cells #[.int .u8 (u : Int)] 5)) = .ok (.string (str [u.toUInt8])) (W.alloc (.cells #[.int .u8 (u : Int)] 5)) := fun W => one_byte W (u : Int) (by omega) (by omega)
            have hz1 : ∀ b : UInt8, (str [b]).size = 1 := fun b => str_size _
            have hz2 : (str (payStr (bs s) j)).size = j := by rw [str_size, payStr_length]
            clear hv hv2 hvl hvu hpair h16
            go_wp2_with fail
            refine (refNumber_walk _ _ (by rw [size_mid _ _ _ (by omega)]; omega)).mono ?_
            rintro e w' ⟨rfl, rfl⟩
            rw [HV.out]
            go_wp2_with fail
            refine ⟨⟨j + 1, by omega, by simp, ?_, Lib.hid (fun i hi => ?_), Lib.hid (hb.out.alloc hb.out.size _)⟩, by simp [RowKit.intOf]; omega⟩
            · rw [str_append, payStr_step, HU.out]
            · by_cases hij : i = j
              · rw [hij]; exact HI.out
              · exact hall.out i (by omega)
        · have hjm : j = m := by omega
          rw [hjm] at hall ⊢
          have hlen : (payStr (bs s) m).length = m := payStr_length _ _
          have hLen := Lib.hid hlen
          clear hj hlt hlen hjm
          go_wp2_with fail
          refine (refEncode_walk g (str (payStr (bs s) m)) _ hg.1 hg.2 (by rw [str_size, hLen.out]; exact hb1)).mono ?_
          rintro e w3 ⟨rfl, hb3⟩
          rw [bs_str]
          have hb4 := below_seq hb.out hb3
          clear hb hb3
          by_cases hpre : recL g (payStr (bs s) m) <+: bs s
          · have hx : ((s.extract 0 (50 + 2 * m)).toList == (str (recL g (payStr (bs s) m))).toList) = true := by
              rw [beq_iff_eq, toList_bs, toList_bs, bs_str, bs_extract, List.drop_zero]
              have h := List.prefix_iff_eq_take.1 hpre
              rw [recL_length, hLen.out] at h
              exact h.symm
            have HD := Lib.hid (decL_some.2 (⟨by rw [hLen.out]; exact hb1, hpre⟩ : IsRec (bs s) g (payStr (bs s) m)))
            clear hpre
            go_wp2_with fail
            go_ret3
            refine ⟨?_, hb4⟩
            rw [HD.out]
            show Ending.returned (.tuple #[.string (str (payStr (bs s) m)), .int .i64 (50 + 2 * (m : Int)), .int .i64 0]) = _
            simp only [decRes2]
            rw [hLen.out]
            rfl
          · have hx : ((s.extract 0 (50 + 2 * m)).toList == (str (recL g (payStr (bs s) m))).toList) = false := by
              rw [beq_eq_false_iff_ne, toList_bs, toList_bs, bs_str, bs_extract, List.drop_zero]
              intro h
              exact hpre (by rw [← h]; exact List.take_prefix _ _)
            have HD := Lib.hid (decL_none.2 fun p (hp : IsRec (bs s) g p) => hpre (by rw [payStr_is HNum.out hp]; exact hp.2))
            clear hpre
            go_wp2_with fail
            go_ret3
            exact ⟨by rw [HD.out]; rfl, hb4⟩
    · have HD := Lib.hid (hno hbig)
      clear hno
      by_cases hm : m ≤ 30000
      · have hsz : s.size < 50 + 2 * m := by omega
        clear hbig
        go_enter Tryd.func19, Tryd.ntmps19
        go_wp2_with (go_at_call 37; refine (refAllowed_walk _ _).mono ?_; rintro e w' ⟨rfl, rfl⟩; rw [ha])
        refine (refNumber_walk _ _ (by rw [size_mid _ _ _ (by omega)]; decide)).mono ?_
        rintro e w' ⟨rfl, rfl⟩
        rw [HN.out]
        go_wp2_with fail
        go_ret3
        exact ⟨by rw [HD.out]; rfl, Below.refl _ _⟩
      · clear hbig
        go_enter Tryd.func19, Tryd.ntmps19
        go_wp2_with (go_at_call 37; refine (refAllowed_walk _ _).mono ?_; rintro e w' ⟨rfl, rfl⟩; rw [ha])
        refine (refNumber_walk _ _ (by rw [size_mid _ _ _ (by omega)]; decide)).mono ?_
        rintro e w' ⟨rfl, rfl⟩
        rw [HN.out]
        go_wp2_with fail
        go_ret3
        exact ⟨by rw [HD.out]; rfl, Below.refl _ _⟩

end Go.Proofs.YtcbapogicjhkjaaDoor
