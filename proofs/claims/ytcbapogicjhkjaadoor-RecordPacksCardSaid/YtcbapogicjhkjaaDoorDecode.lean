/- decode, Decode, Walk and Generation of package record. -/
import Derived.Test.YtcbapogicjhkjaaDoorSpec
namespace Go.Proofs.YtcbapogicjhkjaaDoor
open Go.RowKit Go.Lib

/-- What decode returns. -/
def decRes : Option (List UInt8) → Value
  | some p => .tuple #[.string (str p), .int .i64 ((50 + 2 * p.length : Nat) : Int), .bool true]
  | none => .tuple #[.string ⟨#[]⟩, .int .i64 0, .bool false]

theorem bs_mid (s : ByteArray) (i j : Nat) : bs (s.extract i j) = ((bs s).drop i).take (j - i) := by
  rw [bs_extract, List.drop_take]
theorem size_mid (s : ByteArray) (i j : Nat) (h : j ≤ s.size) : (s.extract i j).size = j - i := by
  rw [← bs_length, bs_mid, List.length_take, List.length_drop, bs_length]; omega

def pairL (d : List UInt8) (i : Nat) : List UInt8 := (d.drop (41 + 2 * i)).take 2
/-- The byte that two digits are. -/
def payV (d : List UInt8) (i : Nat) : UInt8 := ((numI (pairL d i)).getD 0).toNat.toUInt8
def payAcc (d : List UInt8) (m k : Nat) : List UInt8 := (List.range k).map (payV d) ++ List.replicate (m - k) 0
theorem payAcc_length (d : List UInt8) (m k : Nat) (h : k ≤ m) : (payAcc d m k).length = m := by simp [payAcc]; omega
theorem payAcc_step (d : List UInt8) (m k : Nat) (h : k < m) : (payAcc d m k).set k (payV d k) = payAcc d m (k + 1) := by
  unfold payAcc
  have e : m - k = (m - (k + 1)) + 1 := by omega
  rw [e, List.replicate_succ, List.set_append_right _ _ (by simp), List.range_succ]
  simp [List.append_assoc]

theorem payAcc_full (d : List UInt8) (m : Nat) : payAcc d m m = (List.range m).map (payV d) := by simp [payAcc]
theorem payAcc_is {d : List UInt8} {g m : Nat} {p : List UInt8} (hn : numI ((d.drop 33).take 8) = some (m : Int)) (h : IsRec d g p) : payAcc d m m = p := by
  have h3 := h.sizeNum
  rw [hn] at h3
  simp only [Option.some.injEq] at h3
  have hl : p.length = m := by omega
  rw [payAcc_full]
  refine List.ext_getElem (by simp [hl]) fun i h4 h5 => ?_
  have h7 := h.pairNum i h5
  rw [List.getElem_map, List.getElem_range]
  simp [payV, pairL, h7]
theorem prefix_of_has {s p : List UInt8} : Lib.hasPrefix s p = true ↔ p <+: s := List.isPrefixOf_iff_prefix

set_option maxHeartbeats 2000000 in
set_option maxRecDepth 100000 in
theorem decode_walk (data : ByteArray) (g : Nat) (w : World) (h1 : 1 ≤ g) (h2 : g ≤ 1099511627776) (hs : data.size ≤ 4611686018427387904) :
    Calls Tryd.prog 30 #[.string data, .int .i64 g] w fun e w' => e = .returned (decRes (decL (bs data) g)) ∧ Below w.heap.size w w' := by
  by_cases hshort : data.size < 50
  · have hd : decL (bs data) g = none := decL_none.2 fun p hp => by
      have := hp.len
      rw [bs_length] at this
      omega
    have HD := Lib.hid hd
    clear hd
    go_enter Tryd.func30, Tryd.ntmps30
    go_wp2_with fail
    go_ret3
    exact ⟨by rw [HD.out]; rfl, Below.refl _ _⟩
  cases hn : numI (bs (data.extract 33 41)) with
  | none =>
    have hd : decL (bs data) g = none := decL_none.2 fun p hp => by
      have := hp.sizeNum
      rw [bs_mid] at hn
      rw [hn] at this
      cases this
    have HD := Lib.hid hd
    have HN := Lib.hid hn
    clear hd hn
    go_enter Tryd.func30, Tryd.ntmps30
    go_wp2_with fail
    refine (number_int_walk _ _ (by rw [size_mid _ _ _ (by omega)]; decide)).mono ?_
    rintro e w1 ⟨rfl, n1, rfl⟩
    rw [HN.out]
    go_wp2_with fail
    go_ret3
    exact ⟨by rw [HD.out]; rfl, below_of_drewN _⟩
  | some n =>
    have hr := numI_lt _ n 8 4294967296 (by rw [size_mid _ _ _ (by omega)]; decide) (by decide) hn
    obtain ⟨m, rfl⟩ := Int.eq_ofNat_of_zero_le hr.1
    have hno : ¬ (m ≤ 30000 ∧ 50 + 2 * m ≤ data.size) → decL (bs data) g = none := fun hx => decL_none.2 fun p hp => by
      have h3 := hp.sizeNum
      rw [bs_mid] at hn
      rw [hn] at h3
      simp only [Option.some.injEq] at h3
      have h4 := hp.len
      have h5 := hp.1
      rw [bs_length] at h4
      omega
    have HN := Lib.hid hn
    clear hn
    by_cases hbig : m ≤ 30000 ∧ 50 + 2 * m ≤ data.size
    · clear hno
      obtain ⟨hb1, hb2⟩ := hbig
      have hmk := fun W => run_make_row' (P := Tryd.prog) 33 5 (.int .u8 0) 1 Tryd.underlying33 infoByte rfl .i64 .i64 m (by omega) (by omega) W
      go_enter Tryd.func30, Tryd.ntmps30
      go_wp2_with fail
      refine (number_int_walk _ _ (by rw [size_mid _ _ _ (by omega)]; decide)).mono ?_
      rintro e w1 ⟨rfl, n1, rfl⟩
      rw [HN.out]
      go_wp2_with fail
      clear hmk
      have hB1 : BytesAt 5 ((w.drewN n1).alloc (.cells (madeCells #[Value.int .u8 0] m) 5)) w.heap.size (payAcc (bs data) m 0) := by
        have := BytesAt.made (T := 5) (w.drewN n1) m
        simpa [payAcc] using this
      have hB0 := Lib.hid hB1
      have hb0 : Hid (Below w.heap.size w ((w.drewN n1).alloc (.cells (madeCells #[Value.int .u8 0] m) 5))) := Lib.hid ((below_of_drewN n1).alloc (Nat.le_refl _) _)
      clear hB1
      go_loopw [8, 41] (fun v8 v41 wr => ∃ k : Nat, k ≤ m ∧ v41 = .int .i64 k ∧ v8 = .bool true ∧ Hid (∀ i, i < k → (numI (pairL (bs data) i)).isSome = true) ∧ Hid (BytesAt 5 wr w.heap.size (payAcc (bs data) m k)) ∧ Hid (Below w.heap.size w wr)) (fun _ i _ => m - (RowKit.intOf i).toNat)
      case atStart => exact ⟨0, Nat.zero_le _, rfl, rfl, Lib.hid (fun i hi => absurd hi (Nat.not_lt_zero _)), hB0, hb0⟩
      case round =>
        clear hB0 hb0
        obtain ⟨k, hk, rfl, rfl, hall, hB, hb⟩ := hrel
        by_cases hlt : k < m
        · have hpair : bs (data.extract (41 + 2 * k) (41 + 2 * k + 2)) = pairL (bs data) k := by
            rw [bs_mid, show 41 + 2 * k + 2 - (41 + 2 * k) = 2 from by omega]; rfl
          have hP := Lib.hid hpair
          clear hpair
          have hc := hB.out.cell k (by rw [payAcc_length _ _ _ hk]; exact hlt)
          have hf := hB.out.free k
          cases hv : numI (pairL (bs data) k) with
          | none =>
            have hd : decL (bs data) g = none := decL_none.2 fun p hp => by
              have h3 := hp.sizeNum
              have h6 := HN.out
              rw [bs_mid] at h6
              rw [h6] at h3
              simp only [Option.some.injEq] at h3
              have h5 := hp.pairNum k (by omega)
              unfold pairL at hv
              rw [hv] at h5
              cases h5
            have HD := Lib.hid hd
            have HV := Lib.hid hv
            clear hd hv
            go_wp2_with fail
            refine (number_byte_walk _ _ (by rw [size_mid _ _ _ (by omega)]; omega)).mono ?_
            rintro e w2 ⟨rfl, n2, rfl⟩
            rw [hP.out, HV.out]
            go_wp2_with fail
            go_ret3
            exact ⟨by rw [HD.out]; rfl, (below_drewN' hb.out n2).setCell (Nat.le_refl _) _⟩
          | some v =>
            have hv2 := numI_range _ _ hv
            have hvl : (pairL (bs data) k).length ≤ 2 := by unfold pairL; exact List.length_take_le _ _
            have hv3 : 0 ≤ v ∧ v < 256 := by
              have h16 : 16 ^ (pairL (bs data) k).length ≤ 16 ^ 2 := Nat.pow_le_pow_right (by decide) hvl
              omega
            have hvu : ((payV (bs data) k).toNat : Int) = v := by
              simp [payV, hv]; omega
            have HV := Lib.hid hv
            have HU := Lib.hid hvu
            clear hv hv2 hvl hvu
            go_wp2_with fail
            refine (number_byte_walk _ _ (by rw [size_mid _ _ _ (by omega)]; omega)).mono ?_
            rintro e w2 ⟨rfl, n2, rfl⟩
            rw [hP.out, HV.out]
            go_wp2_with fail
            have h1 := (hB.out.drewN n2).set k (payV (bs data) k)
            rw [payAcc_step _ _ _ hlt, HU.out] at h1
            refine ⟨⟨k + 1, by omega, by simp, rfl, Lib.hid (fun i hi => ?_), Lib.hid h1, Lib.hid ((below_drewN' hb.out n2).setCell (Nat.le_refl _) _)⟩, by simp [RowKit.intOf]; omega⟩
            by_cases hik : i = k
            · rw [hik, HV.out]; rfl
            · exact hall.out i (by omega)
        · have hkm : k = m := by omega
          rw [hkm] at hall hB
          clear hk hlt
          have hlen : (payAcc (bs data) m m).length = m := payAcc_length _ _ _ (Nat.le_refl _)
          have hstr := hB.out.str (P := Tryd.prog) 33 9 m Tryd.underlying33 Tryd.underlying5 Tryd.underlying9 m hlen.symm
          have hLen := Lib.hid hlen
          clear hlen
          go_wp2_with fail
          clear hstr
          refine (encode_walk g (str (payAcc (bs data) m m)) _ h1 h2 (by rw [str_size, hLen.out]; exact hb1)).mono ?_
          rintro e w3 ⟨rfl, hb3⟩
          rw [bs_str]
          have hb4 := below_seq hb.out hb3
          have hB3 := hB.out.below hb3 hB.out.lt
          clear hb hB hb3
          have hstr := hB3.str (P := Tryd.prog) 33 9 m Tryd.underlying33 Tryd.underlying5 Tryd.underlying9 m hLen.out.symm
          have hNum := HN.out
          rw [bs_mid] at hNum
          cases hpre : Lib.hasPrefix data.data.toList (str (recL g (payAcc (bs data) m m))).data.toList with
          | true =>
            have hd : decL (bs data) g = some (payAcc (bs data) m m) := decL_some.2 ⟨by rw [hLen.out]; exact hb1, by
              have := prefix_of_has.1 hpre
              rwa [show (str (recL g (payAcc (bs data) m m))).data.toList = recL g (payAcc (bs data) m m) from bs_str _] at this⟩
            have HD := Lib.hid hd
            have HP := Lib.hid hpre
            clear hd hpre hNum
            go_wp2_with fail
            refine (Tryd.strings_HasPrefix _ _ _).mono ?_
            rintro e w' ⟨rfl, rfl⟩
            rw [HP.out]
            go_wp2_with fail
            go_ret3
            refine ⟨?_, hb4⟩
            rw [HD.out]
            show Ending.returned (.tuple #[.string (str (payAcc (bs data) m m)), .int .i64 ((str (recL g (payAcc (bs data) m m))).size : Int), .bool true]) = _
            rw [str_size, recL_length]
            rfl
          | false =>
            have hd : decL (bs data) g = none := decL_none.2 fun p hp => by
              have h8 := payAcc_is hNum hp
              rw [h8] at hpre
              have := prefix_of_has.2 hp.2
              rw [show (str (recL g p)).data.toList = recL g p from bs_str _] at hpre
              rw [show data.data.toList = bs data from rfl, this] at hpre
              cases hpre
            have HD := Lib.hid hd
            have HP := Lib.hid hpre
            clear hd hpre hNum
            go_wp2_with fail
            refine (Tryd.strings_HasPrefix _ _ _).mono ?_
            rintro e w' ⟨rfl, rfl⟩
            rw [HP.out]
            go_wp2_with fail
            go_ret3
            exact ⟨by rw [HD.out]; rfl, hb4⟩
    · have HD := Lib.hid (hno hbig)
      clear hno
      by_cases hm : m ≤ 30000
      · have hsz : data.size < 50 + 2 * m := by omega
        clear hbig
        go_enter Tryd.func30, Tryd.ntmps30
        go_wp2_with fail
        refine (number_int_walk _ _ (by rw [size_mid _ _ _ (by omega)]; decide)).mono ?_
        rintro e w1 ⟨rfl, n1, rfl⟩
        rw [HN.out]
        go_wp2_with fail
        go_ret3
        exact ⟨by rw [HD.out]; rfl, below_of_drewN _⟩
      · clear hbig
        go_enter Tryd.func30, Tryd.ntmps30
        go_wp2_with fail
        refine (number_int_walk _ _ (by rw [size_mid _ _ _ (by omega)]; decide)).mono ?_
        rintro e w1 ⟨rfl, n1, rfl⟩
        rw [HN.out]
        go_wp2_with fail
        go_ret3
        exact ⟨by rw [HD.out]; rfl, below_of_drewN _⟩

end Go.Proofs.YtcbapogicjhkjaaDoor
