/- number of package record at its three types: the value of some hexadecimal digits, if all are digits. -/
import Derived.Test.YtcbapogicjhkjaaDoorRecA
import Derived.Test.YtcbapogicjhkjaaDoorBase
namespace Go.Proofs.YtcbapogicjhkjaaDoor
open Go.RowKit Go.Lib

/-- The value of digits, most significant first, if all are hexadecimal. -/
def numStep (acc : Option Int) (c : UInt8) : Option Int := acc.bind fun v => (hexVal (c.toNat : Int)).map fun d => 16 * v + d
def numI (l : List UInt8) : Option Int := l.foldl numStep (some 0)

theorem numI_snoc (l : List UInt8) (c : UInt8) : numI (l ++ [c]) = (numI l).bind fun v => (hexVal (c.toNat : Int)).map fun d => 16 * v + d := by
  simp [numI, numStep, List.foldl_append]

theorem numI_range (l : List UInt8) : ∀ v, numI l = some v → 0 ≤ v ∧ v < ((16 ^ l.length : Nat) : Int) := by
  refine snoc_ind (P := fun l => ∀ v, numI l = some v → 0 ≤ v ∧ v < ((16 ^ l.length : Nat) : Int)) ?_ ?_ l
  · intro v h; simp [numI] at h; subst h; simp
  · intro l c ih v h
    rw [numI_snoc] at h
    cases hl : numI l with
    | none => rw [hl] at h; cases h
    | some u =>
      rw [hl] at h
      simp only [Option.bind_some] at h
      cases hc : hexVal (c.toNat : Int) with
      | none => rw [hc] at h; cases h
      | some d =>
        rw [hc] at h
        simp only [Option.map_some, Option.some.injEq] at h
        have := ih u hl
        have := hexVal_range _ _ hc
        simp only [List.length_append, List.length_singleton, Nat.pow_succ]
        omega

theorem numI_prefix (l m : List UInt8) (h : numI l = none) : numI (l ++ m) = none := by
  refine snoc_ind (P := fun m => numI (l ++ m) = none) ?_ ?_ m
  · simpa using h
  · intro m c ih
    rw [← List.append_assoc, numI_snoc, ih]; rfl

theorem or_digit (v d : Int) (h0 : 0 ≤ v) (h1 : v < 1152921504606846976) (hd : 0 ≤ d ∧ d < 16) : bits .or .u64 (IntKind.u64.wrap (v * 16)) d = 16 * v + d := by
  have hw : IntKind.u64.wrap (v * 16) = v * 16 := by
    simp [IntKind.wrap, IntKind.bits, IntKind.signed]; omega
  rw [hw, u64_or _ _ (by omega) (by omega) (by omega) (by omega), nat_join 4 _ _ (by omega) (by omega)]
  omega

theorem numI_step (s : ByteArray) (k : Nat) (v d : Int) (hlt : k < s.size) (hv : numI ((bs s).take k) = some v) (hd : hexVal ((s[k].toNat : Nat) : Int) = some d) : numI ((bs s).take (k + 1)) = some (16 * v + d) := by
  rw [take_snoc' _ _ (by rw [bs_length]; exact hlt), numI_snoc, hv, bs_get s k hlt]
  simp [hd]

theorem numI_stop (s : ByteArray) (k : Nat) (v : Int) (hlt : k < s.size) (hv : numI ((bs s).take k) = some v) (hd : hexVal ((s[k].toNat : Nat) : Int) = none) : numI (bs s) = none := by
  have h1 : numI ((bs s).take (k + 1)) = none := by
    rw [take_snoc' _ _ (by rw [bs_length]; exact hlt), numI_snoc, hv, bs_get s k hlt]
    simp [hd]
  have h2 := numI_prefix _ ((bs s).drop (k + 1)) h1
  rwa [List.take_append_drop] at h2

theorem numI_bound (s : ByteArray) (k : Nat) (v : Int) (hlt : k < s.size) (hs : s.size ≤ 16) (hv : numI ((bs s).take k) = some v) : 0 ≤ v ∧ v < 1152921504606846976 := by
  have h := numI_range _ _ hv
  have h2 : 16 ^ ((bs s).take k).length ≤ 16 ^ 15 := by
    refine Nat.pow_le_pow_right (by decide) ?_
    rw [List.length_take, bs_length]; omega
  have h3 : 16 ^ 15 = 1152921504606846976 := by decide
  omega

theorem numI_all (s : ByteArray) (k : Nat) (v : Int) (hlt : k = s.size) (hv : numI ((bs s).take k) = some v) : numI (bs s) = some v := by
  rwa [List.take_of_length_le (by rw [bs_length]; omega)] at hv

theorem numI_lt (s : ByteArray) (v : Int) (m n : Nat) (hs : s.size ≤ m) (hm : 16 ^ m = n) (hv : numI (bs s) = some v) : 0 ≤ v ∧ v < (n : Int) := by
  have h := numI_range _ _ hv
  have h2 : 16 ^ (bs s).length ≤ 16 ^ m := by
    refine Nat.pow_le_pow_right (by decide) ?_
    rw [bs_length]; omega
  omega

set_option maxHeartbeats 1000000 in
theorem number_u64_walk (s : ByteArray) (w : World) (hs : s.size ≤ 16) :
    Calls Tryd.prog 41 #[.string s] w fun e w' => e = .returned (.tuple #[.int .u64 ((numI (bs s)).getD 0), .bool (numI (bs s)).isSome]) ∧ ∃ n, w' = w.drewN n := by
  go_enter Tryd.func41, Tryd.ntmps41
  go_wp2
  go_loopw [4, 10] (fun v4 v10 wr => ∃ (k : Nat) (v : Int), k ≤ s.size ∧ v10 = .int .i64 k ∧ v4 = .int .u64 v ∧ Hid (numI ((bs s).take k) = some v) ∧ Hid (∃ n, wr = w.drewN n)) (fun _ i _ => s.size - (RowKit.intOf i).toNat)
  case atStart => exact ⟨0, 0, Nat.zero_le _, rfl, rfl, Lib.hid rfl, Lib.hid ⟨0, rfl⟩⟩
  case round =>
    obtain ⟨k, v, hk, rfl, rfl, hv, hw⟩ := hrel
    by_cases hlt : k < s.size
    · have hb : ((s[k].toNat : Nat) : Int) < 256 := by have := UInt8.toNat_lt s[k]; omega
      have hb0 : (0 : Int) ≤ ((s[k].toNat : Nat) : Int) := Int.natCast_nonneg _
      cases hd : hexVal ((s[k].toNat : Int)) with
      | none =>
        have HD := Lib.hid hd
        clear hd
        go_wp2_with (go_at_call 53; refine (digit_none _ _ hb0 hb HD.out).mono ?_; rintro e w' ⟨rfl, n, rfl⟩)
        go_ret2
        obtain ⟨m, rfl⟩ := hw.out
        exact ⟨by rw [numI_stop s k v hlt hv.out HD.out]; rfl, m + n, by rw [World.drewN_drewN]⟩
      | some d =>
        have hr := hexVal_range _ _ hd
        have HD := Lib.hid hd
        clear hd
        go_wp2_with (go_at_call 53; refine (digit_some _ _ _ HD.out).mono ?_; rintro e w' ⟨rfl, rfl⟩)
        have hb := numI_bound s k v hlt hs hv.out
        exact ⟨⟨k + 1, 16 * v + d, by omega, by simp, by rw [or_digit v d hb.1 hb.2 hr], Lib.hid (numI_step s k v d hlt hv.out HD.out), hw⟩, by simp [RowKit.intOf]; omega⟩
    · have hk2 : k = s.size := by omega
      go_wp2
      go_ret2
      exact ⟨by rw [numI_all s k v hk2 hv.out]; rfl, hw.out⟩

set_option maxHeartbeats 1000000 in
theorem number_int_walk (s : ByteArray) (w : World) (hs : s.size ≤ 8) :
    Calls Tryd.prog 50 #[.string s] w fun e w' => e = .returned (.tuple #[.int .i64 ((numI (bs s)).getD 0), .bool (numI (bs s)).isSome]) ∧ ∃ n, w' = w.drewN n := by
  go_enter Tryd.func50, Tryd.ntmps50
  go_wp2
  go_loopw [4, 10] (fun v4 v10 wr => ∃ (k : Nat) (v : Int), k ≤ s.size ∧ v10 = .int .i64 k ∧ v4 = .int .u64 v ∧ Hid (numI ((bs s).take k) = some v) ∧ Hid (∃ n, wr = w.drewN n)) (fun _ i _ => s.size - (RowKit.intOf i).toNat)
  case atStart => exact ⟨0, 0, Nat.zero_le _, rfl, rfl, Lib.hid rfl, Lib.hid ⟨0, rfl⟩⟩
  case round =>
    obtain ⟨k, v, hk, rfl, rfl, hv, hw⟩ := hrel
    by_cases hlt : k < s.size
    · have hb : ((s[k].toNat : Nat) : Int) < 256 := by have := UInt8.toNat_lt s[k]; omega
      have hb0 : (0 : Int) ≤ ((s[k].toNat : Nat) : Int) := Int.natCast_nonneg _
      cases hd : hexVal ((s[k].toNat : Int)) with
      | none =>
        have HD := Lib.hid hd
        clear hd
        go_wp2_with (go_at_call 53; refine (digit_none _ _ hb0 hb HD.out).mono ?_; rintro e w' ⟨rfl, n, rfl⟩)
        go_ret2
        obtain ⟨m, rfl⟩ := hw.out
        exact ⟨by rw [numI_stop s k v hlt hv.out HD.out]; rfl, m + n, by rw [World.drewN_drewN]⟩
      | some d =>
        have hr := hexVal_range _ _ hd
        have HD := Lib.hid hd
        clear hd
        go_wp2_with (go_at_call 53; refine (digit_some _ _ _ HD.out).mono ?_; rintro e w' ⟨rfl, rfl⟩)
        have hb := numI_bound s k v hlt (by omega) hv.out
        exact ⟨⟨k + 1, 16 * v + d, by omega, by simp, by rw [or_digit v d hb.1 hb.2 hr], Lib.hid (numI_step s k v d hlt hv.out HD.out), hw⟩, by simp [RowKit.intOf]; omega⟩
    · have hk2 : k = s.size := by omega
      obtain ⟨hb0, hb1⟩ := numI_lt s v 8 4294967296 hs (by decide) (numI_all s k v hk2 hv.out)
      go_wp2
      go_ret2
      exact ⟨by rw [numI_all s k v hk2 hv.out]; simp; try omega, hw.out⟩

set_option maxHeartbeats 1000000 in
theorem number_byte_walk (s : ByteArray) (w : World) (hs : s.size ≤ 2) :
    Calls Tryd.prog 51 #[.string s] w fun e w' => e = .returned (.tuple #[.int .u8 ((numI (bs s)).getD 0), .bool (numI (bs s)).isSome]) ∧ ∃ n, w' = w.drewN n := by
  go_enter Tryd.func51, Tryd.ntmps51
  go_wp2
  go_loopw [4, 10] (fun v4 v10 wr => ∃ (k : Nat) (v : Int), k ≤ s.size ∧ v10 = .int .i64 k ∧ v4 = .int .u64 v ∧ Hid (numI ((bs s).take k) = some v) ∧ Hid (∃ n, wr = w.drewN n)) (fun _ i _ => s.size - (RowKit.intOf i).toNat)
  case atStart => exact ⟨0, 0, Nat.zero_le _, rfl, rfl, Lib.hid rfl, Lib.hid ⟨0, rfl⟩⟩
  case round =>
    obtain ⟨k, v, hk, rfl, rfl, hv, hw⟩ := hrel
    by_cases hlt : k < s.size
    · have hb : ((s[k].toNat : Nat) : Int) < 256 := by have := UInt8.toNat_lt s[k]; omega
      have hb0 : (0 : Int) ≤ ((s[k].toNat : Nat) : Int) := Int.natCast_nonneg _
      cases hd : hexVal ((s[k].toNat : Int)) with
      | none =>
        have HD := Lib.hid hd
        clear hd
        go_wp2_with (go_at_call 53; refine (digit_none _ _ hb0 hb HD.out).mono ?_; rintro e w' ⟨rfl, n, rfl⟩)
        go_ret2
        obtain ⟨m, rfl⟩ := hw.out
        exact ⟨by rw [numI_stop s k v hlt hv.out HD.out]; rfl, m + n, by rw [World.drewN_drewN]⟩
      | some d =>
        have hr := hexVal_range _ _ hd
        have HD := Lib.hid hd
        clear hd
        go_wp2_with (go_at_call 53; refine (digit_some _ _ _ HD.out).mono ?_; rintro e w' ⟨rfl, rfl⟩)
        have hb := numI_bound s k v hlt (by omega) hv.out
        exact ⟨⟨k + 1, 16 * v + d, by omega, by simp, by rw [or_digit v d hb.1 hb.2 hr], Lib.hid (numI_step s k v d hlt hv.out HD.out), hw⟩, by simp [RowKit.intOf]; omega⟩
    · have hk2 : k = s.size := by omega
      obtain ⟨hb0, hb1⟩ := numI_lt s v 2 256 hs (by decide) (numI_all s k v hk2 hv.out)
      go_wp2
      go_ret2
      exact ⟨by rw [numI_all s k v hk2 hv.out]; simp; try omega, hw.out⟩

end Go.Proofs.YtcbapogicjhkjaaDoor
