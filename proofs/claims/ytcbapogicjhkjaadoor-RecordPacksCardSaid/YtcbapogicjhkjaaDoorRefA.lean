/- allowed, Sum, hex, Stamp and number of the reference of layer 54. -/
import Derived.Test.YtcbapogicjhkjaaDoorEnc
import Derived.Test.YtcbapogicjhkjaaDoorNum
namespace Go.Proofs.YtcbapogicjhkjaaDoor
open Go.RowKit Go.Lib

theorem refAllowed_walk (g : Int) (w : World) :
    Calls Tryd.prog 37 #[.int .i64 g] w fun e w' => e = .returned (.bool (decide (1 ≤ g ∧ g ≤ 1099511627776))) ∧ w = w' := by
  by_cases h1 : 1 ≤ g
  · go_enter Tryd.func37, Tryd.ntmps37
    go_wp2
    all_goals go_ret
    all_goals exact ⟨by simp; omega, rfl⟩
  · go_enter Tryd.func37, Tryd.ntmps37
    go_wp2
    all_goals go_ret
    all_goals exact ⟨by simp; omega, rfl⟩

set_option maxHeartbeats 1000000 in
set_option maxRecDepth 100000 in
theorem refSum_walk (s : ByteArray) (w : World) (hs : s.size ≤ 9223372036854775806) :
    Calls Tryd.prog 28 #[.string s] w fun e w' => e = .returned (.int .u64 (fnv (bs s) : Int)) ∧ w = w' := by
  go_enter Tryd.func28, Tryd.ntmps28
  go_wp2_with fail
  go_loop [3, 4] (fun v3 v4 => ∃ (k h : Nat), k ≤ s.size ∧ v4 = .int .i64 k ∧ v3 = .int .u64 h ∧ Hid (h = fnv ((bs s).take k))) (fun _ i => s.size - (RowKit.intOf i).toNat)
  case atStart => exact ⟨0, _, Nat.zero_le _, rfl, rfl, Lib.hid rfl⟩
  case round =>
    obtain ⟨k, h, hk, rfl, rfl, hh⟩ := hrel
    by_cases hlt : k < s.size
    · go_wp2
      have h0 : h < 18446744073709551616 := by rw [hh.out]; exact fnv_lt _
      have h1 : IntKind.u64.wrap ((s[k].toNat : Nat) : Int) = ((s[k].toNat : Nat) : Int) := by
        have := UInt8.toNat_lt s[k]
        simp [IntKind.wrap, IntKind.bits, IntKind.signed]; omega
      rw [h1]
      exact ⟨⟨k + 1, fnvStep h s[k], by omega, by simp, by rw [fnv_walk h _ h0], Lib.hid (by rw [take_snoc' _ _ (by rw [bs_length]; exact hlt), fnv_snoc, ← hh.out, bs_get s k hlt])⟩, by simp [RowKit.intOf]; omega⟩
    · go_wp2
      go_ret
      have h1 := hh.out
      rw [List.take_of_length_le (by rw [bs_length]; omega)] at h1
      exact ⟨by rw [← h1]; rfl, rfl⟩

/-- 'string([]byte{x})'. -/
theorem one_byte (W : World) (x : Int) (h0 : 0 ≤ x) (h1 : x < 256) :
    (convert 33 9 (.slice (some ⟨W.heap.size, 0, none⟩) 1 1)).run Tryd.prog (W.alloc (.cells #[.int .u8 x] 5)) = .ok (.string (str [x.toNat.toUInt8])) (W.alloc (.cells #[.int .u8 x] 5)) := by
  have hx : x = ((x.toNat.toUInt8).toNat : Int) := by simp; omega
  have hB : BytesAt 5 (W.alloc (.cells #[.int .u8 x] 5)) W.heap.size [x.toNat.toUInt8] := by
    have h := heap_alloc_new W (.cells #[.int .u8 x] 5)
    unfold BytesAt bytesArr byteV
    rw [h]
    simp only [List.map_cons, List.map_nil]
    rw [← hx]
  exact hB.str (P := Tryd.prog) 33 9 1 Tryd.underlying33 Tryd.underlying5 Tryd.underlying9 1 rfl

theorem one_byte' (W : World) (b : UInt8) :
    (convert 33 9 (.slice (some ⟨W.heap.size, 0, none⟩) 1 1)).run Tryd.prog (W.alloc (.cells #[.int .u8 (b.toNat : Int)] 5)) = .ok (.string (str [b])) (W.alloc (.cells #[.int .u8 (b.toNat : Int)] 5)) := by
  have h := one_byte W (b.toNat : Int) (Int.natCast_nonneg _) (by have := UInt8.toNat_lt b; omega)
  rwa [show ((b.toNat : Int).toNat.toUInt8) = b from by simp] at h

set_option maxHeartbeats 1000000 in
set_option maxRecDepth 100000 in
theorem refHex_walk (n width : Nat) (w : World) (hn : n < 18446744073709551616) (hw : width ≤ 16) :
    Calls Tryd.prog 38 #[.int .u64 n, .int .i64 width] w fun e w' => e = .returned (.string (str (hexN width n))) ∧ Below w.heap.size w w' := by
  go_enter Tryd.func38, Tryd.ntmps38
  go_wp2_with fail
  go_loopw [0, 5, 6] (fun v0 v5 v6 wr => ∃ (k m : Nat), k ≤ width ∧ v6 = .int .i64 k ∧ v0 = .int .u64 m ∧ m < 18446744073709551616 ∧ v5 = .string (str (hexN k n)) ∧ Hid (m = n / 16 ^ k) ∧ Hid (Below w.heap.size w wr)) (fun _ _ i _ => width - (RowKit.intOf i).toNat)
  case atStart => exact ⟨0, n, Nat.zero_le _, rfl, rfl, hn, rfl, Lib.hid (by simp), Lib.hid (Below.refl _ _)⟩
  case round =>
    obtain ⟨k, m, hk, rfl, rfl, hm, rfl, hmk, hb⟩ := hrel
    by_cases hlt : k < width
    · have hz : (str (hexN k n)).size = k := by rw [str_size, hexN_length]
      have h16 : m % 16 < 16 := Nat.mod_lt _ (by decide)
      have hcv := one_byte'
      have hz1 : ∀ b : UInt8, (str [b]).size = 1 := fun b => str_size _
      go_wp2_with fail
      have hd : (⟨#[48, 49, 50, 51, 52, 53, 54, 55, 56, 57, 97, 98, 99, 100, 101, 102]⟩ : ByteArray)[m % 16]'(by show m % 16 < 16; exact h16) = hexDig (n / 16 ^ k % 16) := by
        rw [← hmk.out]; exact hexS_get' _ h16
      refine ⟨⟨k + 1, m / 16, by omega, by simp, by simp, by omega, ?_, Lib.hid ?_, Lib.hid (hb.out.alloc hb.out.size _)⟩, by simp [RowKit.intOf]; omega⟩
      · rw [str_append, hd]; rfl
      · rw [hmk.out, Nat.pow_succ, Nat.div_div_eq_div_mul]
    · go_wp2_with fail
      go_ret
      have hkw : k = width := by omega
      exact ⟨by rw [hkw]; rfl, hb.out⟩

set_option maxHeartbeats 1000000 in
set_option maxRecDepth 100000 in
theorem refStamp_walk (n : Nat) (w : World) (hn : n < 9223372036854775808) :
    Calls Tryd.prog 39 #[.int .i64 n] w fun e w' => e = .returned (.string (str (stN 9 n))) ∧ Below w.heap.size w w' := by
  go_enter Tryd.func39, Tryd.ntmps39
  go_wp2_with fail
  go_loopw [0, 3, 4] (fun v0 v5 v6 wr => ∃ (k m : Nat), k ≤ 9 ∧ v6 = .int .i64 k ∧ v0 = .int .i64 m ∧ m < 9223372036854775808 ∧ v5 = .string (str (stN k n)) ∧ Hid (m = n / 128 ^ k) ∧ Hid (Below w.heap.size w wr)) (fun _ _ i _ => 9 - (RowKit.intOf i).toNat)
  case atStart => exact ⟨0, n, Nat.zero_le _, rfl, rfl, hn, rfl, Lib.hid (by simp), Lib.hid (Below.refl _ _)⟩
  case round =>
    obtain ⟨k, m, hk, rfl, rfl, hm, rfl, hmk, hb⟩ := hrel
    by_cases hlt : k < 9
    · have hz : (str (stN k n)).size = k := by rw [str_size, stN_length]
      have hcv : ∀ W : World, (convert 33 9 (.slice (some ⟨W.heap.size, 0, none⟩) 1 1)).run Tryd.prog (W.alloc (.cells #[.int .u8 (128 + (m : Int) % 128)] 5)) = .ok (.string (str [(128 + m % 128).toUInt8])) (W.alloc (.cells #[.int .u8 (128 + (m : Int) % 128)] 5)) := fun W => by
        have h := one_byte W (128 + (m : Int) % 128) (by omega) (by omega)
        rwa [show (128 + (m : Int) % 128).toNat.toUInt8 = (128 + m % 128).toUInt8 from congrArg Nat.toUInt8 (by omega)] at h
      have hz1 : ∀ b : UInt8, (str [b]).size = 1 := fun b => str_size _
      go_wp2_with fail
      refine ⟨⟨k + 1, m / 128, by omega, by simp, by simp, by omega, ?_, Lib.hid ?_, Lib.hid (hb.out.alloc hb.out.size _)⟩, by simp [RowKit.intOf]; omega⟩
      · rw [str_append, hmk.out]; simp [stN]
      · rw [hmk.out, Nat.pow_succ, Nat.div_div_eq_div_mul]
    · go_wp2_with fail
      go_ret
      have hkw : k = 9 := by omega
      exact ⟨by rw [hkw]; rfl, hb.out⟩

theorem wrap64_small (v : Int) (h0 : 0 ≤ v) (h1 : v < 9223372036854775808) : wrap64 v = v := by unfold wrap64; omega

theorem hexVal_cases (c : Int) : (48 ≤ c ∧ c ≤ 57 ∧ hexVal c = some (c - 48)) ∨ (97 ≤ c ∧ c ≤ 102 ∧ hexVal c = some (c - 87)) ∨ (hexVal c = none ∧ (c < 48 ∨ (57 < c ∧ c < 97) ∨ 102 < c)) := by
  unfold hexVal
  by_cases h1 : 48 ≤ c ∧ c ≤ 57
  · exact .inl ⟨h1.1, h1.2, if_pos h1⟩
  · by_cases h2 : 97 ≤ c ∧ c ≤ 102
    · exact .inr (.inl ⟨h2.1, h2.2, by rw [if_neg h1, if_pos h2]⟩)
    · exact .inr (.inr ⟨by rw [if_neg h1, if_neg h2], by omega⟩)

def refNum (s : ByteArray) : Value := match numI (bs s) with
  | some v => .tuple #[.int .i64 (wrap64 v), .bool true]
  | none => .tuple #[.int .i64 0, .bool false]

set_option maxHeartbeats 2000000 in
set_option maxRecDepth 100000 in
theorem refNumber_walk (s : ByteArray) (w : World) (hs : s.size ≤ 16) :
    Calls Tryd.prog 40 #[.string s] w fun e w' => e = .returned (refNum s) ∧ w = w' := by
  go_enter Tryd.func40, Tryd.ntmps40
  go_wp2_with fail
  go_loop [4, 5] (fun v4 v5 => ∃ (k : Nat) (x v : Int), k ≤ s.size ∧ v5 = .int .i64 k ∧ v4 = .int .i64 x ∧ Hid (x = wrap64 v ∧ numI ((bs s).take k) = some v)) (fun _ i => s.size - (RowKit.intOf i).toNat)
  case atStart => exact ⟨0, 0, 0, Nat.zero_le _, rfl, rfl, Lib.hid ⟨(wrap64_small 0 (by omega) (by omega)).symm, rfl⟩⟩
  case round =>
    obtain ⟨k, x, v, hk, rfl, rfl, hv⟩ := hrel
    by_cases hlt : k < s.size
    · have hbd := numI_bound s k v hlt hs hv.out.2
      have hxv : x = v := by rw [hv.out.1]; exact wrap64_small v hbd.1 (by omega)
      have hx0 : 0 ≤ x := by omega
      have hx1 : x < 1152921504606846976 := by omega
      have HX := Lib.hid hxv
      clear hxv hbd
      have hb : ((s[k].toNat : Nat) : Int) < 256 := by have := UInt8.toNat_lt s[k]; omega
      rcases hexVal_cases ((s[k].toNat : Nat) : Int) with ⟨c1, c2, hd⟩ | ⟨c1, c2, hd⟩ | ⟨hd, c1⟩
      · have HD := Lib.hid hd
        clear hd
        go_wp2_with fail
        refine ⟨⟨k + 1, _, 16 * v + ((s[k].toNat : Int) - 48), by omega, by simp, rfl, Lib.hid ⟨?_, numI_step s k v _ hlt hv.out.2 HD.out⟩⟩, by simp [RowKit.intOf]; omega⟩
        rw [← HX.out]; unfold wrap64; omega
      · have HD := Lib.hid hd
        clear hd
        go_wp2_with fail
        refine ⟨⟨k + 1, _, 16 * v + ((s[k].toNat : Int) - 87), by omega, by simp, rfl, Lib.hid ⟨?_, numI_step s k v _ hlt hv.out.2 HD.out⟩⟩, by simp [RowKit.intOf]; omega⟩
        rw [← HX.out]; unfold wrap64; omega
      · have HR := Lib.hid (show refNum s = .tuple #[.int .i64 0, .bool false] from by unfold refNum; rw [numI_stop s k v hlt hv.out.2 hd])
        clear hd
        rcases c1 with c1 | ⟨c1, c2⟩ | c1
        · go_wp2_with fail
          go_ret2
          exact ⟨by rw [HR.out]; rfl, rfl⟩
        · go_wp2_with fail
          go_ret2
          exact ⟨by rw [HR.out]; rfl, rfl⟩
        · go_wp2_with fail
          go_ret2
          exact ⟨by rw [HR.out]; rfl, rfl⟩
    · have HR := Lib.hid (show refNum s = .tuple #[.int .i64 x, .bool true] from by
        unfold refNum; rw [numI_all s k v (by omega) hv.out.2, hv.out.1])
      go_wp2_with fail
      go_ret2
      exact ⟨by rw [HR.out]; rfl, rfl⟩

end Go.Proofs.YtcbapogicjhkjaaDoor
