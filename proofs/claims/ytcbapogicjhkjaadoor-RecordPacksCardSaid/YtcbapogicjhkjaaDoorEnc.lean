/- stamp, Sum, allowed and Encode of package record. -/
import Derived.Test.YtcbapogicjhkjaaDoorDig
namespace Go.Proofs.YtcbapogicjhkjaaDoor
open Go.RowKit Go.Lib

/-- The last k bytes of a stamp. -/
def stN : Nat → Nat → List UInt8
  | 0, _ => []
  | k + 1, g => (128 + g / 128 ^ k % 128).toUInt8 :: stN k g
theorem stN_length (k g : Nat) : (stN k g).length = k := by
  induction k with
  | zero => rfl
  | succ k ih => simp [stN, ih]
theorem stN_get (g : Nat) : ∀ (k i : Nat) (h : i < k), (stN k g)[i]'(by rw [stN_length]; exact h) = (128 + g / 128 ^ (k - 1 - i) % 128).toUInt8
  | k + 1, 0, _ => by simp [stN]
  | k + 1, i + 1, h => by
    have e : k + 1 - 1 - (i + 1) = k - 1 - i := by omega
    rw [e, ← stN_get g k i (by omega)]
    simp [stN]

def stAcc (k g : Nat) : List UInt8 := (stN 9 g).take k ++ List.replicate (9 - k) 0
theorem stAcc_length (k g : Nat) (h : k ≤ 9) : (stAcc k g).length = 9 := by simp [stAcc, stN_length]; omega
theorem stAcc_step (k g : Nat) (h : k < 9) : (stAcc k g).set k (128 + g / 128 ^ (8 - k) % 128).toUInt8 = stAcc (k + 1) g := by
  unfold stAcc
  have e : 9 - k = (9 - (k + 1)) + 1 := by omega
  have hl : ((stN 9 g).take k).length = k := by rw [List.length_take, stN_length]; omega
  rw [take_snoc' _ k (by rw [stN_length]; exact h), stN_get g 9 k h, e, List.replicate_succ, List.set_append_right _ _ (by omega), hl]
  simp [List.append_assoc]

theorem ofInt_i64' (a : Nat) (ha : a < 9223372036854775808) : (BitVec.ofInt 64 (a : Int)).toNat = a := by
  rw [BitVec.ofInt_natCast, BitVec.toNat_ofNat]; exact Nat.mod_eq_of_lt (by omega)
theorem i64_mask7 (a : Nat) (ha : a < 9223372036854775808) : bits .and .i64 (a : Int) 127 = ((a % 128 : Nat) : Int) := by
  have hx : a &&& 127 < 2 ^ 63 := Nat.and_lt_two_pow _ (by omega)
  show IntKind.i64.wrap ((BitVec.ofInt 64 (a : Int) &&& BitVec.ofInt 64 ((127 : Nat) : Int)).toNat : Int) = _
  rw [BitVec.toNat_and, ofInt_i64' a ha, ofInt_i64' 127 (by decide), ← nat_mask7, IntKind.wrap_i64]
  omega
theorem stamp_byte (g k : Nat) (hn : g < 9223372036854775808) : (128 + bits .and .i64 ((g : Int) / 2 ^ (7 * (8 - k))) 127) % 256 = (((128 + g / 128 ^ (8 - k) % 128).toUInt8).toNat : Int) := by
  have e : ((g : Int) / 2 ^ (7 * (8 - k))) = ((g / 128 ^ (8 - k) : Nat) : Int) := by
    rw [Int.natCast_ediv, Int.natCast_pow, Int.pow_mul]
    rfl
  have h : g / 128 ^ (8 - k) ≤ g := Nat.div_le_self _ _
  have h2 : g / 128 ^ (8 - k) % 128 < 128 := Nat.mod_lt _ (by decide)
  rw [e, i64_mask7 _ (by omega)]
  simp

set_option maxHeartbeats 1000000 in
set_option maxRecDepth 100000 in
theorem stamp_walk (g : Nat) (w : World) (hn : g < 9223372036854775808) :
    Calls Tryd.prog 36 #[.int .i64 g] w fun e w' => e = .returned (.string (str (stN 9 g))) ∧ Below w.heap.size w w' := by
  have hmk : ∀ W : World, (Instr.makeSlice 33 (.int .i64 9) (.int .i64 9)).run Tryd.prog W = .ok (.slice (some ⟨W.heap.size, 0, none⟩) 9 9) (W.alloc (.cells (bytesArr (stAcc 0 g)) 5)) := fun W => by
    have h := run_make_row' (P := Tryd.prog) 33 5 (.int .u8 0) 1 Tryd.underlying33 infoByte rfl .i64 .i64 9 (by omega) (by omega) W
    rw [madeCells_bytes] at h
    exact h
  go_enter Tryd.func36, Tryd.ntmps36
  go_wp2
  clear hmk
  go_loopw [6] (fun v6 wr => ∃ k : Nat, k ≤ 9 ∧ v6 = .int .i64 k ∧ Hid (BytesAt 5 wr w.heap.size (stAcc k g)) ∧ Hid (Below w.heap.size w wr)) (fun i _ => 9 - (RowKit.intOf i).toNat)
  case atStart => exact ⟨0, Nat.zero_le _, rfl, Lib.hid (heap_alloc_new w _), Lib.hid ((Below.refl _ _).alloc (Nat.le_refl _) _)⟩
  case round =>
    obtain ⟨k, hk, rfl, hB, hb⟩ := hrel
    by_cases hlt : k < 9
    · have hc := hB.out.cell k (by rw [stAcc_length _ _ hk]; omega)
      have hf := hB.out.free k
      go_wp2
      have h1 := hB.out.set k (128 + g / 128 ^ (8 - k) % 128).toUInt8
      rw [stAcc_step k g hlt, ← stamp_byte g k hn] at h1
      exact ⟨⟨k + 1, by omega, by simp, h1, hb.out.setCell (Nat.le_refl _) _⟩, by simp [RowKit.intOf]; omega⟩
    · have hk2 : k = 9 := by omega
      have hs := hB.out.str (P := Tryd.prog) 33 9 9 Tryd.underlying33 Tryd.underlying5 Tryd.underlying9 9 (by rw [stAcc_length _ _ hk])
      go_wp2
      go_ret
      exact ⟨by rw [hk2]; simp [stAcc, List.take_of_length_le, stN_length], hb.out⟩

def fnvStep (h : Nat) (b : UInt8) : Nat := ((h ^^^ b.toNat) * 1099511628211) % 18446744073709551616
/-- The sum of bytes. -/
def fnv (l : List UInt8) : Nat := l.foldl fnvStep 14695981039346656037
theorem foldl_snoc {α β : Type} (f : β → α → β) (a : β) (l : List α) (b : α) : (l ++ [b]).foldl f a = f (l.foldl f a) b := by
  rw [List.foldl_append, List.foldl_cons, List.foldl_nil]
theorem fnv_snoc (l : List UInt8) (b : UInt8) : fnv (l ++ [b]) = fnvStep (fnv l) b := foldl_snoc fnvStep _ l b
theorem fnvStep_lt (h : Nat) (b : UInt8) : fnvStep h b < 18446744073709551616 := by
  unfold fnvStep
  omega
theorem fnv_lt (l : List UInt8) : fnv l < 18446744073709551616 := by
  refine snoc_ind (P := fun l => fnv l < 18446744073709551616) (by decide) (fun l c _ => ?_) l
  rw [fnv_snoc]; exact fnvStep_lt _ _
theorem fnv_walk (h : Nat) (b : UInt8) (hh : h < 18446744073709551616) : IntKind.u64.wrap (bits .xor .u64 (h : Int) (b.toNat : Int) * 1099511628211) = (fnvStep h b : Int) := by
  have hb : b.toNat < 256 := UInt8.toNat_lt b
  rw [u64_xor_nat h b.toNat hh (by omega)]
  simp [IntKind.wrap, IntKind.bits, IntKind.signed, fnvStep]

set_option maxHeartbeats 1000000 in
set_option maxRecDepth 100000 in
theorem sum_walk (s : ByteArray) (w : World) (hs : s.size ≤ 9223372036854775807) :
    Calls Tryd.prog 27 #[.string s] w fun e w' => e = .returned (.int .u64 (fnv (bs s) : Int)) ∧ w = w' := by
  go_enter Tryd.func27, Tryd.ntmps27
  go_wp2
  go_loop [3, 7] (fun v3 v7 => ∃ (k h : Nat), k ≤ s.size ∧ v7 = .int .i64 k ∧ v3 = .int .u64 h ∧ Hid (h = fnv ((bs s).take k))) (fun _ i => s.size - (RowKit.intOf i).toNat)
  case atStart => exact ⟨0, _, Nat.zero_le _, rfl, rfl, Lib.hid rfl⟩
  case round =>
    obtain ⟨k, h, hk, rfl, rfl, hh⟩ := hrel
    by_cases hlt : k < s.size
    · go_wp2
      have h0 : h < 18446744073709551616 := by rw [hh.out]; exact fnv_lt _
      have h1 : IntKind.u64.wrap ((s[k].toNat : Nat) : Int) = ((s[k].toNat : Nat) : Int) := by
        have := UInt8.toNat_lt s[k]
        simp [IntKind.wrap, IntKind.bits, IntKind.signed]; omega
      rw [h1]
      exact ⟨⟨k + 1, fnvStep h s[k], by omega, by simp, by rw [fnv_walk h _ h0], Lib.hid (by rw [take_snoc' _ _ (by rw [bs_length]; exact hlt), fnv_snoc, ← hh.out, bs_get s k hlt])⟩, by simp [RowKit.intOf]; omega⟩
    · go_wp2
      go_ret
      have h1 := hh.out
      rw [List.take_of_length_le (by rw [bs_length]; omega)] at h1
      exact ⟨by rw [← h1]; rfl, rfl⟩

theorem allowed_walk (g : Int) (w : World) :
    Calls Tryd.prog 29 #[.int .i64 g] w fun e w' => e = .returned (.bool (decide (1 ≤ g ∧ g ≤ 1099511627776))) ∧ w = w' := by
  by_cases h1 : 1 ≤ g
  · go_enter Tryd.func29, Tryd.ntmps29
    go_wp2
    all_goals go_ret
    all_goals exact ⟨by simp; omega, rfl⟩
  · go_enter Tryd.func29, Tryd.ntmps29
    go_wp2
    all_goals go_ret
    all_goals exact ⟨by simp; omega, rfl⟩

end Go.Proofs.YtcbapogicjhkjaaDoor
