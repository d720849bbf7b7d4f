/- digits and stamp of package record. -/
import Derived.Test.YtcbapogicjhkjaaDoorRecA
import Derived.Test.YtcbapogicjhkjaaDoorMem
namespace Go.Proofs.YtcbapogicjhkjaaDoor
open Go.RowKit Go.Lib

/-- A hexadecimal digit. -/
def hexDig (n : Nat) : UInt8 := if n < 10 then (48 + n).toUInt8 else (87 + n).toUInt8
/-- A number in some hexadecimal digits. -/
def hexN : Nat → Nat → List UInt8
  | 0, _ => []
  | k + 1, n => hexDig (n / 16 ^ k % 16) :: hexN k n

theorem hexN_length (k n : Nat) : (hexN k n).length = k := by
  induction k with
  | zero => rfl
  | succ k ih => simp [hexN, ih]

theorem hexS_get : ∀ d : Fin 16, hexS[d.val]'(by have := d.isLt; show d.val < 16; exact this) = hexDig d.val := by decide +kernel

theorem hexS_get' (d : Nat) (h : d < 16) : hexS[d]'(by show d < 16; exact h) = hexDig d := hexS_get ⟨d, h⟩

/-- What has been written behind k rounds. -/
def digAcc (width k n : Nat) : List UInt8 := List.replicate (width - k) 0 ++ hexN k n
theorem digAcc_length (width k n : Nat) (h : k ≤ width) : (digAcc width k n).length = width := by simp [digAcc, hexN_length]; omega
theorem digAcc_step (width k n : Nat) (h : k < width) : (digAcc width k n).set (width - 1 - k) (hexDig (n / 16 ^ k % 16)) = digAcc width (k + 1) n := by
  unfold digAcc
  have e : width - k = (width - 1 - k) + 1 := by omega
  have e2 : width - (k + 1) = width - 1 - k := by omega
  rw [e, e2, List.replicate_succ', List.append_assoc, List.set_append_right _ _ (by simp)]
  simp [hexN]

theorem nib (n k : Nat) (hn : n < 18446744073709551616) : bits .and .u64 ((n : Int) / 2 ^ (4 * k)) 15 = ((n / 16 ^ k % 16 : Nat) : Int) := by
  have e : ((n : Int) / 2 ^ (4 * k)) = ((n / 16 ^ k : Nat) : Int) := by
    rw [Int.natCast_ediv, Int.natCast_pow, Int.pow_mul]
    rfl
  have h : n / 16 ^ k ≤ n := Nat.div_le_self _ _
  have h2 := u64_and_nat (n / 16 ^ k) 15 (by omega) (by decide)
  rw [e, show ((15 : Int)) = ((15 : Nat) : Int) from rfl, h2, nat_mask4]

set_option maxHeartbeats 1000000 in
theorem digits_int_walk (n width : Nat) (w : World) (hn : n < 9223372036854775808) (hw : width ≤ 16) :
    Calls Tryd.prog 32 #[.int .i64 n, .int .i64 width] w fun e w' => e = .returned (.string (str (hexN width n))) ∧ Below w.heap.size w w' := by
  have hmk := fun W => run_make_row' (P := Tryd.prog) 33 5 (.int .u8 0) 1 Tryd.underlying33 infoByte rfl .i64 .i64 width (by omega) (by omega) W
  go_enter Tryd.func32, Tryd.ntmps32
  go_wp2
  clear hmk
  have hb0 : BytesAt 5 (w.alloc (.cells (madeCells #[Value.int .u8 0] width) 5)) w.heap.size (digAcc width 0 n) := by
    have := BytesAt.made (T := 5) w width
    simpa [digAcc, hexN] using this
  have HB := Lib.hid hb0
  clear hb0
  go_loopw [10] (fun v10 wr => ∃ k : Nat, k ≤ width ∧ v10 = .int .i64 k ∧ Hid (BytesAt 5 wr w.heap.size (digAcc width k n)) ∧ Hid (Below w.heap.size w wr)) (fun i _ => width - (RowKit.intOf i).toNat)
  case atStart => exact ⟨0, Nat.zero_le _, rfl, HB, Lib.hid ((Below.refl _ _).alloc (Nat.le_refl _) _)⟩
  case round =>
    obtain ⟨k, hk, rfl, hB, hb⟩ := hrel
    by_cases hlt : k < width
    · have hc := hB.out.cell (width - 1 - k) (by rw [digAcc_length _ _ _ hk]; omega)
      have hf := hB.out.free (width - 1 - k)
      obtain ⟨d, hd⟩ : ∃ d, d = n / 16 ^ k % 16 := ⟨_, rfl⟩
      have hx := nib n k (by omega)
      rw [← hd] at hx
      have hd16 : d < 16 := by rw [hd]; exact Nat.mod_lt _ (by decide)
      have HD := Lib.hid hd
      clear hd
      go_wp2
      have h1 := hB.out.set (width - 1 - k) (hexS[d]'(by show d < 16; exact hd16))
      have hset : (digAcc width k n).set (width - 1 - k) (hexS[d]'(by show d < 16; exact hd16)) = digAcc width (k + 1) n := by
        rw [hexS_get' d hd16, HD.out]; exact digAcc_step width k n hlt
      rw [hset] at h1
      exact ⟨⟨k + 1, by omega, by simp, h1, hb.out.setCell (Nat.le_refl _) _⟩, by simp [RowKit.intOf]; omega⟩
    · have hk2 : k = width := by omega
      have hs := hB.out.str (P := Tryd.prog) 33 9 width Tryd.underlying33 Tryd.underlying5 Tryd.underlying9 width (by rw [digAcc_length _ _ _ hk])
      go_wp2
      go_ret
      exact ⟨by rw [hk2]; simp [digAcc], hb.out⟩

set_option maxHeartbeats 1000000 in
theorem digits_byte_walk (n width : Nat) (w : World) (hn : n < 256) (hw : width ≤ 16) :
    Calls Tryd.prog 33 #[.int .u8 n, .int .i64 width] w fun e w' => e = .returned (.string (str (hexN width n))) ∧ Below w.heap.size w w' := by
  have hmk := fun W => run_make_row' (P := Tryd.prog) 33 5 (.int .u8 0) 1 Tryd.underlying33 infoByte rfl .i64 .i64 width (by omega) (by omega) W
  go_enter Tryd.func33, Tryd.ntmps33
  go_wp2
  clear hmk
  have hb0 : BytesAt 5 (w.alloc (.cells (madeCells #[Value.int .u8 0] width) 5)) w.heap.size (digAcc width 0 n) := by
    have := BytesAt.made (T := 5) w width
    simpa [digAcc, hexN] using this
  have HB := Lib.hid hb0
  clear hb0
  go_loopw [10] (fun v10 wr => ∃ k : Nat, k ≤ width ∧ v10 = .int .i64 k ∧ Hid (BytesAt 5 wr w.heap.size (digAcc width k n)) ∧ Hid (Below w.heap.size w wr)) (fun i _ => width - (RowKit.intOf i).toNat)
  case atStart => exact ⟨0, Nat.zero_le _, rfl, HB, Lib.hid ((Below.refl _ _).alloc (Nat.le_refl _) _)⟩
  case round =>
    obtain ⟨k, hk, rfl, hB, hb⟩ := hrel
    by_cases hlt : k < width
    · have hc := hB.out.cell (width - 1 - k) (by rw [digAcc_length _ _ _ hk]; omega)
      have hf := hB.out.free (width - 1 - k)
      obtain ⟨d, hd⟩ : ∃ d, d = n / 16 ^ k % 16 := ⟨_, rfl⟩
      have hx := nib n k (by omega)
      rw [← hd] at hx
      have hd16 : d < 16 := by rw [hd]; exact Nat.mod_lt _ (by decide)
      have HD := Lib.hid hd
      clear hd
      go_wp2
      have h1 := hB.out.set (width - 1 - k) (hexS[d]'(by show d < 16; exact hd16))
      have hset : (digAcc width k n).set (width - 1 - k) (hexS[d]'(by show d < 16; exact hd16)) = digAcc width (k + 1) n := by
        rw [hexS_get' d hd16, HD.out]; exact digAcc_step width k n hlt
      rw [hset] at h1
      exact ⟨⟨k + 1, by omega, by simp, h1, hb.out.setCell (Nat.le_refl _) _⟩, by simp [RowKit.intOf]; omega⟩
    · have hk2 : k = width := by omega
      have hs := hB.out.str (P := Tryd.prog) 33 9 width Tryd.underlying33 Tryd.underlying5 Tryd.underlying9 width (by rw [digAcc_length _ _ _ hk])
      go_wp2
      go_ret
      exact ⟨by rw [hk2]; simp [digAcc], hb.out⟩

set_option maxHeartbeats 1000000 in
theorem digits_u64_walk (n width : Nat) (w : World) (hn : n < 18446744073709551616) (hw : width ≤ 16) :
    Calls Tryd.prog 34 #[.int .u64 n, .int .i64 width] w fun e w' => e = .returned (.string (str (hexN width n))) ∧ Below w.heap.size w w' := by
  have hmk := fun W => run_make_row' (P := Tryd.prog) 33 5 (.int .u8 0) 1 Tryd.underlying33 infoByte rfl .i64 .i64 width (by omega) (by omega) W
  go_enter Tryd.func34, Tryd.ntmps34
  go_wp2
  clear hmk
  have hb0 : BytesAt 5 (w.alloc (.cells (madeCells #[Value.int .u8 0] width) 5)) w.heap.size (digAcc width 0 n) := by
    have := BytesAt.made (T := 5) w width
    simpa [digAcc, hexN] using this
  have HB := Lib.hid hb0
  clear hb0
  go_loopw [10] (fun v10 wr => ∃ k : Nat, k ≤ width ∧ v10 = .int .i64 k ∧ Hid (BytesAt 5 wr w.heap.size (digAcc width k n)) ∧ Hid (Below w.heap.size w wr)) (fun i _ => width - (RowKit.intOf i).toNat)
  case atStart => exact ⟨0, Nat.zero_le _, rfl, HB, Lib.hid ((Below.refl _ _).alloc (Nat.le_refl _) _)⟩
  case round =>
    obtain ⟨k, hk, rfl, hB, hb⟩ := hrel
    by_cases hlt : k < width
    · have hc := hB.out.cell (width - 1 - k) (by rw [digAcc_length _ _ _ hk]; omega)
      have hf := hB.out.free (width - 1 - k)
      obtain ⟨d, hd⟩ : ∃ d, d = n / 16 ^ k % 16 := ⟨_, rfl⟩
      have hx := nib n k (by omega)
      rw [← hd] at hx
      have hd16 : d < 16 := by rw [hd]; exact Nat.mod_lt _ (by decide)
      have HD := Lib.hid hd
      clear hd
      go_wp2
      have h1 := hB.out.set (width - 1 - k) (hexS[d]'(by show d < 16; exact hd16))
      have hset : (digAcc width k n).set (width - 1 - k) (hexS[d]'(by show d < 16; exact hd16)) = digAcc width (k + 1) n := by
        rw [hexS_get' d hd16, HD.out]; exact digAcc_step width k n hlt
      rw [hset] at h1
      exact ⟨⟨k + 1, by omega, by simp, h1, hb.out.setCell (Nat.le_refl _) _⟩, by simp [RowKit.intOf]; omega⟩
    · have hk2 : k = width := by omega
      have hs := hB.out.str (P := Tryd.prog) 33 9 width Tryd.underlying33 Tryd.underlying5 Tryd.underlying9 width (by rw [digAcc_length _ _ _ hk])
      go_wp2
      go_ret
      exact ⟨by rw [hk2]; simp [digAcc], hb.out⟩

end Go.Proofs.YtcbapogicjhkjaaDoor
