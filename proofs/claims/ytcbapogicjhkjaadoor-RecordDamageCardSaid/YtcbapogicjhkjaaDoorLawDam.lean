/- RecordDamage returns true. -/
import Derived.Test.YtcbapogicjhkjaaDoorLawRets
import Derived.Test.YtcbapogicjhkjaaDoorPlainB
import Derived.Laws.BitsAllLaws
import Derived.Lib.ConvBytes
namespace Go.Proofs.YtcbapogicjhkjaaDoor
open Go.RowKit Go.Lib

/-- A slice's bytes: the front of a block. -/
def RowAt (w : World) (B : Nat) (l : List UInt8) : Prop := ∀ j (h : j < l.length), w.cell? ⟨B, j, none⟩ = some (.int .u8 (l[j].toNat : Int)) ∧ w.frozen? ⟨B, j, none⟩ = false
theorem RowAt.str {w : World} {B : Nat} {l : List UInt8} (h : RowAt w B l) (cap n : Nat) (hn : n = l.length) :
    (convert 33 9 (.slice (some ⟨B, 0, none⟩) n cap)).run Tryd.prog w = .ok (.string (str l)) w := by
  subst hn
  exact run_convert_bytes_back w _ _ 5 ⟨B, 0, none⟩ cap l Tryd.underlying33 Tryd.underlying5 Tryd.underlying9 (fun j hj => by
    have : (⟨B, 0, none⟩ : Addr).add j = ⟨B, j, none⟩ := by unfold Addr.add; split <;> simp_all
    rw [this]; exact (h j hj).1)
theorem RowAt.set {w : World} {B : Nat} {l : List UInt8} (h : RowAt w B l) (i : Nat) (hi : i < l.length) (y : UInt8) : RowAt (w.setCell ⟨B, i, none⟩ (.int .u8 (y.toNat : Int))) B (l.set i y) := by
  intro j hj
  rw [List.length_set] at hj
  obtain ⟨h1, h2⟩ := h j hj
  have hblk : ∃ c T f, w.heap[B]? = some (.cells c T f) := by
    unfold World.cell? at h1
    split at h1
    · rename_i c T f hh; exact ⟨c, T, f, hh⟩
    · cases h1
  obtain ⟨c, T, f, hh⟩ := hblk
  have hc : ∀ q, q < l.length → q < c.size := by
    intro q hq
    have h3 := (h q hq).1
    simp only [World.cell?, hh] at h3
    simp at h3
    exact (Array.getElem?_eq_some_iff.1 h3).1
  constructor
  · by_cases hji : j = i
    · subst hji
      rw [List.getElem_set_self]
      have hcj := hc j hi
      simp [World.cell?, World.setCell, Array.getElem?_modify, hh, Array.getElem?_setIfInBounds, hcj]
    · rw [List.getElem_set_ne (by omega)]
      rw [← h1]
      simp [World.cell?, World.setCell, Array.getElem?_modify, hh, Array.getElem?_setIfInBounds, Ne.symm hji]
  · rw [← h2]
    simp [World.frozen?, World.setCell, Array.getElem?_modify, hh]

/-- '[]byte(s)': a new block. -/
theorem conv_bytes (w : World) (s : ByteArray) : ∃ (cap : Nat) (wB : World), (convert 9 33 (.string s)).run Tryd.prog w = .ok (.slice (some ⟨w.heap.size, 0, none⟩) s.size cap) wB ∧ Below w.heap.size w wB ∧ RowAt wB w.heap.size (bs s) := by
  refine ⟨_, _, Go.Lib.run_convert_string_bytes w 9 33 5 s Tryd.underlying9 Tryd.underlying33 Tryd.underlying5, ⟨?_, ?_, ?_, ?_, ?_⟩, ?_⟩
  · simp [bytesWorld, World.freeze, World.alloc, World.drew, -World.alloc_eq, -World.drew_eq]
  · simp [bytesWorld, World.freeze, World.alloc, World.drew, -World.alloc_eq, -World.drew_eq]
  · simp [bytesWorld, World.freeze, World.alloc, World.drew, -World.alloc_eq, -World.drew_eq]
  · rw [bytesWorld_size]; omega
  · intro k hk; exact bytesWorld_at_old w _ s k hk
  · intro j hj
    have hj' : j < s.size := by rw [bs_length] at hj; exact hj
    constructor
    · rw [bytesWorld_cell w _ s j hj']
      simp [bs, List.getD, hj']
    · have hlt : j < (bytesCells w 5 s).size := by simp [bytesCells]; omega
      simp only [World.frozen?, bytesWorld_at_new]
      simp; omega

theorem xor_ne (x y m : UInt8) (hm : m ≠ 0) (h : y = x ^^^ m) : y ≠ x := by
  rintro rfl
  apply hm
  have h2 : y ^^^ y = y ^^^ (y ^^^ m) := by rw [← h]
  rw [UInt8.xor_self, ← UInt8.xor_assoc, UInt8.xor_self, UInt8.zero_xor] at h2
  exact h2.symm

set_option maxHeartbeats 4000000 in
set_option maxRecDepth 100000 in
theorem RecordDamage_good (g : Nat) (b off c : Nat) (ps : List (List UInt8)) (cut : Int) (m : UInt8) (w : World) (h1 : StrsAt w b off ps) (hcap : ps.length ≤ c) (hf : fewB ps 6 60 = true) (h0 : 0 < ps.length)
    (hg : 1 ≤ g ∧ g ≤ 1099511627776) (hm : m ≠ 0) (hcut : 0 ≤ cut ∧ cut ≤ 65535) (ht : Tab w) :
    Calls Tryd.prog 4 #[.int .i64 g, .slice (some ⟨b, off, none⟩) ps.length c, .int .u16 cut, .int .u8 (m.toNat : Int)] w fun e w' => e = .returned (.bool true) ∧ Below w.heap.size w w' := by
  have hT := Lib.hid ht
  clear ht
  obtain ⟨hp, hn⟩ := few_true hf
  have hp : ∀ p ∈ ps, p.length ≤ 60 := fun p hq => by have := hp p hq; omega
  have hp3 : ∀ p ∈ ps, p.length ≤ 30000 := fun p hq => by have := hp p hq; omega
  have hn : ps.length ≤ 8 := by omega
  have hz : (str (encL g ps)).size = offL ps := by rw [str_size, encL_length]
  have hoff : offL ps ≤ 1500 := by
    have h2 := offL_bound ps 60 hp
    omega
  have hoff0 : 50 ≤ offL ps := by have := offL_length ps; omega
  obtain ⟨i, hi, hilt⟩ : ∃ i : Nat, cut.tmod (offL ps : Int) = (i : Int) ∧ i < offL ps := by
    refine ⟨(cut.tmod (offL ps : Int)).toNat, ?_⟩
    have e : cut.tmod (offL ps : Int) = cut % (offL ps : Int) := Int.tmod_eq_emod_of_nonneg hcut.1
    rw [e]
    have h1 := Int.emod_nonneg cut (show (offL ps : Int) ≠ 0 by omega)
    have h2 := Int.emod_lt_of_pos cut (show 0 < (offL ps : Int) by omega)
    omega
  have hil : i < (encL g ps).length := by rw [encL_length]; exact hilt
  obtain ⟨x, hx⟩ : ∃ x, x = (encL g ps)[i] := ⟨_, rfl⟩
  obtain ⟨y, hy⟩ : ∃ y, y = x ^^^ m := ⟨_, rfl⟩
  have hyx : y ≠ x := xor_ne x y m hm hy
  have hxor : bits .xor .u8 (x.toNat : Int) (m.toNat : Int) = (y.toNat : Int) := by
    rw [u8_xor_nat _ _ x.toNat_lt m.toNat_lt, hy, UInt8.toNat_xor]
  have cw2 : ∀ k : Nat, k < ps.length → offL (ps.take k) ≤ i → i < offL (ps.take (k + 1)) → ∀ W, Calls Tryd.prog 11 #[.string (str ((encL g ps).set i y)), .int .i64 g] W fun e w' => (∃ v, e = .returned (.tuple #[v, .int .i64 (offL (ps.take k) : Int)]) ∧ StrsIn w' v (ps.take k)) ∧ Below W.heap.size W w' := by
    intro k hk h1 h2 W
    have h := Walk_walk (str ((encL g ps).set i y)) g W hg (by rw [str_size, List.length_set, encL_length]; omega)
    rw [bs_str, walkL_damage g ps hp3 k i hk h1 h2 y hil (by rw [← hx]; exact hyx)] at h
    exact h
  have hd1 : decide ((g : Int) < 1) = false := by simp; omega
  have hd2 : decide (1099511627776 < (g : Int)) = false := by simp; omega
  have hd3 : ((ps.length : Int) == 0) = false := by rw [beq_eq_false_iff_ne]; omega
  have hd4 : ((m.toNat : Int) == 0) = false := by
    rw [beq_eq_false_iff_ne]
    intro h
    have h' : m.toNat = 0 := by omega
    exact hm (UInt8.toNat_inj.1 (by rw [h']; rfl))
  have H1 := Lib.hid h1
  have HF := Lib.hid hf
  have HP := Lib.hid hp
  have cw2 := Lib.hid cw2
  have HX := Lib.hid hx
  clear h1 hf hp hp3 hx hy hyx hm
  go_enter Tryd.func4, Tryd.ntmps4
  go_wp2_with fail
  refine (awake54 _ hT.out).mono ?_
  rintro e w1 ⟨rfl, hb1⟩
  go_wp2_with fail
  have hS1 : StrsIn w1 (.slice (some ⟨b, off, none⟩) ps.length c) ps := by have := (H1.out.below hb1).takeK (c := c) (Nat.le_refl _); rwa [List.take_length] at this
  refine (Few_walk _ ps 6 60 _ hS1 (by omega)).mono ?_
  rintro e w2 ⟨rfl, rfl⟩
  rw [HF.out]
  have hS1 := Lib.hid hS1
  go_wp2_with fail
  refine (lawEncode_walk g _ ps _ hS1.out hg HP.out hn).mono ?_
  rintro e w3 ⟨⟨b', c', rfl, hn3⟩, hb3⟩
  obtain ⟨cap, wB, hcv, hbB, hrow⟩ := conv_bytes w3 (str (encL g ps))
  rw [hz] at hcv
  rw [bs_str] at hrow
  have hcell := (hrow i hil).1
  have hfz := (hrow i hil).2
  rw [← HX.out] at hcell
  have hbD : Below w3.heap.size w3 (wB.setCell ⟨w3.heap.size, i, none⟩ (.int .u8 (y.toNat : Int))) := hbB.setCell (Nat.le_refl _) _
  have hN := Lib.hid (hn3.below hbD)
  have hb := Lib.hid (below_seq (below_seq hb1 hb3) hbD)
  have hS := Lib.hid (((H1.out.below hb1).below hb3).below hbD)
  have hset := Lib.hid (hrow.set i hil y)
  clear hn3 hb1 hb3 hS1 H1 hbB hrow hbD
  go_wp2_with fail
  obtain ⟨wD, hwD⟩ : ∃ wD, wD = wB.setCell ⟨w3.heap.size, i, none⟩ (.int .u8 (y.toNat : Int)) := ⟨_, rfl⟩
  rw [← hwD] at hN hb hS hset ⊢
  obtain ⟨B, hB⟩ : ∃ B, B = w3.heap.size := ⟨_, rfl⟩
  rw [← hB] at hset ⊢
  clear hcell hfz hcv hwD hB
  have hcv2 := hset.out.str cap (offL ps) (by rw [List.length_set, encL_length])
  clear hset
  go_loop [14] (fun v14 => ∃ k : Nat, k < ps.length ∧ v14 = .int .i64 k ∧ offL (ps.take k) ≤ i) (fun i => ps.length - (RowKit.intOf i).toNat)
  case atStart => exact ⟨0, h0, rfl, by simp [offL]⟩
  case round =>
    obtain ⟨k, hk, rfl, hle⟩ := hrel
    have hol := offs_length ps
    have hcell : wD.cell? ⟨b', k + 1, none⟩ = some (.int .i64 ((offL (ps.take (k + 1)) : Nat) : Int)) := by
      have := hN.out (k + 1) (by omega)
      rwa [offs_get] at this
    by_cases hle2 : offL (ps.take (k + 1)) ≤ i
    · have hk2 : k + 1 < ps.length := by
        refine Nat.lt_of_not_le fun h => ?_
        rw [List.take_of_length_le h] at hle2
        omega
      go_wp2_with fail
      exact ⟨⟨k + 1, hk2, by simp, hle2⟩, by simp [RowKit.intOf]; omega⟩
    · have h2 : i < offL (ps.take (k + 1)) := by omega
      go_wp2_with fail
      refine (cw2.out k hk hle h2 _).mono ?_
      rintro e w6 ⟨⟨v6, rfl, hv6⟩, hb6⟩
      have hb := below_seq hb.out hb6
      go_wp2_with fail
      refine (Strings_walk v6 (.slice (some ⟨b, off, none⟩) k c) (ps.take k) (ps.take k) _ hv6 ?_ (by rw [List.length_take]; omega)).mono ?_
      · exact (hS.out.below hb6).takeK (by omega)
      rintro e w7 ⟨rfl, nq, rfl⟩
      rw [decide_eq_true rfl]
      have hc := (hN.out.below hb6) k (by rw [offs_length]; omega)
      rw [offs_get] at hc
      go_wp2_with fail
      go_ret
      exact ⟨rfl, below_drewN' hb nq⟩

set_option maxHeartbeats 4000000 in
set_option maxRecDepth 100000 in
/-- Where the law says nothing. -/
theorem RecordDamage_off (g : Int) (a : Option Addr) (c : Nat) (ps : List (List UInt8)) (cut m : Int) (w : World) (h1 : StrsIn w (.slice a ps.length c) ps) (hm : ps.length ≤ 140737488351232)
    (hoff : fewB ps 6 60 = false ∨ ps.length = 0 ∨ ¬ (1 ≤ g ∧ g ≤ 1099511627776) ∨ m = 0) (ht : Tab w) :
    Calls Tryd.prog 4 #[.int .i64 g, .slice a ps.length c, .int .u16 cut, .int .u8 m] w fun e w' => e = .returned (.bool true) ∧ Below w.heap.size w w' := by
  have hT := Lib.hid ht
  have H1 := Lib.hid h1
  clear ht h1
  cases hf : fewB ps 6 60 with
  | false =>
    have HF := Lib.hid hf
    clear hf hoff
    go_enter Tryd.func4, Tryd.ntmps4
    go_wp2_with fail
    refine (awake54 _ hT.out).mono ?_
    rintro e w1 ⟨rfl, hb1⟩
    go_wp2_with fail
    refine (Few_walk _ ps 6 60 _ (H1.out.below hb1) (by omega)).mono ?_
    rintro e w2 ⟨rfl, rfl⟩
    rw [HF.out]
    go_wp2_with fail
    go_ret
    exact ⟨rfl, hb1⟩
  | true =>
    have HF := Lib.hid hf
    rw [hf] at hoff
    clear hf
    by_cases h0 : ps.length = 0
    · have hd3 : ((ps.length : Int) == 0) = true := by rw [beq_iff_eq]; omega
      clear hoff h0
      go_enter Tryd.func4, Tryd.ntmps4
      go_wp2_with fail
      refine (awake54 _ hT.out).mono ?_
      rintro e w1 ⟨rfl, hb1⟩
      go_wp2_with fail
      refine (Few_walk _ ps 6 60 _ (H1.out.below hb1) (by omega)).mono ?_
      rintro e w2 ⟨rfl, rfl⟩
      rw [HF.out]
      go_wp2_with fail
      go_ret
      exact ⟨rfl, hb1⟩
    · have hd3 : ((ps.length : Int) == 0) = false := by rw [beq_eq_false_iff_ne]; omega
      by_cases hlt : g < 1
      · have hd1 : decide (g < 1) = true := by simpa using hlt
        clear hoff
        go_enter Tryd.func4, Tryd.ntmps4
        go_wp2_with fail
        refine (awake54 _ hT.out).mono ?_
        rintro e w1 ⟨rfl, hb1⟩
        go_wp2_with fail
        refine (Few_walk _ ps 6 60 _ (H1.out.below hb1) (by omega)).mono ?_
        rintro e w2 ⟨rfl, rfl⟩
        rw [HF.out]
        go_wp2_with fail
        go_ret
        exact ⟨rfl, hb1⟩
      · have hd1 : decide (g < 1) = false := by simpa using hlt
        by_cases hgt : 1099511627776 < g
        · have hd2 : decide (1099511627776 < g) = true := by simpa using hgt
          clear hoff
          go_enter Tryd.func4, Tryd.ntmps4
          go_wp2_with fail
          refine (awake54 _ hT.out).mono ?_
          rintro e w1 ⟨rfl, hb1⟩
          go_wp2_with fail
          refine (Few_walk _ ps 6 60 _ (H1.out.below hb1) (by omega)).mono ?_
          rintro e w2 ⟨rfl, rfl⟩
          rw [HF.out]
          go_wp2_with fail
          go_ret
          exact ⟨rfl, hb1⟩
        · have hd2 : decide (1099511627776 < g) = false := by simpa using hgt
          have hm0 : m = 0 := by
            rcases hoff with h | h | h | h
            · cases h
            · exact absurd h h0
            · omega
            · exact h
          subst hm0
          clear hoff
          go_enter Tryd.func4, Tryd.ntmps4
          go_wp2_with fail
          refine (awake54 _ hT.out).mono ?_
          rintro e w1 ⟨rfl, hb1⟩
          go_wp2_with fail
          refine (Few_walk _ ps 6 60 _ (H1.out.below hb1) (by omega)).mono ?_
          rintro e w2 ⟨rfl, rfl⟩
          rw [HF.out]
          go_wp2_with fail
          go_ret
          exact ⟨rfl, hb1⟩

theorem RecordDamage_walk (g : Int) (v : Value) (ps : List (List UInt8)) (cut m : Int) (w : World) (h1 : StrsIn w v ps) (hv : CapOk v) (hm : ps.length ≤ 140737488351232) (hcut : 0 ≤ cut ∧ cut ≤ 65535) (hmask : 0 ≤ m ∧ m ≤ 255) (ht : Tab w) :
    Calls Tryd.prog 4 #[.int .i64 g, v, .int .u16 cut, .int .u8 m] w fun e w' => e = .returned (.bool true) ∧ Below w.heap.size w w' := by
  by_cases hoff : fewB ps 6 60 = false ∨ ps.length = 0 ∨ ¬ (1 ≤ g ∧ g ≤ 1099511627776) ∨ m = 0
  · obtain ⟨a, c, rfl, hc⟩ := id h1
    exact RecordDamage_off g a c ps cut m w h1 hm hoff ht
  · simp only [not_or, Decidable.not_not, Bool.not_eq_false] at hoff
    obtain ⟨hf, h0, hg, hm0⟩ := hoff
    obtain ⟨k, rfl⟩ := Int.eq_ofNat_of_zero_le (show 0 ≤ g by omega)
    rcases h1.split with ⟨rfl, a, c, rfl⟩ | ⟨b, off, c, rfl, hc⟩
    · exact absurd rfl h0
    · obtain ⟨n, rfl⟩ := Int.eq_ofNat_of_zero_le hmask.1
      have hn : (UInt8.ofNat n).toNat = n := by rw [UInt8.toNat_ofNat', Nat.mod_eq_of_lt (by omega)]
      have := RecordDamage_good k b off c ps cut (UInt8.ofNat n) w hc hv hf (by omega) (by omega) (by intro h; rw [h] at hn; simp at hn; omega) hcut ht
      rwa [hn] at this
end Go.Proofs.YtcbapogicjhkjaaDoor
