/- Generation of package record. -/
import Derived.Test.YtcbapogicjhkjaaDoorWalkRec
namespace Go.Proofs.YtcbapogicjhkjaaDoor
open Go.RowKit Go.Lib

open Classical in
/-- The generation for which there is a record at the front of some bytes, if there is one. -/
noncomputable def genL (d : List UInt8) : Option Nat := if h : ∃ g, (1 ≤ g ∧ g ≤ 1099511627776) ∧ ∃ p, IsRec d g p then some h.choose else none
theorem genL_some {d : List UInt8} {g : Nat} : genL d = some g ↔ (1 ≤ g ∧ g ≤ 1099511627776) ∧ ∃ p, IsRec d g p := by
  unfold genL
  constructor
  · intro h
    split at h
    · rename_i hx
      simp only [Option.some.injEq] at h
      rw [← h]; exact hx.choose_spec
    · cases h
  · intro h
    rw [dif_pos ⟨g, h⟩]
    have hx := Exists.choose_spec (⟨g, h⟩ : ∃ g, (1 ≤ g ∧ g ≤ 1099511627776) ∧ ∃ p, IsRec d g p)
    obtain ⟨h1, p1, h2⟩ := hx
    obtain ⟨h3, p2, h4⟩ := h
    exact congrArg some (h2.uniqueGen h4 (by omega) (by omega))
theorem genL_none {d : List UInt8} : genL d = none ↔ ∀ g, 1 ≤ g ∧ g ≤ 1099511627776 → decL d g = none := by
  constructor
  · intro h g hg
    refine decL_none.2 fun p hp => ?_
    rw [genL_some.2 ⟨hg, p, hp⟩] at h
    cases h
  · intro h
    unfold genL
    rw [dif_neg]
    rintro ⟨g, hg, p, hp⟩
    have := decL_none.1 (h g hg) p
    exact this hp
def genRes : Option Nat → Value
  | some g => .tuple #[.int .i64 (g : Int), .bool true]
  | none => .tuple #[.int .i64 0, .bool false]

set_option maxHeartbeats 2000000 in
set_option maxRecDepth 100000 in
theorem Generation_walk (data : ByteArray) (w : World) (hs : data.size ≤ 4611686018427387904) :
    Calls Tryd.prog 20 #[.string data] w fun e w' => e = .returned (genRes (genL (bs data))) ∧ Below w.heap.size w w' := by
  by_cases hshort : data.size < 41
  · have hd : genL (bs data) = none := genL_none.2 fun g _ => decL_none.2 fun p hp => by
      have := hp.len
      rw [bs_length] at this
      omega
    have HD := Lib.hid hd
    clear hd
    go_enter Tryd.func20, Tryd.ntmps20
    go_wp2_with fail
    go_ret2
    exact ⟨by rw [HD.out]; rfl, Below.refl _ _⟩
  cases hn : numI (bs (data.extract 17 33)) with
  | none =>
    have hd : genL (bs data) = none := genL_none.2 fun g hg => decL_none.2 fun p hp => by
      have := hp.genNum (by omega)
      rw [bs_mid] at hn
      rw [hn] at this
      cases this
    have HD := Lib.hid hd
    have HN := Lib.hid hn
    clear hd hn
    go_enter Tryd.func20, Tryd.ntmps20
    go_wp2_with fail
    refine (number_u64_walk _ _ (by rw [size_mid _ _ _ (by omega)]; decide)).mono ?_
    rintro e w1 ⟨rfl, n1, rfl⟩
    rw [HN.out]
    go_wp2_with fail
    go_ret2
    exact ⟨by rw [HD.out]; rfl, below_of_drewN _⟩
  | some n =>
    have hr := numI_range _ n hn
    obtain ⟨m, rfl⟩ := Int.eq_ofNat_of_zero_le hr.1
    have hno : (∀ g, g = m → 1 ≤ g ∧ g ≤ 1099511627776 → decL (bs data) g = none) → genL (bs data) = none := fun hx => genL_none.2 fun g hg => by
      by_cases hgm : g = m
      · exact hx g hgm hg
      · refine decL_none.2 fun p hp => hgm ?_
        have h3 := hp.genNum (by omega)
        rw [bs_mid] at hn
        rw [hn] at h3
        simp only [Option.some.injEq] at h3
        omega
    have HN := Lib.hid hn
    clear hn hr
    by_cases hm : m ≤ 1099511627776
    · by_cases hm1 : 1 ≤ m
      · have ha : decide (1 ≤ (m : Int) ∧ (m : Int) ≤ 1099511627776) = true := by simp; omega
        go_enter Tryd.func20, Tryd.ntmps20
        go_wp2_with fail
        refine (number_u64_walk _ _ (by rw [size_mid _ _ _ (by omega)]; decide)).mono ?_
        rintro e w1 ⟨rfl, n1, rfl⟩
        rw [HN.out]
        go_wp2_with (go_at_call 29; refine (allowed_walk _ _).mono ?_; rintro e w' ⟨rfl, rfl⟩; rw [ha])
        refine (decode_walk data m _ hm1 hm hs).mono ?_
        rintro e w2 ⟨rfl, hb2⟩
        have hb := below_seq (below_of_drewN n1) hb2
        cases hd : decL (bs data) m with
        | none =>
          have HD := Lib.hid (hno fun g hg _ => by rw [hg]; exact hd)
          clear hno hd
          simp only [decRes]
          go_wp2_with fail
          go_ret2
          exact ⟨by rw [HD.out]; rfl, hb⟩
        | some p =>
          have HD := Lib.hid (genL_some.2 ⟨⟨hm1, hm⟩, p, decL_some.1 hd⟩)
          clear hno hd
          simp only [decRes]
          go_wp2_with fail
          go_ret2
          exact ⟨by rw [HD.out]; rfl, hb⟩
      · have HD := Lib.hid (hno fun g hg hg2 => by omega)
        clear hno
        have ha : decide (1 ≤ (m : Int) ∧ (m : Int) ≤ 1099511627776) = false := by simp; omega
        go_enter Tryd.func20, Tryd.ntmps20
        go_wp2_with fail
        refine (number_u64_walk _ _ (by rw [size_mid _ _ _ (by omega)]; decide)).mono ?_
        rintro e w1 ⟨rfl, n1, rfl⟩
        rw [HN.out]
        go_wp2_with (go_at_call 29; refine (allowed_walk _ _).mono ?_; rintro e w' ⟨rfl, rfl⟩; rw [ha])
        go_ret2
        exact ⟨by rw [HD.out]; rfl, below_of_drewN _⟩
    · have HD := Lib.hid (hno fun g hg hg2 => by omega)
      clear hno
      go_enter Tryd.func20, Tryd.ntmps20
      go_wp2_with fail
      refine (number_u64_walk _ _ (by rw [size_mid _ _ _ (by omega)]; decide)).mono ?_
      rintro e w1 ⟨rfl, n1, rfl⟩
      rw [HN.out]
      go_wp2_with fail
      go_ret2
      exact ⟨by rw [HD.out]; rfl, below_of_drewN _⟩

end Go.Proofs.YtcbapogicjhkjaaDoor
