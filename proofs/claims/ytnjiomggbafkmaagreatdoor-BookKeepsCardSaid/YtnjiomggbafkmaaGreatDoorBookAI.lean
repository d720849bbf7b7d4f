/- EncodeEvent of package book. -/
import Derived.Test.YtnjiomggbafkmaaGreatDoorBookAH
import Derived.Test.YtnjiomggbafkmaaGreatDoorPackB
namespace Go.Proofs.YtnjiomggbafkmaaGreatDoor
open Go.RowKit Go.Lib

/-- The fields of an event's text. -/
def evFields (e : BEv) : List (List UInt8) := [decDigits e.kind.toNat, e.key.st, e.key.ex, decDigits e.key.att.toNat, decDigits e.tick.toNat, decDigits e.ver.toNat, decDigits e.hun.toNat, e.text, if e.acc then [49] else [48]]
theorem evB_nums {e : BEv} (h : evB e = true) : (0 ≤ e.key.att ∧ e.key.att ≤ 16) ∧ (0 ≤ e.tick ∧ e.tick ≤ 1099511627776) ∧ (0 ≤ e.ver ∧ e.ver ≤ 1048576) ∧ 0 ≤ e.hun ∧ e.hun ≤ 100000000 := by
  unfold evB keyB at h
  simp only [Bool.and_eq_true, decide_eq_true_eq] at h
  obtain ⟨⟨⟨⟨⟨⟨h1, h2⟩, ⟨⟨h3, h4⟩, h5⟩, h6⟩, h7⟩, h8⟩, h9⟩, h10⟩ := h
  refine ⟨⟨by omega, h6⟩, ⟨h7, h8⟩, ?_⟩
  by_cases hk : e.kind = 1
  · rw [if_pos hk] at h10
    simp only [Bool.and_eq_true, decide_eq_true_eq] at h10
    omega
  · rw [if_neg hk] at h10
    simp only [Bool.and_eq_true, decide_eq_true_eq] at h10
    omega
theorem decDigits_step (n : Nat) (h : ¬ n < 10) : decDigits n = decDigits (n / 10) ++ [UInt8.ofNat (48 + n % 10)] := by
  rw [decDigits, dif_neg h]
theorem digit_toNat (k : Nat) (h : k < 10) : (UInt8.ofNat (48 + k)).toNat = 48 + k := by
  rw [UInt8.toNat_ofNat', Nat.mod_eq_of_lt (by omega)]
theorem decDigits_len (k : Nat) : ∀ m, m < 10 ^ (k + 1) → (decDigits m).length ≤ k + 1 := by
  induction k with
  | zero => intro m h; rw [decDigits_one (by simpa using h)]; simp
  | succ k ih =>
    intro m h
    by_cases h10 : m < 10
    · rw [decDigits_one h10]; simp
    · rw [decDigits_step m h10, List.length_append]
      have := ih (m / 10) (by rw [Nat.pow_succ] at h; omega)
      simp; omega

theorem digits_room (n k : Nat) (h : n < 10 ^ (k + 1)) : (packF (decDigits n)).length ≤ 2 * k + 4 := by
  have h1 := decDigits_len k n h
  rw [packF_length]
  have h2 : (decDigits (decDigits n).length).length ≤ k + 1 + 1 := decDigits_len (k + 1) _ (by
    have : k + 1 < 10 ^ (k + 1) := Nat.lt_pow_self (by decide)
    have : 10 ^ (k + 1) ≤ 10 ^ (k + 1 + 1) := Nat.pow_le_pow_right (by decide) (by omega)
    omega)
  omega
theorem evFields_len {e : BEv} (h : evB e = true) : (packL (evFields e)).length ≤ 30000 := by
  have hl := evB_lens h
  have hnm := evB_nums h
  have f : ∀ s : List UInt8, s.length ≤ 4096 → (packF s).length ≤ 4 + 1 + 4096 := fun s hs => by
    have := decDigits_len 3 s.length (by omega)
    rw [packF_length]; omega
  have g : ∀ n : Nat, n < 10 ^ 20 → (packF (decDigits n)).length ≤ 42 := fun n hn => digits_room n 19 hn
  have e1 := g e.kind.toNat (by omega)
  have e2 := f e.key.st (by omega)
  have e3 := f e.key.ex (by omega)
  have e4 := g e.key.att.toNat (by omega)
  have e5 := g e.tick.toNat (by omega)
  have e6 := g e.ver.toNat (by omega)
  have e7 := g e.hun.toNat (by omega)
  have e8 := f e.text (by omega)
  have e9 := f (if e.acc then [49] else [48]) (by split <;> decide)
  unfold evFields packL
  simp only [List.flatMap_cons, List.flatMap_nil, List.append_nil, List.length_append]
  omega
theorem evFields_res {e : BEv} (h : evB e = true) : packRes (evFields e) = .tuple #[.string (str (packL (evFields e))), .int .i64 0] := if_pos ⟨by simp [evFields], evFields_len h⟩

set_option maxHeartbeats 4000000 in
set_option maxRecDepth 100000 in
theorem EncodeEvent_walk (e : BEv) (w : World) (h : evB e = true) (ht : Tab w) :
    Calls Tryz.prog 38 #[evV e] w fun z w' => z = .returned (.tuple #[.string (str (packL (evFields e))), .int .i64 0]) ∧ Below w.heap.size w w' := by
  have hl := evB_lens h
  have hnm := evB_nums h
  have hres := evFields_res h
  have hpl := evFields_len h
  have VE := validEvent_walk e (w.alloc (.cells #[.int .i64 e.kind, .string (str e.key.st), .string (str e.key.ex), .int .i64 e.key.att, .int .i64 e.tick, .int .i64 e.ver, .int .i64 e.hun, .string (str e.text), .bool e.acc] 26)) (by omega) (by omega) (by omega)
  rw [h] at VE
  have hK : BoxEv w.heap.size e (w.alloc (.cells #[.int .i64 e.kind, .string (str e.key.st), .string (str e.key.ex), .int .i64 e.key.att, .int .i64 e.tick, .int .i64 e.ver, .int .i64 e.hun, .string (str e.text), .bool e.acc] 26)) := Blk.new w 26 #[.int .i64 e.kind, .string (str e.key.st), .string (str e.key.ex), .int .i64 e.key.att, .int .i64 e.tick, .int .i64 e.ver, .int .i64 e.hun, .string (str e.text), .bool e.acc]
  have hB : Below w.heap.size w (w.alloc (.cells #[.int .i64 e.kind, .string (str e.key.st), .string (str e.key.ex), .int .i64 e.key.att, .int .i64 e.tick, .int .i64 e.ver, .int .i64 e.hun, .string (str e.text), .bool e.acc] 26)) := (Below.refl _ _).alloc (Nat.le_refl _) _
  obtain ⟨S, hSd⟩ : ∃ S, S = fun W => BoxEv w.heap.size e W ∧ Below w.heap.size w W := ⟨_, rfl⟩
  have KS : ∀ W W', Holds S W → Below W.heap.size W W' → Holds S W' := fun W W' h1 h2 => by
    rw [hSd] at h1 ⊢
    obtain ⟨x1, x2⟩ := (show _ ∧ _ from h1)
    exact (show _ ∧ _ from ⟨x1.below h2, below_seq x2 h2⟩)
  have hS : ∀ W, Holds S W → BoxEv w.heap.size e W ∧ Below w.heap.size w W := fun W h => by rw [hSd] at h; exact h
  have hS0 : ∀ W, BoxEv w.heap.size e W → Below w.heap.size w W → Holds S W := fun W h1 h2 => by rw [hSd]; exact (show _ ∧ _ from ⟨h1, h2⟩)
  obtain ⟨nk, hk⟩ : ∃ n : Nat, e.kind = (n : Int) := ⟨e.kind.toNat, by omega⟩
  obtain ⟨na, ha⟩ : ∃ n : Nat, e.key.att = (n : Int) := ⟨e.key.att.toNat, by omega⟩
  obtain ⟨nt, hnt⟩ : ∃ n : Nat, e.tick = (n : Int) := ⟨e.tick.toNat, by omega⟩
  obtain ⟨nv, hnv⟩ : ∃ n : Nat, e.ver = (n : Int) := ⟨e.ver.toNat, by omega⟩
  obtain ⟨nh, hnh⟩ : ∃ n : Nat, e.hun = (n : Int) := ⟨e.hun.toNat, by omega⟩
  have b0 : ∀ W, Holds S W → W.cell? ⟨w.heap.size, 0, none⟩ = some (.int .i64 nk) := fun W h => by rw [← hk]; exact (hS W h).1.cells.1
  have b1 : ∀ W, Holds S W → W.cell? ⟨w.heap.size, 1, none⟩ = some (.string (str e.key.st)) := fun W h => (hS W h).1.cells.2.1
  have b2 : ∀ W, Holds S W → W.cell? ⟨w.heap.size, 2, none⟩ = some (.string (str e.key.ex)) := fun W h => (hS W h).1.cells.2.2.1
  have b3 : ∀ W, Holds S W → W.cell? ⟨w.heap.size, 3, none⟩ = some (.int .i64 na) := fun W h => by rw [← ha]; exact (hS W h).1.cells.2.2.2.1
  have b4 : ∀ W, Holds S W → W.cell? ⟨w.heap.size, 4, none⟩ = some (.int .i64 nt) := fun W h => by rw [← hnt]; exact (hS W h).1.cells.2.2.2.2.1
  have b5 : ∀ W, Holds S W → W.cell? ⟨w.heap.size, 5, none⟩ = some (.int .i64 nv) := fun W h => by rw [← hnv]; exact (hS W h).1.cells.2.2.2.2.2.1
  have b6 : ∀ W, Holds S W → W.cell? ⟨w.heap.size, 6, none⟩ = some (.int .i64 nh) := fun W h => by rw [← hnh]; exact (hS W h).1.cells.2.2.2.2.2.2.1
  have b7 : ∀ W, Holds S W → W.cell? ⟨w.heap.size, 7, none⟩ = some (.string (str e.text)) := fun W h => (hS W h).1.cells.2.2.2.2.2.2.2.1
  have hn1 : nk < 9223372036854775808 ∧ na < 9223372036854775808 ∧ nt < 9223372036854775808 ∧ nv < 9223372036854775808 ∧ nh < 9223372036854775808 := by omega
  have IT := fun (n : Nat) (hn : n < 9223372036854775808) (W : World) (hW : Holds S W) => itoa_walk n W hn (ht.below (hS W hW).2)
  have hF : evFields e = [decDigits nk, e.key.st, e.key.ex, decDigits na, decDigits nt, decDigits nv, decDigits nh, e.text, if e.acc then [49] else [48]] := by
    unfold evFields; rw [hk, ha, hnt, hnv, hnh]; rfl
  obtain ⟨cc, hcc⟩ : ∃ cc : List UInt8, cc = if e.acc then [49] else [48] := ⟨_, rfl⟩
  rw [← hcc] at hF
  rw [hF] at hres hpl
  rw [hF]
  replace hcc := Lib.hid hcc
  have q8 := hK.cells.2.2.2.2.2.2.2.2
  have HK := Lib.hid hK
  have HB := Lib.hid hB
  replace VE := Lib.hid VE
  replace IT := Lib.hid IT
  replace hres := Lib.hid hres
  replace hpl := Lib.hid hpl
  replace hS := Lib.hid hS
  replace hS0 := Lib.hid hS0
  have HT := Lib.hid ht
  clear hK hB hSd hF hk ha hnt hnv hnh hl hnm h ht q8
  go_enter Tryz.func38, Tryz.ntmps38
  go_wp2_with fail
  refine VE.out.mono ?_
  rintro z w1 ⟨rfl, hb1⟩
  have hSw : Holds S w1 := hS0.out _ (HK.out.below hb1) (below_seq HB.out hb1)
  have q8 := (hS.out _ hSw).1.cells.2.2.2.2.2.2.2.2
  have HSw := Lib.hid hSw
  clear hSw hb1
  cases hac : e.acc with
  | true =>
    have hcc2 := hcc.out
    rw [hac, if_pos rfl] at hcc2
    rw [hcc2] at hres hpl
    replace hcc2 := Lib.hid hcc2
    have PK := fun (W : World) (hW : Holds S (W.alloc (.cells (strVs [decDigits nk, e.key.st, e.key.ex, decDigits na, decDigits nt, decDigits nv, decDigits nh, e.text, [49]]).toArray 9))) => Pack_some W.heap.size 0 9 [decDigits nk, e.key.st, e.key.ex, decDigits na, decDigits nt, decDigits nv, decDigits nh, e.text, [49]] (W.alloc (.cells (strVs [decDigits nk, e.key.st, e.key.ex, decDigits na, decDigits nt, decDigits nv, decDigits nh, e.text, [49]]).toArray 9)) (StrsAt.lit W 9 _) (by simp) (by have := hpl.out; omega) (HT.out.below (hS.out _ hW).2)
    rw [hres.out] at PK
    replace PK := Lib.hid PK
    rw [hac] at q8
    go_wp2_with fail
    clear q8 VE HK HB
    go_region_held3 (Holds S) (first | exact KS w1 _ HSw.out (Below.refl _ _).drew | exact KS _ _ (by assumption) hb2 | exact KS _ _ (by assumption) ((Below.refl _ _).alloc (Nat.le_refl _) _))
      (first
        | (go_at_call 67; refine (IT.out _ (by omega) _ (by assumption)).mono ?_; rintro z w2 ⟨rfl, hb2⟩)
        | (go_at_call 58; refine (PK.out _ (by assumption)).mono ?_; rintro z w2 ⟨rfl, hb2⟩))
    have hfin := Lib.hid (hS.out _ (show Holds S w2 by assumption)).2
    go_wp2_with fail
    go_ret2
    exact ⟨by rw [hcc2.out]; rfl, hfin.out⟩
  | false =>
    have hcc2 := hcc.out
    rw [hac, if_neg (by decide)] at hcc2
    rw [hcc2] at hres hpl
    replace hcc2 := Lib.hid hcc2
    have PK := fun (W : World) (hW : Holds S (W.alloc (.cells (strVs [decDigits nk, e.key.st, e.key.ex, decDigits na, decDigits nt, decDigits nv, decDigits nh, e.text, [48]]).toArray 9))) => Pack_some W.heap.size 0 9 [decDigits nk, e.key.st, e.key.ex, decDigits na, decDigits nt, decDigits nv, decDigits nh, e.text, [48]] (W.alloc (.cells (strVs [decDigits nk, e.key.st, e.key.ex, decDigits na, decDigits nt, decDigits nv, decDigits nh, e.text, [48]]).toArray 9)) (StrsAt.lit W 9 _) (by simp) (by have := hpl.out; omega) (HT.out.below (hS.out _ hW).2)
    rw [hres.out] at PK
    replace PK := Lib.hid PK
    rw [hac] at q8
    go_wp2_with fail
    clear q8 VE HK HB
    go_region_held3 (Holds S) (first | exact KS w1 _ HSw.out (Below.refl _ _).drew | exact KS _ _ (by assumption) hb2 | exact KS _ _ (by assumption) ((Below.refl _ _).alloc (Nat.le_refl _) _))
      (first
        | (go_at_call 67; refine (IT.out _ (by omega) _ (by assumption)).mono ?_; rintro z w2 ⟨rfl, hb2⟩)
        | (go_at_call 58; refine (PK.out _ (by assumption)).mono ?_; rintro z w2 ⟨rfl, hb2⟩))
    have hfin := Lib.hid (hS.out _ (show Holds S w2 by assumption)).2
    go_wp2_with fail
    go_ret2
    exact ⟨by rw [hcc2.out]; rfl, hfin.out⟩
end Go.Proofs.YtnjiomggbafkmaaGreatDoor
