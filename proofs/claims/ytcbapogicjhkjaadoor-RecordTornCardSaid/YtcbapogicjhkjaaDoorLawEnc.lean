/- The laws' own function that encodes some payloads one behind the other. -/
import Derived.Test.YtcbapogicjhkjaaDoorPlain
import Derived.Test.YtcbapogicjhkjaaDoorStrs
namespace Go.Proofs.YtcbapogicjhkjaaDoor
open Go.RowKit Go.Lib

/-- Some numbers as values. -/
def natV (n : Nat) : Value := .int .i64 (n : Int)
def natVs (l : List Nat) : List Value := l.map natV
theorem natVs_length (l : List Nat) : (natVs l).length = l.length := by simp [natVs]
theorem natVs_snoc (l : List Nat) (n : Nat) : natVs (l ++ [n]) = natVs l ++ [.int .i64 (n : Int)] := by simp [natVs, natV]

/-- The value is a slice that reads as these numbers. -/
def NatsAt (w : World) (b : Nat) (l : List Nat) : Prop := ∀ i (_ : i < l.length), w.cell? ⟨b, i, none⟩ = some (.int .i64 (l[i] : Int))
theorem NatsAt.below {w w' : World} {b : Nat} {l : List Nat} (h : NatsAt w b l) (hb : Below w.heap.size w w') : NatsAt w' b l := fun i hi =>
  (hb.cell (p := ⟨b, i, none⟩) (World.block_lt_of_cell? w _ (h i hi))).trans (h i hi)
theorem NatsAt.of_own {w : World} {B n : Nat} {T : TypeId} {v : Value} {l : List Nat} (h : w.ownsRow B T 1 v n (natVs l)) (h0 : l ≠ []) : ∃ b c, v = .slice (some ⟨b, 0, none⟩) l.length c ∧ NatsAt w b l := by
  have hn : n = l.length := by have := h.1; rw [natVs_length] at this; omega
  subst hn
  rcases h.2 with ⟨_, h1⟩ | ⟨g, cap, cur, rfl, hB, hg, hnc, hm, hcs, htk⟩
  · exact absurd (List.eq_nil_of_length_eq_zero h1) h0
  · refine ⟨g, cap, rfl, fun i hi => ?_⟩
    have h1 : cur[i]? = some (natV l[i]) := by
      have h2 : (cur.toList.take (l.length * 1))[i]? = (natVs l)[i]? := by rw [htk]
      rw [List.getElem?_take, if_pos (by omega)] at h2
      simp [natVs, hi] at h2
      simpa using h2
    simp [World.cell?, hg, h1, natV]

theorem infoInt : (Tryd.prog.info? 3).map (fun i => (i.zero, i.size, i.bytes)) = some (some (.int .i64 0), 1, 8) := by kernel_rfl

set_option maxHeartbeats 2000000 in
set_option maxRecDepth 100000 in
theorem lawEncode_some (g : Nat) (b off c : Nat) (ps : List (List UInt8)) (w : World) (h1 : StrsAt w b off ps) (hg : 1 ≤ g ∧ g ≤ 1099511627776) (hp : ∀ p ∈ ps, p.length ≤ 60) (hn : ps.length ≤ 8) :
    Calls Tryd.prog 15 #[.int .i64 g, .slice (some ⟨b, off, none⟩) ps.length c] w fun e w' =>
      (∃ b' c', e = .returned (.tuple #[.string (str (encL g ps)), .slice (some ⟨b', 0, none⟩) (offs ps).length c', .bool true]) ∧ NatsAt w' b' (offs ps)) ∧ Below w.heap.size w w' := by
  obtain ⟨i0, hi, hz0, hz1, hz2⟩ := info_parts infoInt
  have H1 := Lib.hid h1
  have HP := Lib.hid hp
  clear h1 hp
  go_enter Tryd.func15, Tryd.ntmps15
  go_wp2_with fail
  go_loopw [7, 8, 16] (fun v7 v8 v16 wr => ∃ k : Nat, k ≤ ps.length ∧ v7 = .string (str (encL g (ps.take k))) ∧ v16 = .int .i64 k ∧ Hid (wr.ownsRow w.heap.size 3 1 v8 (k + 1) (natVs (offs (ps.take k)))) ∧ Hid (Below w.heap.size w wr)) (fun _ _ i _ => ps.length - (RowKit.intOf i).toNat)
  case atStart => exact ⟨0, Nat.zero_le _, rfl, rfl, Lib.hid (World.ownsRow_lit w _ 1 (Nat.le_refl _) (by decide) rfl), Lib.hid ((Below.refl _ _).alloc (Nat.le_refl _) _)⟩
  case round =>
    obtain ⟨k, hk, rfl, rfl, hown, hb⟩ := hrel
    by_cases hlt : k < ps.length
    · have hcell : wr.cell? ⟨b, off + k, none⟩ = some (.string (str ps[k])) := H1.out.below hb.out k hlt
      have hlen : ps[k].length ≤ 60 := HP.out _ (List.getElem_mem hlt)
      have hne : (str (recL g ps[k])).toList.isEmpty = false := by
        rw [toList_bs, bs_str, List.isEmpty_eq_false_iff]
        intro h
        have := congrArg List.length h
        rw [recL_length] at this
        simp at this
      have hrz : (str (recL g ps[k])).size = 50 + 2 * ps[k].length := by rw [str_size, recL_length]
      have hkz : (str (encL g (ps.take k))).size = offL (ps.take k) := by rw [str_size, encL_length]
      have hcat : str (encL g (List.take k ps)) ++ str (recL g ps[k]) = str (encL g (ps.take (k + 1))) := by rw [take_snoc' ps k hlt, encL_snoc, str_append]
      have hz : (str (encL g (ps.take (k + 1)))).size = offL (ps.take (k + 1)) := by rw [str_size, encL_length]
      have hoff : offL (ps.take (k + 1)) ≤ 1500 := by
        have h1 := offL_take_le ps (k + 1)
        have h2 := offL_bound ps 60 HP.out
        omega
      go_wp2_with fail
      refine (encode_walk g _ _ hg.1 hg.2 (by rw [str_size]; omega)).mono ?_
      rintro e w1 ⟨rfl, hb1⟩
      rw [bs_str]
      have hoff2 : offL (ps.take k) ≤ 1500 := by rw [offL_take_succ ps k hlt] at hoff; omega
      go_wp2_with (at_builtin; refine wpList_append_own _ rfl _ _ 30 rfl w.heap.size 3 i0 (.int .i64 0) 1 8 Tryd.underlying30 hi hz0 hz1 hz2 rfl (by decide) _ _ _ rfl ((ownsRow_old hown.out hb1).alloc _) ⟨w1.heap.size, 0, none⟩ 1 1 [.int .i64 ((offL (ps.take (k + 1)) : Nat) : Int)] rfl rfl ?c1 ?c2 ?c3 ?c4 ?c5 ?_)
      case c1 => exact cell_one_new _ _ _
      case c2 => intro u hu; simp at hu; subst hu; rfl
      case c3 => unfold maxLen; omega
      case c4 => omega
      case c5 => have := hb.out.size; have := hb1.size; simp; omega
      intro v' w2 hown2 hgr _
      have hown3 : w2.ownsRow w.heap.size 3 1 v' (k + 1 + 1) (natVs (offs (ps.take (k + 1)))) := by
        rw [take_snoc' ps k hlt, offs_snoc, natVs_snoc, ← take_snoc' ps k hlt]; exact hown2
      have hb2 : Below w.heap.size w w2 := ((below_seq hb.out hb1).alloc (by have := hb.out.size; have := hb1.size; omega) _).grown hgr (by have := hb.out.size; have := hb1.size; simp; omega) (fun q hq => (hown.out.lt q hq).1)
      have hOwn := Lib.hid hown3
      have hB2 := Lib.hid hb2
      clear hown2 hown3 hgr hb2 hb1 hown hb
      go_wp2_with fail
      exact ⟨⟨k + 1, by omega, rfl, by simp, hOwn, hB2⟩, by simp [RowKit.intOf]; omega⟩
    · have hkk : k = ps.length := by omega
      subst hkk
      rw [List.take_length]
      rw [List.take_length] at hown
      obtain ⟨b', c', hv, hc⟩ := NatsAt.of_own hown.out (by intro h; have := offs_length ps; rw [h] at this; simp at this)
      subst hv
      have HC := Lib.hid hc
      clear hc
      go_wp2_with fail
      go_ret3
      exact ⟨⟨b', c', rfl, HC.out⟩, hb.out⟩

set_option maxHeartbeats 1000000 in
theorem lawEncode_empty (g : Int) (a : Option Addr) (c : Nat) (w : World) :
    Calls Tryd.prog 15 #[.int .i64 g, .slice a 0 c] w fun e w' =>
      (∃ b' c', e = .returned (.tuple #[.string (str []), .slice (some ⟨b', 0, none⟩) 1 c', .bool true]) ∧ NatsAt w' b' [0]) ∧ Below w.heap.size w w' := by
  go_enter Tryd.func15, Tryd.ntmps15
  go_wp2_with fail
  refine wp_loop_rounds 1 ?_
  rw [rounds_succ]
  go_wp2_with fail
  go_ret3
  refine ⟨⟨_, _, rfl, fun i hi => ?_⟩, (Below.refl _ _).alloc (Nat.le_refl _) _⟩
  have h0 : i = 0 := by simp at hi; omega
  subst h0
  exact cell_one_new _ _ _ 0 _ rfl

/-- What it returns. -/
theorem lawEncode_walk (g : Nat) (v : Value) (ps : List (List UInt8)) (w : World) (h1 : StrsIn w v ps) (hg : 1 ≤ g ∧ g ≤ 1099511627776) (hp : ∀ p ∈ ps, p.length ≤ 60) (hn : ps.length ≤ 8) :
    Calls Tryd.prog 15 #[.int .i64 g, v] w fun e w' =>
      (∃ b' c', e = .returned (.tuple #[.string (str (encL g ps)), .slice (some ⟨b', 0, none⟩) (offs ps).length c', .bool true]) ∧ NatsAt w' b' (offs ps)) ∧ Below w.heap.size w w' := by
  rcases h1.split with ⟨rfl, a, c, rfl⟩ | ⟨b, off, c, rfl, hc⟩
  · exact lawEncode_empty g a c w
  · exact lawEncode_some g b off c ps w hc hg hp hn

theorem few_true {ps : List (List UInt8)} {m n : Int} (h : fewB ps m n = true) : (∀ p ∈ ps, (p.length : Int) ≤ n) ∧ (ps.length : Int) ≤ m := by
  unfold fewB at h
  simp only [Bool.and_eq_true, List.all_eq_true, decide_eq_true_eq] at h
  exact h
end Go.Proofs.YtcbapogicjhkjaaDoor
