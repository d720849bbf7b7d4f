/- slices.Clone at grades and appeals; clone of package book. -/
import Derived.Test.YtnjiomggbafkmaaGreatDoorBookAA
import Derived.Laws.CopyOwn
import Derived.WalkSpells
namespace Go.Proofs.YtnjiomggbafkmaaGreatDoor
open Go.RowKit Go.Lib

/-- 'copy' of elements of k cells onto a whole row. -/
theorem run_copyK {P : Program} (w : World) (dT sT ty elem : TypeId) (g n dCap sCap k : Nat) (a : Addr) (cur : Array Value) (t : TypeId) (cs : List Value)
    (hu : P.underlying dT = some (.slice elem)) (hs : (P.info? elem).map (·.size) = some k)
    (hg : w.heap[g]? = some (.cells cur t (0, 0))) (hn : cs.length = n * k) (hsrc : ∀ j v, cs[j]? = some v → w.cell? (a.add j) = some v) (hfit : cur.size = cs.length) (h1 : ∀ v ∈ cs, v.oneCell' = true) :
    (Builtin.copy_ #[dT, sT] ty #[.slice (some ⟨g, 0, none⟩) n dCap, .slice (some a) n sCap]).run P w = .ok (goInt n) (w.setRow g cs.toArray) := by
  have hl := run_loadCells_list (P := P) w a cs hsrc
  have hst := run_storeCells_at P g 0 t cs 0 cur w hg (by simp; omega) h1
  rw [List.drop_eq_nil_of_le (by simp; omega)] at hst
  cases hq : P.info? elem with
  | none => simp [hq] at hs
  | some i =>
    have hi : i.size = k := by simpa [hq] using hs
    simp at hst
    simp [Builtin.copy_, run_underlying hu, Builtin.lenOf, Builtin.firstCells, sizeOf, typeInfo, hq, hi, ← hn, hl, hst]
theorem wpList_copyK {P : Program} {w : World} {ops : Array Oper} {rest : List Oper} {o : Oper} {a : Act} {Q : Exit → Act → World → Prop} (hgd : o.guard = none) (d s : Operand) (dT sT : TypeId)
    (ho : o.op = .call { callee := .builtin .copy, args := #[d, s], argTypes := #[dT, sT] }) (elem : TypeId) (hu : P.underlying dT = some (.slice elem)) (k : Nat) (hsz : (P.info? elem).map (·.size) = some k)
    (g n dCap sCap : Nat) (ad : Addr) (hd : a.eval d = .slice (some ⟨g, 0, none⟩) n dCap) (hs : a.eval s = .slice (some ad) n sCap)
    (cur : Array Value) (t : TypeId) (hg : w.heap[g]? = some (.cells cur t (0, 0))) (cs : List Value) (hn : cs.length = n * k) (hsrc : ∀ j v, cs[j]? = some v → w.cell? (ad.add j) = some v) (hfit : cur.size = cs.length) (h1 : ∀ v ∈ cs, v.oneCell' = true)
    (h : wpList P ops Q rest (a.put o.dst (goInt n)) (w.setRow g cs.toArray)) : wpList P ops Q (o :: rest) a w := by
  refine wpList_plain hgd fun K hK => ?_
  have hrun := run_copyK (P := P) w dT sT o.type elem g n dCap sCap k ad cur t cs hu hsz hg hn hsrc hfit h1
  unfold Oper.wp
  simp [execOp, ho, resolve, invoke, builtin, hd, hs, hrun, Result.andThen]
  exact hK _ _ h
/-- The cells of a row of elements, one by one. -/
theorem rowsAt_flat {α : Type} {f : α → List Value} {k : Nat} {w : World} {b off : Nat} {xs : List α} (hk : ∀ x, (f x).length = k) (hk0 : 0 < k) (h : RowsAt f k w b off xs) : ∀ j u, (flatCs f xs)[j]? = some u → w.cell? ((⟨b, off, none⟩ : Addr).add j) = some u := by
  intro j u hj
  rw [Addr.add_mid]
  have hlt : j < (flatCs f xs).length := (List.getElem?_eq_some_iff.1 hj).1
  rw [flatCs_length hk] at hlt
  have hq : j / k < xs.length := by rw [Nat.div_lt_iff_lt_mul hk0]; exact hlt
  have hr : j % k < k := Nat.mod_lt _ hk0
  have hjj : j = j / k * k + j % k := by rw [Nat.mul_comm]; exact (Nat.div_add_mod j k).symm
  have h1 := flatCs_get hk xs (j / k) hq (j % k) (by rw [hk]; exact hr)
  rw [← hjj, hj] at h1
  have h2 := h (j / k) hq (j % k) (by rw [hk]; exact hr)
  rw [Nat.add_assoc, ← hjj] at h2
  rw [h2, h1]
theorem flat_one {α : Type} {f : α → List Value} (h : ∀ x, ∀ u ∈ f x, u.oneCell' = true) (xs : List α) : ∀ u ∈ flatCs f xs, u.oneCell' = true := by
  intro u hu
  obtain ⟨x, _, hx⟩ := List.mem_flatMap.1 hu
  exact h x u hx
theorem grCs_one (x : BGr) : ∀ u ∈ grCs x, u.oneCell' = true := by intro u hu; simp at hu; rcases hu with rfl | rfl | rfl | rfl <;> rfl
theorem apCs_one (x : BAp) : ∀ u ∈ apCs x, u.oneCell' = true := by intro u hu; simp at hu; rcases hu with rfl | rfl | rfl | rfl | rfl | rfl <;> rfl

set_option maxHeartbeats 1000000 in
set_option maxRecDepth 100000 in
theorem cloneGr_nil (c : Nat) (w : World) : Calls Tryz.prog 74 #[.slice none 0 c] w fun z w' => z = .returned (.slice none 0 0) ∧ Below w.heap.size w w' := by
  have hnil : ∀ W, (binOp .eql 36 (.slice none 0 c) (.slice none 0 0)).run Tryz.prog W = .ok (.bool true) W := fun W => Lib.run_eql_slice_nil W 36 42 none 0 c 0 0 Tryz.underlying36
  go_enter Tryz.func74, Tryz.ntmps74
  go_wp2_with fail
  go_ret
  exact ⟨rfl, Below.refl _ _⟩
set_option maxHeartbeats 1000000 in
set_option maxRecDepth 100000 in
theorem cloneGr_some (ad : Addr) (c : Nat) (xs : List BGr) (w : World) (hx : ∀ j u, (flatCs grCs xs)[j]? = some u → w.cell? (ad.add j) = some u) (hlt : xs ≠ [] → ad.block < w.heap.size) (hn : xs.length ≤ 1000000000) :
    Calls Tryz.prog 74 #[.slice (some ad) xs.length c] w fun z w' => ∃ v', z = .returned v' ∧ w'.ownsRow w.heap.size 42 4 v' xs.length (flatCs grCs xs) ∧ Below w.heap.size w w' := by
  obtain ⟨i0, hi, hz0, hz1, hz2⟩ := info_parts infoGr
  have hown := World.ownsRow_lit (base := w.heap.size) (e := 42) (size := 4) w #[] 0 (Nat.le_refl _) (by decide) rfl
  have hb := (Below.refl w.heap.size w).alloc (Nat.le_refl _) (.cells #[] 42)
  have hx' : ∀ j u, (flatCs grCs xs)[j]? = some u → (w.alloc (.cells #[] 42)).cell? (ad.add j) = some u := fun j u h => by
    have h1 := hx j u h
    have hne : xs ≠ [] := by intro e; rw [e] at h; simp [flatCs] at h
    exact (hb.cell (by show (ad.add j).block < _; have : (ad.add j).block = ad.block := by unfold Addr.add; split <;> rfl
                       rw [this]; exact hlt hne)).trans h1
  have HX := Lib.hid hx'
  have HO := Lib.hid hown
  have HB := Lib.hid hb
  have hnil : ∀ W, (binOp .eql 36 (.slice (some ad) xs.length c) (.slice none 0 0)).run Tryz.prog W = .ok (.bool false) W := fun W => Lib.run_eql_slice_nil W 36 42 (some ad) xs.length c 0 0 Tryz.underlying36
  clear hx hx' hlt hown hb
  go_enter Tryz.func74, Tryz.ntmps74
  go_wp2_with (at_builtin; refine wpList_append_own _ rfl _ _ 36 rfl w.heap.size 42 i0 grZero 4 40 Tryz.underlying36 hi hz0 hz1 hz2 rfl (by decide) (.slice (some ⟨w.heap.size, 0, none⟩) 0 0) 0 [] rfl HO.out ad xs.length c (flatCs grCs xs) rfl ?c1 HX.out (flat_one grCs_one xs) ?c3 ?c4 ?c5 ?_)
  case c1 => exact flatCs_length grCs_len xs
  case c3 => unfold maxLen; omega
  case c4 => omega
  intro v' w1 hown1 hgr1 _
  have hB1 := HB.out.grown hgr1 (by simp) (fun q hq => (HO.out.lt q hq).1)
  have HO1 := Lib.hid hown1
  have HB1 := Lib.hid hB1
  clear hown1 hgr1 hB1
  go_wp2_with fail
  go_ret
  exact ⟨v', rfl, HO1.out, HB1.out⟩
theorem cloneGr_walk (v : Value) (xs : List BGr) (w : World) (h : RowsIn grCs 4 w v xs) (hn : xs.length ≤ 1000000000) :
    Calls Tryz.prog 74 #[v] w fun z w' => ∃ v', z = .returned v' ∧ w'.ownsRow w.heap.size 42 4 v' xs.length (flatCs grCs xs) ∧ Below w.heap.size w w' := by
  obtain ⟨a, c, rfl, _, hr⟩ := h
  cases a with
  | none =>
    have hx : xs = [] := by
      cases xs with
      | nil => rfl
      | cons x xs => obtain ⟨b, off, e, _⟩ := hr (by simp); cases e
    subst hx
    refine (cloneGr_nil c w).mono ?_
    rintro z w' ⟨rfl, hb⟩
    exact ⟨_, rfl, World.ownsRow_nil _ _ _ _, hb⟩
  | some ad =>
    refine cloneGr_some ad c xs w (fun j u h => ?_) (fun hx => ?_) hn
    · have hx : xs ≠ [] := by intro e; rw [e] at h; simp [flatCs] at h
      obtain ⟨b, off, e, _, h2⟩ := hr hx
      injection e with e
      subst e
      exact rowsAt_flat grCs_len (by decide) h2 j u h
    · obtain ⟨b, off, e, h1, _⟩ := hr hx
      injection e with e
      subst e
      exact h1

set_option maxHeartbeats 1000000 in
set_option maxRecDepth 100000 in
theorem cloneAp_nil (c : Nat) (w : World) : Calls Tryz.prog 75 #[.slice none 0 c] w fun z w' => z = .returned (.slice none 0 0) ∧ Below w.heap.size w w' := by
  have hnil : ∀ W, (binOp .eql 37 (.slice none 0 c) (.slice none 0 0)).run Tryz.prog W = .ok (.bool true) W := fun W => Lib.run_eql_slice_nil W 37 44 none 0 c 0 0 Tryz.underlying37
  go_enter Tryz.func75, Tryz.ntmps75
  go_wp2_with fail
  go_ret
  exact ⟨rfl, Below.refl _ _⟩
set_option maxHeartbeats 1000000 in
set_option maxRecDepth 100000 in
theorem cloneAp_some (ad : Addr) (c : Nat) (xs : List BAp) (w : World) (hx : ∀ j u, (flatCs apCs xs)[j]? = some u → w.cell? (ad.add j) = some u) (hlt : xs ≠ [] → ad.block < w.heap.size) (hn : xs.length ≤ 1000000000) :
    Calls Tryz.prog 75 #[.slice (some ad) xs.length c] w fun z w' => ∃ v', z = .returned v' ∧ w'.ownsRow w.heap.size 44 6 v' xs.length (flatCs apCs xs) ∧ Below w.heap.size w w' := by
  obtain ⟨i0, hi, hz0, hz1, hz2⟩ := info_parts infoAp
  have hown := World.ownsRow_lit (base := w.heap.size) (e := 44) (size := 6) w #[] 0 (Nat.le_refl _) (by decide) rfl
  have hb := (Below.refl w.heap.size w).alloc (Nat.le_refl _) (.cells #[] 44)
  have hx' : ∀ j u, (flatCs apCs xs)[j]? = some u → (w.alloc (.cells #[] 44)).cell? (ad.add j) = some u := fun j u h => by
    have h1 := hx j u h
    have hne : xs ≠ [] := by intro e; rw [e] at h; simp [flatCs] at h
    exact (hb.cell (by show (ad.add j).block < _; have : (ad.add j).block = ad.block := by unfold Addr.add; split <;> rfl
                       rw [this]; exact hlt hne)).trans h1
  have HX := Lib.hid hx'
  have HO := Lib.hid hown
  have HB := Lib.hid hb
  have hnil : ∀ W, (binOp .eql 37 (.slice (some ad) xs.length c) (.slice none 0 0)).run Tryz.prog W = .ok (.bool false) W := fun W => Lib.run_eql_slice_nil W 37 44 (some ad) xs.length c 0 0 Tryz.underlying37
  clear hx hx' hlt hown hb
  go_enter Tryz.func75, Tryz.ntmps75
  go_wp2_with (at_builtin; refine wpList_append_own _ rfl _ _ 37 rfl w.heap.size 44 i0 apZero 6 56 Tryz.underlying37 hi hz0 hz1 hz2 rfl (by decide) (.slice (some ⟨w.heap.size, 0, none⟩) 0 0) 0 [] rfl HO.out ad xs.length c (flatCs apCs xs) rfl ?c1 HX.out (flat_one apCs_one xs) ?c3 ?c4 ?c5 ?_)
  case c1 => exact flatCs_length apCs_len xs
  case c3 => unfold maxLen; omega
  case c4 => omega
  intro v' w1 hown1 hgr1 _
  have hB1 := HB.out.grown hgr1 (by simp) (fun q hq => (HO.out.lt q hq).1)
  have HO1 := Lib.hid hown1
  have HB1 := Lib.hid hB1
  clear hown1 hgr1 hB1
  go_wp2_with fail
  go_ret
  exact ⟨v', rfl, HO1.out, HB1.out⟩
theorem cloneAp_walk (v : Value) (xs : List BAp) (w : World) (h : RowsIn apCs 6 w v xs) (hn : xs.length ≤ 1000000000) :
    Calls Tryz.prog 75 #[v] w fun z w' => ∃ v', z = .returned v' ∧ w'.ownsRow w.heap.size 44 6 v' xs.length (flatCs apCs xs) ∧ Below w.heap.size w w' := by
  obtain ⟨a, c, rfl, _, hr⟩ := h
  cases a with
  | none =>
    have hx : xs = [] := by
      cases xs with
      | nil => rfl
      | cons x xs => obtain ⟨b, off, e, _⟩ := hr (by simp); cases e
    subst hx
    refine (cloneAp_nil c w).mono ?_
    rintro z w' ⟨rfl, hb⟩
    exact ⟨_, rfl, World.ownsRow_nil _ _ _ _, hb⟩
  | some ad =>
    refine cloneAp_some ad c xs w (fun j u h => ?_) (fun hx => ?_) hn
    · have hx : xs ≠ [] := by intro e; rw [e] at h; simp [flatCs] at h
      obtain ⟨b, off, e, _, h2⟩ := hr hx
      injection e with e
      subst e
      exact rowsAt_flat apCs_len (by decide) h2 j u h
    · obtain ⟨b, off, e, h1, _⟩ := hr hx
      injection e with e
      subst e
      exact h1
end Go.Proofs.YtnjiomggbafkmaaGreatDoor
