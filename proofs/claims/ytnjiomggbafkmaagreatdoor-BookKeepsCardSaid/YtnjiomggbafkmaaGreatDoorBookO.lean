/- open and appeal of package book. -/
import Derived.Test.YtnjiomggbafkmaaGreatDoorBookN
namespace Go.Proofs.YtnjiomggbafkmaaGreatDoor
open Go.RowKit Go.Lib

theorem isOpen_eq {y : BEn} {n : Nat} (hn : n = y.appeals.length) (h : n - 1 < y.appeals.length) : y.isOpen = !y.appeals[n - 1].dec := by
  subst hn
  unfold BEn.isOpen
  rw [List.getLast?_eq_getElem?, List.getElem?_eq_getElem h]
theorem isOpen_nil {y : BEn} (h : y.appeals.length = 0) : y.isOpen = false := by
  unfold BEn.isOpen
  rw [List.length_eq_zero_iff.1 h]; rfl
def apZero : Value := .agg #[.int .i64 0, .string ⟨#[]⟩, .bool false, .bool false, .int .i64 0, .string ⟨#[]⟩]
theorem infoAp : (Tryz.prog.info? 44).map (fun i => (i.zero, i.size, i.bytes)) = some (some apZero, 6, 56) := by kernel_rfl
def newAp (e : BEv) : BAp := ⟨e.tick, e.text, false, false, 0, []⟩
def EnR.withA (r : EnR) (x : BAp) (v : Value) : EnR := ⟨{ r.y with appeals := r.y.appeals ++ [x] }, r.g, v⟩
theorem OwnBld.pushA {B G ge gE c : Nat} {w w1 : World} {tick : Int} {rows : List EnR} {i : Nat} {e : BEv} {gg cap : Nat} (h : OwnBld B w G tick (.slice (some ⟨gE, 0, none⟩) rows.length c) rows) (hi : i < rows.length) (hk : BoxEv ge e w) {o : Obj}
    (h1 : w1.ownsRow B 44 6 (.slice (some ⟨gg, 0, none⟩) (rows[i].y.appeals.length + 1) cap) (rows[i].y.appeals.length + 1) (flatCs apCs rows[i].y.appeals ++ apCs (newAp e))) (hg : (w.drew.alloc o).grownBy w1 rows[i].a.ownBlock)
    (hat : rows[i].a.ownBlock = some gg ∨ gg = w.heap.size + 1) {w0 : World} (hB : Frm B w0 w) :
    w1.cell? ⟨gE, i * 7 + 6, none⟩ = some rows[i].a ∧ w1.frozen? ⟨gE, i * 7 + 6, none⟩ = false ∧ BoxEv ge e w1 ∧ BoxEv ge e (w1.setCell ⟨gE, i * 7 + 6, none⟩ (.slice (some ⟨gg, 0, none⟩) (rows[i].y.appeals.length + 1) cap)) ∧
    (∃ ev', OwnBld B (w1.setCell ⟨gE, i * 7 + 6, none⟩ (.slice (some ⟨gg, 0, none⟩) (rows[i].y.appeals.length + 1) cap)) G tick ev' (rows.set i (rows[i].withA (newAp e) (.slice (some ⟨gg, 0, none⟩) (rows[i].y.appeals.length + 1) cap)))) ∧
    Frm B w0 (w1.setCell ⟨gE, i * 7 + 6, none⟩ (.slice (some ⟨gg, 0, none⟩) (rows[i].y.appeals.length + 1) cap)) := by
  have h0 := h.drew.alloc o
  have hri := h0.own.each _ (List.getElem_mem hi)
  have hE1 : w1.ownsRow B 39 7 (.slice (some ⟨gE, 0, none⟩) rows.length c) rows.length (flatCs enCs rows) := h0.own.ents.kept hg (own_own_ne h0.own.ents hri.2 (by decide))
  have hk0 : BoxEv ge e (w.drew.alloc o) := hk.drew.alloc o
  have hk1 : BoxEv ge e w1 := Blk.grown hk0 hg (fun e => own_blk_ne hri.2 hk0 (by decide) e.symm)
  have hne : ge ≠ gE := fun e => own_blk_ne hE1 hk1 (by decide) (by rw [e]; rfl)
  have hlt := h.blk.lt
  have hle := h.le
  have hgE := (h.own.ents.lt gE rfl).1
  refine ⟨?_, hE1.frozenAt _, hk1, Blk.far hk1 hne _, ⟨_, h0.replace hi (j := 6) (by decide) (r := rows[i].withA (newAp e) (.slice (some ⟨gg, 0, none⟩) (rows[i].y.appeals.length + 1) cap)) rfl hg (.inr rfl) ⟨?_, ?_⟩ (.inl rfl) ?_⟩, ?_⟩
  · exact (hE1.cellAt (i * 7 + 6) (by omega)).trans (flatCs_get enCs_len rows i hi 6 (by simp))
  · exact hri.1.kept hg (own_own_ne hri.1 hri.2 (by decide))
  · have : (rows[i].withA (newAp e) (.slice (some ⟨gg, 0, none⟩) (rows[i].y.appeals.length + 1) cap)).y.appeals = rows[i].y.appeals ++ [newAp e] := rfl
    rw [this, List.length_append, flatCs_append, flatCs_one]; exact h1
  · rcases hat with e | e
    · exact .inl e.symm
    · exact .inr ⟨gg, rfl, by rw [e]; simp⟩
  · refine hB.step ((((Below.refl B w).drew.alloc (by show B ≤ w.heap.size; omega) o).grown hg (by simp; omega) (fun q hq => (hri.2.lt q hq).1)).setCell hgE _) fun g T cs a1 a2 a3 a4 hb => ?_
    have hb0 : Blk (w.drew.alloc o) g T cs := hb.drew.alloc o
    have hb1 := hb0.grown hg (fun e => own_blk_ne hri.2 hb0 (fun e => a3 e.symm) e.symm)
    exact hb1.far (fun e => own_blk_ne hE1 hb1 (fun e => a1 e.symm) (by rw [e]; rfl)) _

theorem OwnBld.readyA {B G ge gE c : Nat} {w0 w : World} {tick : Int} {rows : List EnR} {i : Nat} {e : BEv} {n gc : Nat} {ga : Option Addr} {xs : List BAp} (h : OwnBld B w G tick (.slice (some ⟨gE, 0, none⟩) rows.length c) rows) (hi : i < rows.length) (hk : BoxEv ge e w) (hB : Frm B w0 w) (hgv : rows[i].a = .slice ga n gc) (hxs : xs = rows[i].y.appeals) (hn : n = rows[i].y.appeals.length) :
    w.cell? ⟨gE, i * 7 + 6, none⟩ = some (.slice ga n gc) ∧ (∀ o, (w.alloc o).cell? ⟨gE, i * 7 + 6, none⟩ = some (.slice ga n gc)) ∧ B ≤ w.heap.size ∧ (∀ o, (w.drew.alloc o).ownsRow B 44 6 (.slice ga n gc) n (flatCs apCs xs)) ∧
    (∀ o gg cap w1, w1.ownsRow B 44 6 (.slice (some ⟨gg, 0, none⟩) (n + 1) cap) (n + 1) (flatCs apCs xs ++ apCs (newAp e)) → (w.drew.alloc o).grownBy w1 (Value.slice ga n gc).ownBlock → ((Value.slice ga n gc).ownBlock = some gg ∨ gg = w.heap.size + 1) →
      w1.cell? ⟨gE, i * 7 + 6, none⟩ = some (.slice ga n gc) ∧ w1.frozen? ⟨gE, i * 7 + 6, none⟩ = false ∧ BoxEv ge e w1 ∧ BoxEv ge e (w1.setCell ⟨gE, i * 7 + 6, none⟩ (.slice (some ⟨gg, 0, none⟩) (n + 1) cap)) ∧
      (∃ ev', OwnBld B (w1.setCell ⟨gE, i * 7 + 6, none⟩ (.slice (some ⟨gg, 0, none⟩) (n + 1) cap)) G tick ev' (rows.set i (rows[i].withA (newAp e) (.slice (some ⟨gg, 0, none⟩) (n + 1) cap)))) ∧
      Frm B w0 (w1.setCell ⟨gE, i * 7 + 6, none⟩ (.slice (some ⟨gg, 0, none⟩) (n + 1) cap))) := by
  subst hxs
  refine ⟨by rw [← hgv]; exact (h.own.at_ i hi).2.2.1, fun o => by rw [← hgv]; exact ((h.alloc o).own.at_ i hi).2.2.1, by have := h.blk.lt; have := h.le; omega, fun o => ?_, fun o gg cap w1 a1 a2 a3 => ?_⟩
  · have := ((h.drew.alloc o).own.each _ (List.getElem_mem hi)).2
    rw [← hn, hgv] at this
    exact this
  · have := h.pushA hi hk (w1 := w1) (gg := gg) (cap := cap) (o := o) (by rw [← hn]; exact a1) (by rw [hgv]; exact a2) (by rw [hgv]; exact a3) hB
    rw [← hn, hgv] at this
    exact this


set_option maxHeartbeats 4000000 in
set_option maxRecDepth 100000 in
theorem open_walk (B : Nat) (gE c : Nat) (rows : List EnR) (i : Nat) (hi : i < rows.length) (w : World) (h : OwnEnts B w (.slice (some ⟨gE, 0, none⟩) rows.length c) rows) (hlen : rows[i].y.appeals.length ≤ 1000000000) :
    Calls Tryz.prog 99 #[.pointer (some ⟨gE, i * 7, none⟩)] w fun z w' => z = .returned (.bool rows[i].y.isOpen) ∧ w = w' := by
  have hr := h.each _ (List.getElem_mem hi)
  obtain ⟨n, hn⟩ : ∃ n, n = rows[i].y.appeals.length := ⟨_, rfl⟩
  obtain ⟨aa, ac, hav⟩ := own_slice' hr.2
  rw [← hn] at hav hlen
  have q6 := (h.at_ i hi).2.2.1
  rw [hav] at q6
  have hgr : (n = 0 ∧ rows[i].y.isOpen = false) ∨ 0 < n ∧ ∃ b off V, aa = some ⟨b, off, none⟩ ∧ w.cell? ⟨b, off + (n - 1) * 6 + 2, none⟩ = some (.bool V) ∧ rows[i].y.isOpen = !V := by
    rcases Nat.eq_zero_or_pos n with h0 | hpos
    · exact .inl ⟨h0, isOpen_nil (by omega)⟩
    · right
      have hI := hr.in_.2
      rw [hav] at hI
      rcases hI.split with ⟨e0, _⟩ | ⟨b, off, c', e1, _, e2⟩
      · rw [e0] at hn; simp at hn; omega
      · exact ⟨hpos, b, off, _, by injection e1, (ap_cells e2 (n - 1) (by omega)).2.2.1, isOpen_eq hn (by omega)⟩
  clear h hr hn hav
  go_enter Tryz.func99, Tryz.ntmps99
  rcases hgr with ⟨h0, ho⟩ | ⟨hpos, b, off, V, rfl, hV, ho⟩
  · have b0 : decide (0 < (n : Int)) = false := by simp; omega
    replace ho := Lib.hid ho
    go_wp2_with fail
    go_ret
    exact ⟨by rw [ho.out]; rfl, rfl⟩
  · have b0 : decide (0 < (n : Int)) = true := by simp; omega
    have b1 : IntKind.i64.wrap ((n : Int) - 1) = (n : Int) - 1 := IntWalk.i64_in _ (by omega)
    have b2 : (0 : Int) ≤ (n : Int) - 1 := by omega
    have b3 : (n : Int) - 1 < (n : Int) := by omega
    have b4 : ((n : Int) - 1).toNat = n - 1 := by omega
    replace ho := Lib.hid ho
    go_wp2_with fail
    go_ret
    exact ⟨by rw [ho.out]; rfl, rfl⟩

set_option maxHeartbeats 4000000 in
set_option maxRecDepth 100000 in
theorem appeal_walk (B G : Nat) (tick : Int) (gE c : Nat) (rows : List EnR) (e : BEv) (i : Nat) (hi : i < rows.length) (w : World) (h : OwnBld B w G tick (.slice (some ⟨gE, 0, none⟩) rows.length c) rows) (hlen : rows[i].y.appeals.length ≤ 1000000000) (hk : e.kind = 2) :
    Calls Tryz.prog 78 #[.pointer (some ⟨G, 0, none⟩), evV e, .pointer (some ⟨gE, i * 7, none⟩)] w (BldPost B G tick w (rows.map EnR.y) (stepR (rows.map EnR.y) i (stepEn rows[i].y e))) := by
  obtain ⟨i0, hi0, hz0, hz1, hz2⟩ := info_parts infoAp
  have hGl := h.blk.lt
  have hle := h.le
  have hB0 : Frm B w (w.alloc (.cells #[.int .i64 e.kind, .string (str e.key.st), .string (str e.key.ex), .int .i64 e.key.att, .int .i64 e.tick, .int .i64 e.ver, .int .i64 e.hun, .string (str e.text), .bool e.acc] 26)) := (Frm.refl (by omega)).alloc _
  have h1 := h.alloc (.cells #[.int .i64 e.kind, .string (str e.key.st), .string (str e.key.ex), .int .i64 e.key.att, .int .i64 e.tick, .int .i64 e.ver, .int .i64 e.hun, .string (str e.text), .bool e.acc] 26)
  have hK : BoxEv w.heap.size e (w.alloc (.cells #[.int .i64 e.kind, .string (str e.key.st), .string (str e.key.ex), .int .i64 e.key.att, .int .i64 e.tick, .int .i64 e.ver, .int .i64 e.hun, .string (str e.text), .bool e.acc] 26)) := Blk.new w 26 #[.int .i64 e.kind, .string (str e.key.st), .string (str e.key.ex), .int .i64 e.key.att, .int .i64 e.tick, .int .i64 e.ver, .int .i64 e.hun, .string (str e.text), .bool e.acc]
  have hr := h1.own.each _ (List.getElem_mem hi)
  obtain ⟨n, hn⟩ : ∃ n, n = rows[i].y.appeals.length := ⟨_, rfl⟩
  obtain ⟨m, hm⟩ : ∃ m, m = rows[i].y.grades.length := ⟨_, rfl⟩
  obtain ⟨R, hR⟩ : ∃ R, R = stepR (rows.map EnR.y) i (stepEn rows[i].y e) := ⟨_, rfl⟩
  rw [← hR]
  have hstep : stepEn rows[i].y e = if rows[i].y.grades = [] ∨ rows[i].y.isOpen = true then .error 9 else if 16 ≤ rows[i].y.appeals.length then .error 8 else .ok { rows[i].y with appeals := rows[i].y.appeals ++ [newAp e] } := by
    unfold stepEn; rw [if_neg (by omega), if_pos hk]; rfl
  obtain ⟨ga, gc, hgv⟩ := own_slice' hr.1
  obtain ⟨aa, ac, hav⟩ := own_slice' hr.2
  rw [← hn] at hav
  rw [← hm] at hgv
  have hne : rows[i].y.grades = [] ↔ m = 0 := by rw [hm, List.length_eq_zero_iff]
  obtain ⟨O, hO⟩ : ∃ O, O = rows[i].y.isOpen := ⟨_, rfl⟩
  have hset : ∀ v, (rows.map EnR.y).set i { rows[i].y with appeals := rows[i].y.appeals ++ [newAp e] } = (rows.set i (rows[i].withA (newAp e) v)).map EnR.y := fun v => by rw [List.map_set]; rfl
  have hres : (m = 0 ∨ O = true → R = .error 9) ∧ (¬ (m = 0 ∨ O = true) → 16 ≤ n → R = .error 8) ∧ (¬ (m = 0 ∨ O = true) → ¬ 16 ≤ n → ∀ v, R = .ok ((rows.set i (rows[i].withA (newAp e) v)).map EnR.y)) := by
    rw [hR, hstep, ← hn, ← hO]
    refine ⟨fun h1 => by rw [if_pos (h1.imp hne.2 id)]; rfl, fun h1 h2 => by rw [if_neg (fun h => h1 (h.imp hne.1 id)), if_pos h2]; rfl, fun h1 h2 v => by rw [if_neg (fun h => h1 (h.imp hne.1 id)), if_neg h2, ← hset v]; rfl⟩
  obtain ⟨r1, r2, r3⟩ := hres
  obtain ⟨j5, hGa, hszr, HO, step⟩ := h1.readyA hi hK hB0 hav rfl hn
  obtain ⟨_, g5, _, _, jf⟩ := h1.own.at_ i hi
  rw [hgv] at g5
  have OW := open_walk B gE c rows i hi _ h1.own hlen
  rw [← hO] at OW
  obtain ⟨k0, k1, k2, k3, k4, k5, k6, k7, k8⟩ := hK.cells
  have H1 := Lib.hid h1
  have HB := Lib.hid hB0
  have HKB := Lib.hid hK
  rw [← hn] at hlen
  replace OW := Lib.hid OW
  replace r1 := Lib.hid r1
  replace r2 := Lib.hid r2
  replace r3 := Lib.hid r3
  replace step := Lib.hid (step (.cells #[.int .i64 e.tick, .string (str e.text), .bool false, .bool false, .int .i64 0, .string ⟨#[]⟩] 44))
  replace HO := Lib.hid HO
  have hne1 : ∀ o : Obj, w.heap.size ≠ gE := fun _ e0 => by
    have := h.own.ents.lt gE rfl; omega
  clear h h1 hB0 hK hr hR hstep hset hne hk hgv hav hn hm hO hne1
  go_enter Tryz.func78, Tryz.ntmps78
  by_cases hm0 : m = 0
  · have b0 : ((m : Int) == 0) = true := by rw [beq_iff_eq]; omega
    have hR2 := Lib.hid (r1.out (.inl hm0))
    clear r1 r2 r3
    go_wp2_with fail
    go_ret
    exact ⟨_, _, by rw [hR2.out]; rfl, H1.out, by rw [hR2.out]; rfl, HB.out⟩
  · have b0 : ((m : Int) == 0) = false := by rw [beq_eq_false_iff_ne]; omega
    cases O with
    | true =>
      have hR2 := Lib.hid (r1.out (.inr rfl))
      clear r1 r2 r3
      go_wp2_with fail
      refine OW.out.mono ?_
      rintro z w1 ⟨rfl, rfl⟩
      go_wp2_with fail
      go_ret
      exact ⟨_, _, by rw [hR2.out]; rfl, H1.out, by rw [hR2.out]; rfl, HB.out⟩
    | false =>
      by_cases h16 : 16 ≤ n
      · have hR2 := Lib.hid (r2.out (by simp [hm0]) h16)
        clear r1 r2 r3
        go_wp2_with fail
        refine OW.out.mono ?_
        rintro z w1 ⟨rfl, rfl⟩
        go_wp2_with fail
        go_ret
        exact ⟨_, _, by rw [hR2.out]; rfl, H1.out, by rw [hR2.out]; rfl, HB.out⟩
      · have hR2 := Lib.hid (r3.out (by simp [hm0]) h16)
        clear r1 r2 r3
        go_wp2_with fail
        refine OW.out.mono ?_
        rintro z wc ⟨rfl, hwc⟩
        obtain ⟨ge, hge⟩ : ∃ ge, ge = w.heap.size := ⟨_, rfl⟩
        rw [hwc] at k0 k1 k2 k3 k4 k5 k6 k7 k8 j5 jf hGa hszr HO step H1 HB HKB
        rw [← hge] at k0 k1 k2 k3 k4 k5 k6 k7 k8 HKB step ⊢
        clear hwc hge OW
        go_wp2_with fail
        clear k0 k1 k2 k3 k4 k5 k6 k7 k8
        obtain ⟨c0, c1, c2, c3, c4, c5, c6, c7, c8⟩ := BoxEv.rules ge e
        refine wp_region_noPanic ?_
        refine wp_region_held_drew (S := BoxEv ge e) (by kernel_rfl) (HKB.out.drew) (fun hHeld => ?_)
        refine wpAnyH_take (i := 0) (v := ?_) (by (simp only [List.getElem?_toArray, List.getElem?_cons_zero]); try rfl) (by kernel_rfl) (by kernel_rfl) (by kernel_rfl) (fun _ _ _ h => h) (Or.inl ⟨by rfl, ?_⟩) (by assumption) ?_
        rotate_left
        · (intro w hSw; (try dsimp only at hSw); go_simp); try with_reducible rfl
        try simp only [Act.put, List.setIfInBounds_toArray, List.set_cons_zero, List.set_cons_succ]
        refine wpAnyH_take (i := 1) (v := ?_) (by (simp only [List.getElem?_toArray, List.getElem?_cons_succ, List.getElem?_cons_zero]); try rfl) (by kernel_rfl) (by kernel_rfl) (by kernel_rfl) (fun _ _ _ h => h) (Or.inl ⟨by rfl, ?_⟩) (by assumption) ?_
        rotate_left
        · (intro w hSw; (try dsimp only at hSw); go_simp); try with_reducible rfl
        try simp only [Act.put, List.setIfInBounds_toArray, List.set_cons_zero, List.set_cons_succ]
        refine wpAnyH_take (i := 2) (v := ?_) (by (simp only [List.getElem?_toArray, List.getElem?_cons_succ, List.getElem?_cons_zero]); try rfl) (by kernel_rfl) (by kernel_rfl) (by kernel_rfl) (fun _ _ _ h => h) (Or.inl ⟨by rfl, ?_⟩) (by assumption) ?_
        rotate_left
        · (intro w hSw; (try dsimp only at hSw); go_simp); try with_reducible rfl
        try simp only [Act.put, List.setIfInBounds_toArray, List.set_cons_zero, List.set_cons_succ]
        refine wpAnyH_take (i := 3) (v := ?_) (by (simp only [List.getElem?_toArray, List.getElem?_cons_succ, List.getElem?_cons_zero]); try rfl) (by kernel_rfl) (by kernel_rfl) (by kernel_rfl) (fun _ _ _ h => h) (Or.inl ⟨by rfl, ?_⟩) (by assumption) ?_
        rotate_left
        · (intro w hSw; (try dsimp only at hSw); go_simp); try with_reducible rfl
        try simp only [Act.put, List.setIfInBounds_toArray, List.set_cons_zero, List.set_cons_succ]
        refine wpAnyH_take (i := 5) (v := ?_) (by (simp only [List.getElem?_toArray, List.getElem?_cons_succ, List.getElem?_cons_zero]); try rfl) (by kernel_rfl) (by kernel_rfl) (by kernel_rfl) (fun _ _ _ h => h) (Or.inl ⟨by rfl, ?_⟩) (by assumption) ?_
        rotate_left
        · (intro w hSw; (try dsimp only at hSw); go_simp); try with_reducible rfl
        try simp only [Act.put, List.setIfInBounds_toArray, List.set_cons_zero, List.set_cons_succ]
        refine wpAnyH_take (i := 6) (v := ?_) (by (simp only [List.getElem?_toArray, List.getElem?_cons_succ, List.getElem?_cons_zero]); try rfl) (by kernel_rfl) (by kernel_rfl) (by kernel_rfl) (fun _ _ _ h => h) (Or.inl ⟨by rfl, ?_⟩) (by assumption) ?_
        rotate_left
        · (intro w hSw; (try dsimp only at hSw); go_simp); try with_reducible rfl
        try simp only [Act.put, List.setIfInBounds_toArray, List.set_cons_zero, List.set_cons_succ]
        refine wpAnyH_take (i := 7) (v := ?_) (by (simp only [List.getElem?_toArray, List.getElem?_cons_succ, List.getElem?_cons_zero]); try rfl) (by kernel_rfl) (by kernel_rfl) (by kernel_rfl) (fun _ _ _ h => h) (Or.inl ⟨by rfl, ?_⟩) (by assumption) ?_
        rotate_left
        · (intro w hSw; (try dsimp only at hSw); go_simp); try with_reducible rfl
        try simp only [Act.put, List.setIfInBounds_toArray, List.set_cons_zero, List.set_cons_succ]
        refine wpAnyH_take (i := 8) (v := ?_) (by (simp only [List.getElem?_toArray, List.getElem?_cons_succ, List.getElem?_cons_zero]); try rfl) (by kernel_rfl) (by kernel_rfl) (by kernel_rfl) (fun _ _ _ h => h) (Or.inl ⟨by rfl, ?_⟩) (by assumption) ?_
        rotate_left
        · (intro w hSw; (try dsimp only at hSw); go_simp); try with_reducible rfl
        try simp only [Act.put, List.setIfInBounds_toArray, List.set_cons_zero, List.set_cons_succ]
        refine wpAnyH_take (i := 9) (v := ?_) (by (simp only [List.getElem?_toArray, List.getElem?_cons_succ, List.getElem?_cons_zero]); try rfl) (by kernel_rfl) (by kernel_rfl) (by kernel_rfl) (fun _ _ _ h => h) (Or.inl ⟨by rfl, ?_⟩) (by assumption) ?_
        rotate_left
        · (intro w hSw; (try dsimp only at hSw); go_simp); try with_reducible rfl
        try simp only [Act.put, List.setIfInBounds_toArray, List.set_cons_zero, List.set_cons_succ]
        refine wpAnyH_ready (rs := [4, 10]) (by kernel_rfl) (by simp) ?_
        refine AllReadyH.cons (by (simp only [List.getElem?_toArray, List.getElem?_cons_succ, List.getElem?_cons_zero]); try rfl) (fun K hK => ?_) ?_
        · go_simp
          refine hK.out _ _ ?_ (fun hHeld => ?_)
          · (first | exact HKB.out.drew | exact BoxEv.alloc HKB.out.drew _ | exact s3 | exact s4)
          clear hK K
          try simp only [Act.put, List.setIfInBounds_toArray, List.set_cons_zero, List.set_cons_succ]
          refine wpAnyH_ready (rs := [10]) (by kernel_rfl) (by simp) ?_
          refine AllReadyH.cons (by (simp only [List.getElem?_toArray, List.getElem?_cons_succ, List.getElem?_cons_zero]); try rfl) (fun K hK => ?_) AllReadyH.nil
          go_simp
          refine hK.out _ _ ?_ (fun hHeld => ?_)
          · (first | exact HKB.out.drew | exact BoxEv.alloc HKB.out.drew _ | exact s3 | exact s4)
          clear hK K
          try simp only [Act.put, List.setIfInBounds_toArray, List.set_cons_zero, List.set_cons_succ]
          refine wpAnyH_ready (rs := [11]) (by kernel_rfl) (by simp) ?_
          refine AllReadyH.cons (by (simp only [List.getElem?_toArray, List.getElem?_cons_succ, List.getElem?_cons_zero]); try rfl) (fun K hK => ?_) AllReadyH.nil
          (refine step_append_lies _ (by rfl) _ _ _ (by rfl) B 44 i0 apZero 6 56 Tryz.underlying37 hi0 hz0 hz1 hz2 rfl (by decide) (.slice aa n ac) n (flatCs apCs rows[i].y.appeals) (by rfl) (HO.out _)
            ⟨wc.heap.size, 0, none⟩ 1 1 (apCs (newAp e)) (by rfl) (by rfl) (World.news_of_block (cs := (apCs (newAp e)).toArray) (t := 44) (fr := (0, 0)) (heap_alloc_new wc.drew _)) (by simp [Value.oneCell', newAp])
            (by omega) (by unfold maxLen; omega) (by omega) (by simp; omega) (wc.heap.size + 1) (by simp) ?_; intro gg cap w1 hown1 hgrow hat hlt'; obtain ⟨s1, s2, s3, s4, s5, s6⟩ := step.out _ _ _ hown1 hgrow hat)
          refine hK.out _ _ ?_ (fun hHeld => ?_)
          · (first | exact HKB.out.drew | exact BoxEv.alloc HKB.out.drew _ | exact s3 | exact s4)
          clear hK K
          try simp only [Act.put, List.setIfInBounds_toArray, List.set_cons_zero, List.set_cons_succ]
          refine wpAnyH_take (i := 12) (v := ?_) (by (simp only [List.getElem?_toArray, List.getElem?_cons_succ, List.getElem?_cons_zero]); try rfl) (by kernel_rfl) (by kernel_rfl) (by kernel_rfl) (fun _ _ _ h => h) (Or.inl ⟨by rfl, ?_⟩) (by assumption) ?_
          rotate_left
          · (intro w hSw; (try dsimp only at hSw); go_simp); try with_reducible rfl
          try simp only [Act.put, List.setIfInBounds_toArray, List.set_cons_zero, List.set_cons_succ]
          refine wpAnyH_take (i := 13) (v := ?_) (by (simp only [List.getElem?_toArray, List.getElem?_cons_succ, List.getElem?_cons_zero]); try rfl) (by kernel_rfl) (by kernel_rfl) (by kernel_rfl) (fun _ _ _ h => h) (Or.inl ⟨by rfl, ?_⟩) (by assumption) ?_
          rotate_left
          · (intro w hSw; (try dsimp only at hSw); go_simp); try with_reducible rfl
          try simp only [Act.put, List.setIfInBounds_toArray, List.set_cons_zero, List.set_cons_succ]
          refine wpAnyH_ready (rs := [14]) (by kernel_rfl) (by simp) ?_
          refine AllReadyH.cons (by (simp only [List.getElem?_toArray, List.getElem?_cons_succ, List.getElem?_cons_zero]); try rfl) (fun K hK => ?_) AllReadyH.nil
          go_simp
          refine hK.out _ _ ?_ (fun hHeld => ?_)
          · (first | exact HKB.out.drew | exact BoxEv.alloc HKB.out.drew _ | exact s3 | exact s4)
          clear hK K
          try simp only [Act.put, List.setIfInBounds_toArray, List.set_cons_zero, List.set_cons_succ]
          refine wpAnyH_done (by kernel_rfl) ?_ _
          refine NoPanic.normal ?_
          go_wp2_with fail
          go_ret
          obtain ⟨ev', s5⟩ := s5
          exact ⟨_, _, by rw [hR2.out (.int .i64 0)]; rfl, s5, by rw [hR2.out (.slice (some ⟨gg, 0, none⟩) (n + 1) cap)]; rfl, s6⟩
        refine AllReadyH.cons (by (simp only [List.getElem?_toArray, List.getElem?_cons_succ, List.getElem?_cons_zero]); try rfl) (fun K hK => ?_) AllReadyH.nil
        go_simp
        refine hK.out _ _ ?_ (fun hHeld => ?_)
        · (first | exact HKB.out.drew | exact BoxEv.alloc HKB.out.drew _ | exact s3 | exact s4)
        clear hK K
        try simp only [Act.put, List.setIfInBounds_toArray, List.set_cons_zero, List.set_cons_succ]
        refine wpAnyH_ready (rs := [4]) (by kernel_rfl) (by simp) ?_
        refine AllReadyH.cons (by (simp only [List.getElem?_toArray, List.getElem?_cons_succ, List.getElem?_cons_zero]); try rfl) (fun K hK => ?_) AllReadyH.nil
        go_simp
        refine hK.out _ _ ?_ (fun hHeld => ?_)
        · (first | exact HKB.out.drew | exact BoxEv.alloc HKB.out.drew _ | exact s3 | exact s4)
        clear hK K
        try simp only [Act.put, List.setIfInBounds_toArray, List.set_cons_zero, List.set_cons_succ]
        refine wpAnyH_ready (rs := [11]) (by kernel_rfl) (by simp) ?_
        refine AllReadyH.cons (by (simp only [List.getElem?_toArray, List.getElem?_cons_succ, List.getElem?_cons_zero]); try rfl) (fun K hK => ?_) AllReadyH.nil
        (refine step_append_lies _ (by rfl) _ _ _ (by rfl) B 44 i0 apZero 6 56 Tryz.underlying37 hi0 hz0 hz1 hz2 rfl (by decide) (.slice aa n ac) n (flatCs apCs rows[i].y.appeals) (by rfl) (HO.out _)
          ⟨wc.heap.size, 0, none⟩ 1 1 (apCs (newAp e)) (by rfl) (by rfl) (World.news_of_block (cs := (apCs (newAp e)).toArray) (t := 44) (fr := (0, 0)) (heap_alloc_new wc.drew _)) (by simp [Value.oneCell', newAp])
          (by omega) (by unfold maxLen; omega) (by omega) (by simp; omega) (wc.heap.size + 1) (by simp) ?_; intro gg cap w1 hown1 hgrow hat hlt'; obtain ⟨s1, s2, s3, s4, s5, s6⟩ := step.out _ _ _ hown1 hgrow hat)
        refine hK.out _ _ ?_ (fun hHeld => ?_)
        · (first | exact HKB.out.drew | exact BoxEv.alloc HKB.out.drew _ | exact s3 | exact s4)
        clear hK K
        try simp only [Act.put, List.setIfInBounds_toArray, List.set_cons_zero, List.set_cons_succ]
        refine wpAnyH_take (i := 12) (v := ?_) (by (simp only [List.getElem?_toArray, List.getElem?_cons_succ, List.getElem?_cons_zero]); try rfl) (by kernel_rfl) (by kernel_rfl) (by kernel_rfl) (fun _ _ _ h => h) (Or.inl ⟨by rfl, ?_⟩) (by assumption) ?_
        rotate_left
        · (intro w hSw; (try dsimp only at hSw); go_simp); try with_reducible rfl
        try simp only [Act.put, List.setIfInBounds_toArray, List.set_cons_zero, List.set_cons_succ]
        refine wpAnyH_take (i := 13) (v := ?_) (by (simp only [List.getElem?_toArray, List.getElem?_cons_succ, List.getElem?_cons_zero]); try rfl) (by kernel_rfl) (by kernel_rfl) (by kernel_rfl) (fun _ _ _ h => h) (Or.inl ⟨by rfl, ?_⟩) (by assumption) ?_
        rotate_left
        · (intro w hSw; (try dsimp only at hSw); go_simp); try with_reducible rfl
        try simp only [Act.put, List.setIfInBounds_toArray, List.set_cons_zero, List.set_cons_succ]
        refine wpAnyH_ready (rs := [14]) (by kernel_rfl) (by simp) ?_
        refine AllReadyH.cons (by (simp only [List.getElem?_toArray, List.getElem?_cons_succ, List.getElem?_cons_zero]); try rfl) (fun K hK => ?_) AllReadyH.nil
        go_simp
        refine hK.out _ _ ?_ (fun hHeld => ?_)
        · (first | exact HKB.out.drew | exact BoxEv.alloc HKB.out.drew _ | exact s3 | exact s4)
        clear hK K
        try simp only [Act.put, List.setIfInBounds_toArray, List.set_cons_zero, List.set_cons_succ]
        refine wpAnyH_done (by kernel_rfl) ?_ _
        refine NoPanic.normal ?_
        go_wp2_with fail
        go_ret
        obtain ⟨ev', s5⟩ := s5
        exact ⟨_, _, by rw [hR2.out (.int .i64 0)]; rfl, s5, by rw [hR2.out (.slice (some ⟨gg, 0, none⟩) (n + 1) cap)]; rfl, s6⟩
end Go.Proofs.YtnjiomggbafkmaaGreatDoor
