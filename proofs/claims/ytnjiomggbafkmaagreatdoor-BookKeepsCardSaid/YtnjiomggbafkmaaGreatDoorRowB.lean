/- (RowB: Row where Pack is PackB.) From a law's walk to the law's row and card: what is the same for every law of a seat. -/
import Derived.Test.YtnjiomggbafkmaaGreatDoorPackB
import Derived.Test.YtnjiomggbafkmaaGreatDoorCards
import Derived.Test.YtnjiomggbafkmaaGreatDoorTie
import Derived.WalkKit
import Derived.ProofKit
import Derived.OpenShut
import Derived.SliceStrings
import Derived.Deep.DeepHandedRow
import Derived.Lib.LaidTab
namespace Go.Proofs.YtnjiomggbafkmaaGreatDoor
open Go.ChangeShapes Go.WideShapes Go.ChangeAt Go.RowKit Go.ChangeMaps
set_option maxRecDepth 100000

theorem own : ownKnob Tryz.prog.godebug = none := by kernel_rfl
theorem laidOut : laidOutB Tryz.prog = true := by kernel_rfl

section
variable {H : Type} {enc : TypeId × Value → H} {P : Program}
/-- What the row asks behind a call that left what there was as it was. -/
theorem post_of_below {f : Func} {s : ChangeSpec} {apart fresh handsOn again : Bool} {W W' : World} {args : Array Value} {v : Value} {ds gs : List (DataW H)} {before pa pv : List MemPlace}
    (hW : DataW.Whole enc P f.params.toList s.vars apart W args.toList ds gs before)
    (hres : ∀ (b : Nat) (sp : Nat → Bool) (hd : Bool), DataW.TrodAll enc P W' b sp hd f.resultTypes.toList (v.resultList f.resultTypes.size) (s.fn H (ds ++ gs)).results [])
    (hargs : ∀ sp : Nat → Bool, (∀ p ∈ before, sp p.block = true) → DataW.TrodAll enc P W' 0 sp true f.params.toList args.toList (s.fn H (ds ++ gs)).args pa)
    (hvars : ∀ sp : Nat → Bool, (∀ p ∈ before, sp p.block = true) → DataW.TrodVars enc P W' sp s.vars (s.fn H (ds ++ gs)).vars pv)
    (hps : before = pa ++ pv) (hb : Below W.heap.size W W')
    (hok : ∀ (j : Nat) (t : TypeId) (r : Value), f.resultTypes[j]? = some t → (v.resultList f.resultTypes.size)[j]? = some r → Value.okWide P W' .any 0 t r) :
    s.post enc P f apart fresh handsOn again W args v W' := by
  have hlt : ∀ p ∈ before, p.block < W.heap.size := fun p hp => hW.lt p hp
  have hold : ∀ p ∈ before, (fun b => decide (b < W.heap.size)) p.block = true := fun p hp => by simpa using hlt p hp
  refine ⟨ds, gs, before, [], pa, pv, hW, hres _ _ _, hargs _ hold, hvars _ hold, World.keptBut_mono (fun p hp => ⟨hp, ?_⟩) (hb.frame (· ∈ before)), fun _ => ?_⟩
  · rw [hps, List.mem_append] at hp
    exact Or.inr hp
  · obtain ⟨_, _, _, _, _, hz, hn⟩ := hW
    refine ⟨hok, _, _, ([] ++ pa) ++ pv, ⟨[] ++ pa, pv, trodAll_append (hargs _ (fun _ _ => rfl)) (hres _ _ _), hvars _ (fun _ _ => rfl), rfl, ?_, ?_⟩, ?_⟩
    · intro b off hp
      have hin : MemPlace.cell b off ∈ before := by rw [hps]; simpa using hp
      rw [hb.frozen (hlt _ hin)]
      exact hz b off hin
    · intro ha
      have := hn ha
      rw [hps] at this
      simpa using this
    · intro p hp _
      rw [hps]
      simpa using hp

theorem trodAll_below (hl : laidOutB P = true) {W W' : World} {sp : Nat → Bool} (hb : Below W.heap.size W W') : ∀ {ts : List TypeId} {vs : List Value} {ds : List (DataW H)} {ps : List MemPlace},
    (ts.all fun t => P.readableRec t && decide (t < P.types.size)) = true → DataW.TrodAll enc P W 0 (fun _ => true) true ts vs ds ps → (∀ p ∈ ps, p.block < W.heap.size) → (∀ p ∈ ps, sp p.block = true) →
    DataW.TrodAll enc P W' 0 sp true ts vs ds ps
  | [], vs, ds, ps, _, h, _, _ => by
    obtain ⟨rfl, rfl, rfl⟩ := trodAll_nil h
    exact trodAll_mk0
  | t :: ts, vs, ds, ps, ht, h, h1, h2 => by
    obtain ⟨v, vs, d, ds, p, q, rfl, rfl, rfl, hd, hr⟩ := trodAll_cons h
    simp only [List.all_cons, Bool.and_eq_true, decide_eq_true_eq] at ht
    refine ⟨p, q, WideElems.Trod_stays hl ht.1.1 ht.1.2 hd (fun x hx => hb.same (h1 x (by simp [hx]))) (fun x hx => h2 x (by simp [hx])), ?_, rfl⟩
    exact trodAll_below hl hb ht.2 hr (fun x hx => h1 x (by simp [hx])) (fun x hx => h2 x (by simp [hx]))
end

/-- The row's conclusion for a law that returned true and turned nothing old. -/
theorem post_law {H : Type} {enc : TypeId × Value → H} {f : Func} {s : ChangeSpec} {T : TypeId} {W W' : World} {args : Array Value} {ds gs : List (DataW H)} {before : List MemPlace}
    (hv : s.vars = []) (hW : DataW.Whole enc Tryz.prog f.params.toList s.vars false W args.toList ds gs before)
    (hread : (f.params.toList.all fun t => Tryz.prog.readableRec t && decide (t < Tryz.prog.types.size)) = true)
    (hs : gs = [] → s.fn H (ds ++ gs) = { results := [.lit (.bool true)], args := ds }) (hrt : f.resultTypes = #[T]) (hT : Tryz.prog.underlying T = some .bool) (hb : Below W.heap.size W W') :
    s.post enc Tryz.prog f false true false false W args (.bool true) W' := by
  have hW' := hW
  obtain ⟨p, q, hA, hV, rfl, hfz, hnd⟩ := hW
  rw [hv] at hV
  obtain ⟨rfl, rfl⟩ := trodVars_none hV
  have hs := hs rfl
  refine post_of_below (pa := p) (pv := []) hW' ?_ ?_ ?_ rfl hb ?_
  · intro b sp hd
    rw [hs, hrt]
    exact trodAll_cons_mk (shut_bool hT _) trodAll_mk0
  · intro sp hsp
    rw [hs]
    exact trodAll_below laidOut hb hread hA (fun x hx => hW'.lt x (by simp [hx])) (fun x hx => hsp x (by simp [hx]))
  · intro sp _
    rw [hs, hv]
    rfl
  · exact ok_one hrt rfl (okWide_bool_mk hT _)

/-! ### The table that the row lists -/

set_option maxRecDepth 100000 in
theorem gTab : Tryz.prog.globalNamed "internal/strconv.uint64pow10" = some 2 := by kernel_rfl
theorem gTabType : (Tryz.prog.globals[2]?).map (·.type) = some 185 := by kernel_rfl
theorem cellsTab : Tryz.prog.cellsOf 185 = 20 := by kernel_rfl
theorem cellsU64 : Tryz.prog.cellsOf 159 = 1 := by kernel_rfl

set_option maxRecDepth 100000 in
theorem tab_head {w : World} {rest : List (String × DataW Unit)} {ps : List MemPlace} (h : DataW.LaidVars Tryz.prog w (("internal/strconv.uint64pow10", Lib.tabData .u64 Lib.pow10Tab) :: rest) ps) : Tab w := by
  obtain ⟨g', t', cs, fuel, p, q, hg', ht', hvar, hd, _, _⟩ := h
  obtain rfl := Option.some.inj (gTab.symm.trans hg')
  obtain rfl := Option.some.inj (gTabType.symm.trans ht')
  unfold Tab Lib.TabIs
  rw [hvar, ← Lib.cells_of_tab Tryz.underlying185 Tryz.underlying159 cellsU64 cellsTab hd]
theorem laid_tail {w : World} {x : String × DataW Unit} {rest : List (String × DataW Unit)} {ps : List MemPlace} (h : DataW.LaidVars Tryz.prog w (x :: rest) ps) : ∃ q, DataW.LaidVars Tryz.prog w rest q := by
  obtain ⟨g', t', cs, fuel, p, q, hg', ht', hvar, hd, hq, _⟩ := h
  exact ⟨q, hq⟩

/-! ### Arguments -/

theorem int_bounds {n : Int} (h : (Lit.int .i64 n).wf = true) : -9223372036854775808 ≤ n ∧ n ≤ 9223372036854775807 := by
  simpa [Lit.wf, IntKind.min, IntKind.max, IntKind.signed, IntKind.bits] using h

theorem u16_bounds {n : Int} (h : (Lit.int .u16 n).wf = true) : 0 ≤ n ∧ n ≤ 65535 := by
  simpa [Lit.wf, IntKind.min, IntKind.max, IntKind.signed, IntKind.bits] using h
theorem u8_bounds {n : Int} (h : (Lit.int .u8 n).wf = true) : 0 ≤ n ∧ n ≤ 255 := by
  simpa [Lit.wf, IntKind.min, IntKind.max, IntKind.signed, IntKind.bits] using h

theorem strs_in {H : Type} {enc : TypeId × Value → H} {W : World} {base b0 : Nat} {sp : Nat → Bool} {held : Bool} {r : Reach} {t e : TypeId} {v : Value} {d : DataW H} {ps : List MemPlace}
    (ht : Tryz.prog.underlying t = some (.slice e)) (he : Tryz.prog.underlying e = some .string) (hc : Tryz.prog.cellsOf e = 1) (hby : Tryz.prog.bytesOf e = 16)
    (hval : Value.okWide Tryz.prog W r b0 t v) (h : DataW.Trod enc Tryz.prog W base sp held t v d ps) (hw : ∀ x ∈ d.weights Tryz.prog t, x ≤ reachBytes) :
    ∃ l : List (List UInt8), StrsIn W v l ∧ (∀ x ∈ l, x.length ≤ 140737488351232) ∧ l.length ≤ 140737488351232 ∧ (∀ a n c, v = .slice a n c → n ≤ c ∧ (a = none → c = 0)) := by
  obtain ⟨a0, n0, c0, rfl⟩ := okWide_slice ht hval
  obtain ⟨fuel, hf⟩ := h
  rcases open_strings ht he hc hf with ⟨hv, hx⟩ | ⟨a, len, cap, ss, hv, _, hl, hm, hss, hx, hcell, hsz⟩
  · simp only [Value.cells, List.cons.injEq, Value.slice.injEq, and_true] at hv
    obtain ⟨rfl, rfl, rfl⟩ := hv
    exact ⟨[], StrsIn.nil _, by simp, by simp, fun a n c h => by simp only [Value.slice.injEq] at h; exact ⟨by omega, fun _ => by omega⟩⟩
  · simp only [Value.cells, List.cons.injEq, Value.slice.injEq, and_true] at hv
    obtain ⟨rfl, rfl, rfl⟩ := hv
    have hle : n0 ≤ ss.length := by rw [hss]; split <;> omega
    have hd := congrArg Prod.fst hx
    simp only at hd
    subst hd
    have hlen : ((ss.take n0).map bs).length = n0 := by simp; omega
    refine ⟨(ss.take n0).map bs, ⟨some a, c0, by rw [hlen], ?_⟩, ?_, ?_, fun a' n' c' h => by simp only [Value.slice.injEq] at h; exact ⟨by omega, fun h0 => by rw [h0] at h; simp at h⟩⟩
    · intro i hi
      rw [hlen] at hi
      have hs : a.spot = none := by
        have := hcell 0 (by omega)
        simp only [Addr.add, if_pos, World.cell?] at this
        split at this
        · split at this
          · cases this
          · rename_i hn
            simpa using hn
        · cases this
      refine ⟨a.block, a.off, by rw [← hs], ?_⟩
      have := hcell i (by omega)
      have e : a.add i = ⟨a.block, a.off + i, none⟩ := by
        unfold Addr.add
        split
        · rename_i h0; subst h0; rw [← hs]; simp
        · rfl
      rw [e] at this
      rw [this]
      simp [str_bs, List.getD, List.getElem?_eq_getElem (show i < ss.length by omega)]
    · intro x hx'
      simp only [List.mem_map] at hx'
      obtain ⟨s, hs, rfl⟩ := hx'
      have h1 : (DataW.lit (.string s.data.toList) : DataW H) ∈ strs (ss.take n0) := List.mem_map_of_mem hs
      have h2 : ∀ (l : List (DataW H)) (y : DataW H), y ∈ l → ∀ z ∈ y.weights Tryz.prog e, z ∈ DataW.weightsAll Tryz.prog e l := by
        intro l y
        induction l with
        | nil => intro h; cases h
        | cons q r ih =>
          intro h z hz
          rw [DataW.weightsAll, List.mem_append]
          rcases List.mem_cons.1 h with rfl | h
          · exact Or.inl hz
          · exact Or.inr (ih h z hz)
      have h3 := h2 _ _ h1 s.data.toList.length (by simp [DataW.weights])
      have h4 := hw s.data.toList.length (by simp only [DataW.weights, ht, List.mem_cons, List.mem_append]; exact Or.inr (Or.inl h3))
      exact h4
    · have h5 := hw ((n0 + (strs (H := H) (ss.drop n0)).length) * 16) (by simp [DataW.weights, ht, hby, strs, Nat.min_eq_left hle])
      unfold reachBytes at h5
      rw [hlen]
      omega

theorem bytesStr : Tryz.prog.bytesOf 9 = 16 := by kernel_rfl
theorem cellsStr : Tryz.prog.cellsOf 9 = 1 := by kernel_rfl

/-! ### A world in which the listed tables hold what their initialisers lay -/
def setRow (cs : Array Value) : Obj → Obj
  | .cells _ t frozen => .cells cs t frozen
  | o => o
noncomputable def laidWorld (os : Os) : World :=
  { World.holding Tryz.prog os ⟨#[], #[], []⟩ with heap := (((World.holding Tryz.prog os ⟨#[], #[], []⟩).heap.modify 2 (setRow #[.int .u64 1, .int .u64 10, .int .u64 100, .int .u64 1000, .int .u64 10000, .int .u64 100000, .int .u64 1000000, .int .u64 10000000, .int .u64 100000000, .int .u64 1000000000, .int .u64 10000000000, .int .u64 100000000000, .int .u64 1000000000000, .int .u64 10000000000000, .int .u64 100000000000000, .int .u64 1000000000000000, .int .u64 10000000000000000, .int .u64 100000000000000000, .int .u64 1000000000000000000, .int .u64 10000000000000000000])).modify 4 (setRow #[.int .u8 0, .int .u8 1, .int .u8 28, .int .u8 2, .int .u8 29, .int .u8 14, .int .u8 24, .int .u8 3, .int .u8 30, .int .u8 22, .int .u8 20, .int .u8 15, .int .u8 25, .int .u8 17, .int .u8 4, .int .u8 8, .int .u8 31, .int .u8 27, .int .u8 13, .int .u8 23, .int .u8 21, .int .u8 19, .int .u8 16, .int .u8 7, .int .u8 26, .int .u8 12, .int .u8 18, .int .u8 6, .int .u8 11, .int .u8 5, .int .u8 10, .int .u8 9])).modify 5 (setRow #[.int .u8 0, .int .u8 1, .int .u8 56, .int .u8 2, .int .u8 57, .int .u8 49, .int .u8 28, .int .u8 3, .int .u8 61, .int .u8 58, .int .u8 42, .int .u8 50, .int .u8 38, .int .u8 29, .int .u8 17, .int .u8 4, .int .u8 62, .int .u8 47, .int .u8 59, .int .u8 36, .int .u8 45, .int .u8 43, .int .u8 51, .int .u8 22, .int .u8 53, .int .u8 39, .int .u8 33, .int .u8 30, .int .u8 24, .int .u8 18, .int .u8 12, .int .u8 5, .int .u8 63, .int .u8 55, .int .u8 48, .int .u8 27, .int .u8 60, .int .u8 41, .int .u8 37, .int .u8 16, .int .u8 46, .int .u8 35, .int .u8 44, .int .u8 21, .int .u8 52, .int .u8 32, .int .u8 23, .int .u8 11, .int .u8 54, .int .u8 26, .int .u8 40, .int .u8 15, .int .u8 34, .int .u8 20, .int .u8 31, .int .u8 10, .int .u8 25, .int .u8 14, .int .u8 19, .int .u8 9, .int .u8 13, .int .u8 8, .int .u8 7, .int .u8 6]) }
end Go.Proofs.YtnjiomggbafkmaaGreatDoor
