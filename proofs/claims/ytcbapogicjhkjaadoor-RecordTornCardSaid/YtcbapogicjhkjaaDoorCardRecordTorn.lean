/- The card of RecordTorn: the law returns true for every input, and the input reads as it did. -/
import Derived.Test.YtcbapogicjhkjaaDoorRowInts
import Derived.Test.YtcbapogicjhkjaaDoorLawTorn
namespace Go.Proofs.YtcbapogicjhkjaaDoor.recordTorn
open Go.ChangeShapes Go.WideShapes Go.ChangeAt Go.RowKit Go.ChangeMaps
set_option maxRecDepth 100000
set_option maxHeartbeats 1000000

theorem table {W : World} (h : laidMetH Tryd.prog Rows.recordTornRow.laid W) : Tab W := by
  obtain ⟨ps, h0, _⟩ := (show laidMet Tryd.prog Rows.recordTornRow.laid W from h)
  obtain ⟨q0, h1⟩ := laid_tail h0
  obtain ⟨q1, h2⟩ := laid_tail h1
  exact tab_head h2

theorem contract (H : Type) (enc : TypeId × Value → H) (W : World) (base : Nat) (args : Array Value) (ds gs : List (DataW H)) (before : List MemPlace)
    (hval : ∀ (j : Nat) t v, Tryd.f8.params[j]? = some t → args[j]? = some v → Value.okWide Tryd.prog W .any base t v)
    (hW : DataW.Whole enc Tryd.prog Tryd.f8.params.toList Rows.recordTornSpec.vars false W args.toList ds gs before)
    (hz : (DataW.weightsEach Tryd.prog (Tryd.f8.params.toList ++ (OpenSpec.ofChange Rows.recordTornSpec).bare.plain.varTypes Tryd.prog) (ds ++ gs)).all (· ≤ reachBytes) = true) (hL : laidMetH Tryd.prog Rows.recordTornRow.laid W) :
    Calls Tryd.prog 8 args W fun e W' => ∃ v, e = .returned v ∧ Rows.recordTornSpec.post enc Tryd.prog Tryd.f8 false true false false W args v W' := by
  have hW' := hW
  obtain ⟨p, q, hA0, hV, rfl, hfz, hnd⟩ := hW
  have hA : DataW.TrodAll enc Tryd.prog W 0 (fun _ => true) true Tryd.f8.params.toList args.toList ds p := hA0
  rw [Tryd.params8] at hA hval hz
  obtain ⟨v0, vs0, d0, ds0, p0, q0, hargs, rfl, rfl, h0, r00⟩ := trodAll_cons hA
  obtain ⟨v1, vs1, d1, ds1, p1, q1, rfl, rfl, rfl, h1, r10⟩ := trodAll_cons r00
  obtain ⟨v2, vs2, d2, ds2, p2, q2, rfl, rfl, rfl, h2, r20⟩ := trodAll_cons r10
  obtain ⟨v3, vs3, d3, ds3, p3, q3, rfl, rfl, rfl, h3, r30⟩ := trodAll_cons r20
  obtain ⟨v4, vs4, d4, ds4, p4, q4, rfl, rfl, rfl, h4, r40⟩ := trodAll_cons r30
  obtain ⟨v5, vs5, d5, ds5, p5, q5, rfl, rfl, rfl, h5, r50⟩ := trodAll_cons r40
  obtain ⟨rfl, rfl, rfl⟩ := trodAll_nil r50
  obtain rfl : args = #[v0, v1, v2, v3, v4, v5] := by cases args; simp_all
  obtain ⟨rfl, rfl⟩ := trodVars_none hV
  obtain ⟨a0, rfl, rfl, rfl, w0⟩ := open_int Tryd.underlying3 (hval 0 3 v0 rfl rfl) h0
  obtain ⟨a1, r1, z1, y1, c1⟩ := strs_in Tryd.underlying23 Tryd.underlying9 cellsStr bytesStr (hval 1 23 v1 rfl rfl) h1 (fun x hx => by
    have := List.all_eq_true.1 hz x (DataW.weights_mem_each (j := 1) (t := 23) rfl rfl x hx)
    simpa using this)
  obtain ⟨a2, rfl, rfl, rfl, _⟩ := open_string Tryd.underlying9 (hval 2 9 v2 rfl rfl) h2
  have z2 : a2.size ≤ 140737488351232 := sized_string hz (j := 2) (t := 9) rfl rfl
  obtain ⟨a3, r3, z3, y3, c3⟩ := strs_in Tryd.underlying23 Tryd.underlying9 cellsStr bytesStr (hval 3 23 v3 rfl rfl) h3 (fun x hx => by
    have := List.all_eq_true.1 hz x (DataW.weights_mem_each (j := 3) (t := 23) rfl rfl x hx)
    simpa using this)
  obtain ⟨a4, r4, y4⟩ := ints_in Tryd.underlying30 Tryd.underlying3 cellsInt (hval 4 30 v4 rfl rfl) h4
  obtain ⟨a5, rfl, rfl, rfl, w5⟩ := open_int Tryd.underlying28 (hval 5 28 v5 rfl rfl) h5
  refine (RecordTorn_walk a0 v1 v3 v4 a1 a3 a4 a2 a5 W r1 (capOk_of c1) r3 r4 y1 y3 (u16_bounds w5) (table hL)).mono fun e W' ⟨he, hb⟩ => ?_
  subst he
  exact ⟨_, rfl, post_law (T := 4) rfl hW' (by kernel_rfl) (fun _ => rfl) rfl Tryd.underlying4 hb⟩

theorem reads (os : Os) {H : Type} (enc : TypeId × Value → H) : ∃ places, DataW.whole enc Tryd.prog ((laidWorld os).forCall (fun _ _ => 0) ⟨#[], #[(.int .i64 0 : Value), (.slice none 0 0 : Value), (.string ⟨#[]⟩ : Value), (.slice none 0 0 : Value), (.slice none 0 0 : Value), (.int .u16 0 : Value)], []⟩).memory Tryd.f8.params.toList Rows.recordTornSpec.vars false (#[(.int .i64 0 : Value), (.slice none 0 0 : Value), (.string ⟨#[]⟩ : Value), (.slice none 0 0 : Value), (.slice none 0 0 : Value), (.int .u16 0 : Value)]).toList 8 = some ([.lit (.int .i64 0), .nil, .lit (.string []), .nil, .nil, .lit (.int .u16 0)], [], places) :=
  ⟨[], by kernel_rfl⟩
theorem laid_met (os : Os) : laidMet Tryd.prog Rows.recordTornRow.laid ((laidWorld os).forCall (fun _ _ => 0) ⟨#[], #[(.int .i64 0 : Value), (.slice none 0 0 : Value), (.string ⟨#[]⟩ : Value), (.slice none 0 0 : Value), (.slice none 0 0 : Value), (.int .u16 0 : Value)], []⟩).memory :=
  laidMet_of_run' 8 (by kernel_rfl) (by kernel_rfl)

theorem lifted (os : Os) (started : os.Started) (H : Type) (enc : TypeId × Value → H) (F : Stop.Interp) :
    ReturnsInHanded {} Tryd.checked os 8 .any ((OpenSpec.ofChange Rows.recordTornSpec).preRow enc Tryd.prog Tryd.f8 Rows.recordTornRow.domain false Rows.recordTornRow.laid) (((OpenSpec.ofChange Rows.recordTornSpec).at F).post enc Tryd.prog Tryd.f8 false true false false) := by
  obtain ⟨places, hx⟩ := reads os enc
  refine returnsInHanded_of_row (C := Tryd.checked) (s := OpenSpec.ofChange Rows.recordTornSpec) own started (by kernel_rfl) Tryd.func8
    (witness_row_at (enc := enc) (C := Tryd.checked) false (laidWorld os) #[(.int .i64 0 : Value), (.slice none 0 0 : Value), (.string ⟨#[]⟩ : Value), (.slice none 0 0 : Value), (.slice none 0 0 : Value), (.int .u16 0 : Value)] rfl (by kernel_rfl) (by kernel_rfl) (by kernel_rfl)
      (OpenSpec.preRow_of_cond 8 hx (by kernel_rfl) (fun k hk => by cases hk) (by kernel_rfl) (laid_met os))) ?_
  intro W base args ds gs before hval hW _ _ hz hL _ _
  exact contract H enc W base args ds gs before hval hW hz hL

theorem said : Rows.RecordTornSaid :=
  OpenClaim.holds_of_cond 8 Tryd.f8 rfl rfl rfl rfl rfl rfl rfl ⟨rfl, rfl, rfl, rfl, rfl⟩ rfl rfl rfl rfl rfl (by kernel_rfl) Tryd.func8 (by kernel_rfl)
    (of_decide_eq_true (by kernel_rfl)) (by unfold Func.isWrapper; first | (rw [if_pos (by decide +kernel)]; kernel_rfl) | (rw [if_neg (by decide +kernel)]; exact ⟨rfl, rfl⟩))
    (fun os started H enc _ F => by rw [OpenClaim.pre_eq_preRow]; exact lifted os started H enc F)

theorem plain (f : FuncId) (fn : Func) (hf : Tryd.pinned.checked.prog.funcNamed "assessor/assessorlaw54.RecordTorn" = some f) (hfn : Tryd.pinned.checked.prog.funcs[f]? = some fn) :
    true = Tryd.pinned.checked.prog.looks [] ∧ ∀ (j : Nat) t, fn.params[j]? = some t → Tryd.pinned.checked.prog.wantsStandIn t = false := by
  obtain rfl : f = 8 := Option.some.inj ((show Tryd.prog.funcNamed "assessor/assessorlaw54.RecordTorn" = some 8 by kernel_rfl).symm.trans hf) |>.symm
  obtain rfl : fn = Tryd.f8 := (Option.some.inj (Tryd.func8.symm.trans hfn)).symm
  refine ⟨by kernel_rfl, fun j t ht => ?_⟩
  rw [Tryd.params8] at ht
  have hm := Array.mem_of_getElem? ht
  have hall : (Tryd.f8.params.toList.all fun u => !Tryd.prog.wantsStandIn u) = true := by kernel_rfl
  rw [Tryd.params8] at hall
  have := List.all_eq_true.1 hall t (by simpa using hm)
  exact (show Tryd.prog.wantsStandIn t = false by simpa using this)

/-- The statement. -/
theorem card : Rows.RecordTornCardSaid :=
  Claim7.holds_tied_plain_at .later [] _ _ _ _ said (fun _ h => by cases h) (by kernel_rfl) (fun _ h => by cases h) recordTorn_row_tie rfl ⟨rfl, rfl⟩ (by kernel_rfl) rfl plain (by kernel_rfl)
end Go.Proofs.YtcbapogicjhkjaaDoor.recordTorn
