/- slices.SortStableFunc at events: symMerge. -/
import Derived.Test.YtnjiomggbafkmaaGreatDoorSortM
import Derived.Deep.DeepCutAuto
import Derived.Deep.CutBlock
namespace Go.Proofs.YtnjiomggbafkmaaGreatDoor
open Go.RowKit Go.Lib Go.Sort

theorem toList_parts {d : Array BEv} {s m e : Nat} (h1 : s ≤ m) (h2 : m ≤ e) (h3 : e ≤ d.size) :
    d.toList = d.toList.take s ++ ((d.toList.drop s).take (m - s) ++ ((d.toList.drop m).take (e - m) ++ d.toList.drop e)) ∧ (d.toList.take s).length = s ∧ ((d.toList.drop s).take (m - s)).length = m - s ∧ ((d.toList.drop m).take (e - m)).length = e - m := by
  have e1 : d.toList.drop m = (d.toList.drop s).drop (m - s) := by rw [List.drop_drop]; congr 1; omega
  have e2 : d.toList.drop e = (d.toList.drop m).drop (e - m) := by rw [List.drop_drop]; congr 1; omega
  refine ⟨?_, by simp; omega, by simp; omega, by simp; omega⟩
  rw [e2, List.take_append_drop, e1, List.take_append_drop, List.take_append_drop]

set_option maxHeartbeats 4000000 in
set_option maxRecDepth 1000000 in
theorem symMerge_k (k : Nat) (hk : k = 9) (enc : BEv → List Value) (he : enc = evCs) (w0 : World) (blk off cap : Nat) (d0 : Array BEv) (R0 : RowK enc k w0 blk off d0) (hbig : d0.size < 4611686018427387904) (N : Nat) :
    ∀ (d : Array BEv) (a m b : Nat) (w : World), b - a ≤ N → d.size = d0.size → a < m → m < b → b ≤ d0.size → SortedA BEv.tick a m d → SortedA BEv.tick m b d → SWK enc k w0 blk off d w →
      Calls Tryz.prog 127 #[.slice (some ⟨blk, off, none⟩) d0.size cap, .int .i64 a, .int .i64 m, .int .i64 b, byTickV] w (Merged k enc w0 blk off a b d0 d) := by
  induction N with
  | zero => intro d a m b w hN _ h1 h2; omega
  | succ N ih =>
    intro d a m b w hN hsz h1 h2 hb hs1 hs2 hw
    by_cases hm1 : m = a + 1
    · exact symMerge_left k hk enc he w0 blk off cap d0 R0 d a m b hsz hm1 h2 hs2 hb hbig w hw
    by_cases hb1 : b = m + 1
    · exact symMerge_right k hk enc he w0 blk off cap d0 R0 d a m b hsz hb1 (by omega) hs1 hb hbig w hw
    have mixed := mixedOrders
    have zE : ∀ W, (Go.sizeOf 26).run Tryz.prog W = .ok k W := fun W => by rw [hk]; kernel_rfl
    have hC : Hid (CmpLays Tryz.prog 85 #[] enc k tickCmp blk off d0.size w0) := by rw [he, hk]; exact Lib.hid (byTick_lays _ _ _ _)
    have HR := Lib.hid R0
    have HW := Lib.hid hw
    have HS1 := Lib.hid hs1
    have HS2 := Lib.hid hs2
    have HIH := Lib.hid ih
    have hKK := Lib.hid hk
    replace hsz := Lib.hid hsz
    have eg : ∀ args W, (callFunc 85 args).run Tryz.prog W = .ok (.enter 85 args) W := enters_of Tryz.func85 (by kernel_rfl) rfl
    -- the numbers
    obtain ⟨mid, hmid⟩ : ∃ mid, mid = (a + b) / 2 := ⟨_, rfl⟩
    have em : ((a : Int) + (b : Int)) / 2 = (mid : Int) := by omega
    obtain ⟨n, hn⟩ : ∃ n, n = mid + m := ⟨_, rfl⟩
    have en : (mid : Int) + (m : Int) = (n : Int) := by omega
    obtain ⟨p, hp⟩ : ∃ p, p = n - 1 := ⟨_, rfl⟩
    have ep : (n : Int) - 1 = (p : Int) := by omega
    obtain ⟨lo, hi, hcase, f1, f2, f3, f4, f5, f6, f7⟩ : ∃ lo hi : Nat, ((mid < m ∧ (n : Int) - (b : Int) = (lo : Int) ∧ hi = mid) ∨ (m ≤ mid ∧ lo = a ∧ hi = m)) ∧ a ≤ lo ∧ lo ≤ hi ∧ hi ≤ m ∧ hi ≤ mid ∧ (lo = a ∨ n - lo = b) ∧ (hi = m ∨ hi = mid) ∧ n - lo ≤ b := by
      by_cases hc : mid < m
      · exact ⟨n - b, mid, .inl ⟨hc, by omega, rfl⟩, by omega, by omega, by omega, by omega, by omega, by omega, by omega⟩
      · exact ⟨a, m, .inr ⟨by omega, rfl, rfl⟩, by omega, by omega, by omega, by omega, by omega, by omega, by omega⟩
    have g1 : ((m : Int) - (a : Int) == 1) = false := by rw [beq_eq_false_iff_ne]; omega
    have g2 : ((b : Int) - (m : Int) == 1) = false := by rw [beq_eq_false_iff_ne]; omega
    have g3 : a < mid ∧ mid < b := by omega
    have hmid' := Lib.hid hmid
    have hn' : n ≤ mid + m ∧ mid + m ≤ n := by omega
    have hp' : p + 1 ≤ n ∧ n ≤ p + 1 := by omega
    replace hcase := Lib.hid hcase
    replace f5 := Lib.hid f5
    replace f6 := Lib.hid f6
    clear hk he R0 hw hs1 hs2 ih hm1 hb1 hmid hn hp
    go_enter Tryz.func127, Tryz.ntmps127
    go_upto_if 140 with fail
    go_cut [20, 21] (fun v20 v21 wx => v20 = .int .i64 (lo : Int) ∧ v21 = .int .i64 (hi : Int) ∧ wx = w)
    case first =>
      as_aux_lemma =>
      rcases hcase.out with ⟨c1, c2, c3⟩ | ⟨c1, c2, c3⟩
      · have c3' := Lib.hid c3
        clear c3
        go_wp2_with fail
        go_meet
        exact ⟨rfl, by rw [c3'.out], rfl⟩
      · have c2' := Lib.hid c2
        have c3' := Lib.hid c3
        clear c2 c3
        go_wp2_with fail
        go_meet
        exact ⟨by rw [c2'.out], by rw [c3'.out], rfl⟩
    case rest =>
      obtain ⟨rfl, rfl, hwc⟩ := hcut
      subst hwc
      go_wp2_with fail
      go_loopw [20, 21, 23] (fun v20 v21 _ wr => ∃ (s r : Nat), v20 = .int .i64 s ∧ v21 = .int .i64 r ∧ lo ≤ s ∧ s ≤ r ∧ r ≤ hi ∧ Hid (s = lo ∨ d[s - 1]!.tick ≤ d[n - s]!.tick) ∧ Hid (r = hi ∨ d[n - r - 1]!.tick < d[r]!.tick) ∧ Hid (SWK enc k w0 blk off d wr)) (fun v v' _ _ => (RowKit.intOf v').toNat - (RowKit.intOf v).toNat)
      case atStart => exact ⟨lo, hi, rfl, rfl, Nat.le_refl _, f2, Nat.le_refl _, Lib.hid (.inl rfl), Lib.hid (.inl rfl), HW⟩
      case round =>
        obtain ⟨s, r, rfl, rfl, hs, hsr, hr, hq1, hq2, hW⟩ := hrel
        have hsz' := hsz.out
        by_cases hlt : s < r
        · obtain ⟨c, hcc⟩ : ∃ c, c = (s + r) / 2 := ⟨_, rfl⟩
          have hc1 : s ≤ c := by omega
          have hc2 : c < r := by omega
          have ec : ((s : Int) + (r : Int)) / 2 = (c : Int) := by omega
          obtain ⟨q, hqq⟩ : ∃ q, q = p - c := ⟨_, rfl⟩
          have eq' : (p : Int) - (c : Int) = (q : Int) := by omega
          have hqe : n - c - 1 = q ∧ n - (c + 1) = q := by omega
          have lc := fun n os => hW.out.ld HR.out hsz' Tryz.prog c (by omega) n os
          have lq := fun n os => hW.out.ld HR.out hsz' Tryz.prog q (by omega) n os
          have hcg := fun n os => hW.out.cmp hC.out hsz' d[q]! d[c]! n os
          have HG := Lib.hid fun n os => hW.out.grown n os
          have k1 : (c : Int) < (d0.size : Int) := by omega
          have k2 : (q : Int) < (d0.size : Int) := by omega
          have k3 : IntKind.i64.wrap (q : Int) = (q : Int) := IntWalk.i64_in _ (by omega)
          have k4 : IntKind.i64.wrap ((p : Int) - (c : Int)) = (q : Int) := by rw [eq']; exact k3
          clear hcc hqq hsz'
          by_cases hlv : d[q]!.tick < d[c]!.tick
          · as_aux_lemma =>
            have hneg : tickCmp d[q]! d[c]! < 0 := tickCmp_lt.2 hlv
            have hq2' := Lib.hid (show c = hi ∨ d[n - c - 1]!.tick < d[c]!.tick from .inr (by rw [hqe.1]; exact hlv))
            clear hlv hqe
            obtain ⟨x, hx⟩ : ∃ z, z = d[q]! := ⟨_, rfl⟩
            rw [← hx] at hneg lq hcg
            clear hx
            obtain ⟨y, hy⟩ : ∃ z, z = d[c]! := ⟨_, rfl⟩
            rw [← hy] at hneg lc hcg
            clear hy
            generalize tickCmp x y = cv at *
            go_wp2_with fail
            go_quiet_grown (first | (go_at_fn 85; refine Calls.grown_of (hcg _ _)))
            have hg := Lib.hid (HG.out nq osq)
            clear lc lq hcg
            go_wp2_with fail
            exact ⟨⟨s, c, rfl, rfl, hs, hc1, by omega, hq1, hq2', hg⟩, by simp [RowKit.intOf]; omega⟩
          · as_aux_lemma =>
            have hneg : ¬ tickCmp d[q]! d[c]! < 0 := fun e => hlv (tickCmp_lt.1 e)
            have hq1' := Lib.hid (show c + 1 = lo ∨ d[c + 1 - 1]!.tick ≤ d[n - (c + 1)]!.tick from .inr (by rw [hqe.2, Nat.add_sub_cancel]; omega))
            clear hlv hqe
            obtain ⟨x, hx⟩ : ∃ z, z = d[q]! := ⟨_, rfl⟩
            rw [← hx] at hneg lq hcg
            clear hx
            obtain ⟨y, hy⟩ : ∃ z, z = d[c]! := ⟨_, rfl⟩
            rw [← hy] at hneg lc hcg
            clear hy
            generalize tickCmp x y = cv at *
            have hnn : (0 : Int) ≤ cv := by omega
            have hnd : decide (cv < 0) = false := decide_eq_false hneg
            go_wp2_with fail
            go_quiet_grown (first | (go_at_fn 85; refine Calls.grown_of (hcg _ _)))
            have hg := Lib.hid (HG.out nq osq)
            clear lc lq hcg
            go_wp2_with fail
            exact ⟨⟨c + 1, r, by go_num, rfl, by omega, by omega, hr, hq1', hq2, hg⟩, by simp [RowKit.intOf]; omega⟩
        · obtain rfl : s = r := by omega
          obtain ⟨e, he⟩ : ∃ e, e = n - s := ⟨_, rfl⟩
          have ee : (n : Int) - (s : Int) = (e : Int) := by omega
          have hms : mid + m - s = e := by omega
          have hSp : Split BEv.tick a m b mid s d := {
            ls := by omega
            sm := by omega
            smid := by omega
            mid_eq := hmid'.out
            me := by omega
            eb := by rw [hms]; rcases hn' with ⟨_, _⟩; omega
            left := by
              rw [hms, he]
              rcases hq1.out with h | h
              · rcases f5.out with h' | h'
                · exact .inl (by omega)
                · exact .inr (.inl (by omega))
              · exact .inr (.inr h)
            right := by
              rw [hms]
              rcases hq2.out with h | h
              · rcases f6.out with h' | h'
                · exact .inl (by omega)
                · exact .inr (.inl (by omega))
              · exact .inr (.inr (by rw [he]; exact h)) }
          have heb : m ≤ e ∧ e ≤ b := by
            have q1 := hSp.me
            have q2 := hSp.eb
            omega
          have hsb : s ≤ m ∧ s ≤ mid ∧ a ≤ s := ⟨hSp.sm, hSp.smid, hSp.ls⟩
          obtain ⟨t1, t2, t3, t4⟩ := toList_parts (d := d) (s := s) (m := m) (e := e) (by omega) (by omega) (by omega)
          obtain ⟨P, hP⟩ : ∃ P, P = d.toList.take s := ⟨_, rfl⟩
          obtain ⟨U, hU⟩ : ∃ U, U = (d.toList.drop s).take (m - s) := ⟨_, rfl⟩
          obtain ⟨V, hV⟩ : ∃ V, V = (d.toList.drop m).take (e - m) := ⟨_, rfl⟩
          obtain ⟨R, hR⟩ : ∃ R, R = d.toList.drop e := ⟨_, rfl⟩
          rw [← hP, ← hU, ← hV, ← hR] at t1
          rw [← hP] at t2
          rw [← hU] at t3
          rw [← hV] at t4
          have HSp := Lib.hid hSp
          replace t1 := Lib.hid t1
          replace t2 := Lib.hid t2
          replace t3 := Lib.hid t3
          replace t4 := Lib.hid t4
          replace hms := Lib.hid hms
          replace he := Lib.hid he
          clear hSp hP hU hV hR hsz' hlt
          obtain ⟨β, hβ⟩ : ∃ β : Bool, β = true ↔ (s < m ∧ m < e) := ⟨decide (s < m ∧ m < e), by simp⟩
          replace hβ := Lib.hid hβ
          go_upto_region 39 with fail
          obtain ⟨wo, hwo⟩ : ∃ wo : World, wo = wr := ⟨_, rfl⟩
          subst hwo
          go_cut [185] (fun v wx => v = .bool β ∧ wx = wo)
          case first =>
            as_aux_lemma =>
            by_cases c1 : s < m
            · by_cases c2 : m < e
              · have hb := Lib.hid (hβ.out.2 ⟨c1, c2⟩)
                go_wp2_with fail
                go_meet
                exact ⟨by rw [hb.out], rfl⟩
              · have hb := Lib.hid (show β = false by cases β with
                  | false => rfl
                  | true => exact absurd (hβ.out.1 rfl).2 c2)
                go_wp2_with fail
                go_meet
                exact ⟨by rw [hb.out], rfl⟩
            · have hb := Lib.hid (show β = false by cases β with
                | false => rfl
                | true => exact absurd (hβ.out.1 rfl).1 c1)
              go_wp2_with fail
              go_meet
              exact ⟨by rw [hb.out], rfl⟩
          case rest =>
          obtain ⟨rfl, hwo⟩ := hcut
          subst hwo
          go_upto_if 185 with fail
          go_cut [24] (fun v24 wx => v24 = .int .i64 (e : Int) ∧ ∃ d1 : Array BEv, d1.size = d0.size ∧ d1.toList = P ++ (V ++ (U ++ R)) ∧ SWK enc k w0 blk off d1 wx)
          case first =>
            as_aux_lemma =>
            cases β with
            | true =>
              · obtain ⟨c1, c2⟩ := hβ.out.1 rfl
                have C := Lib.hid (rotate_k k hKK.out enc w0 blk off cap d0 HR.out P U V R d s m e hsz.out t1.out t2.out t3.out t4.out c1 c2 (by rw [hsz.out]; exact hbig) _ hW.out)
                go_wp2_with fail
                refine C.out.mono ?_
                rintro ez w1 ⟨rfl, d', h3, h4, h5⟩
                replace h3 := Lib.hid h3
                replace h4 := Lib.hid h4
                replace h5 := Lib.hid h5
                go_wp2_with fail
                go_meet
                exact ⟨rfl, d', h3.out, h4.out, h5.out⟩
            | false =>
              have H : d.toList = P ++ (V ++ (U ++ R)) := by
                by_cases c1 : s < m
                · have c2 : ¬ m < e := fun c2 => by have := hβ.out.2 ⟨c1, c2⟩; cases this
                  have hV0 : V = [] := List.eq_nil_of_length_eq_zero (by rw [t4.out]; omega)
                  rw [t1.out, hV0]; rfl
                · have hU0 : U = [] := List.eq_nil_of_length_eq_zero (by rw [t3.out]; omega)
                  rw [t1.out, hU0]; rfl
              replace H := Lib.hid H
              go_wp2_with fail
              go_meet
              exact ⟨rfl, d, hsz.out, H.out, hW.out⟩
          case rest =>
            obtain ⟨rfl, d1, z1, l1, W1⟩ := hcut
            obtain ⟨B1, B2, S1, S2, S3, S4, LT⟩ := HSp.out.after h1 h2 (by rw [hsz.out]; exact hb) HS1.out HS2.out t1.out l1 t2.out t3.out (by rw [t4.out]; have := hms.out; omega)
            rw [hms.out] at S3 S4
            have hT1 := Lib.hid (show Turned a b d0 d d1 from ⟨z1, B1, B2⟩)
            replace W1 := Lib.hid W1
            replace S1 := Lib.hid S1
            replace S2 := Lib.hid S2
            replace S3 := Lib.hid S3
            replace S4 := Lib.hid S4
            replace LT := Lib.hid LT
            replace z1 := Lib.hid z1
            clear B1 B2 l1
            obtain ⟨γ, hγ⟩ : ∃ γ : Bool, γ = true ↔ (a < s ∧ s < mid) := ⟨decide (a < s ∧ s < mid), by simp⟩
            replace hγ := Lib.hid hγ
            go_upto_region 41 with fail
            obtain ⟨wq, hwq⟩ : ∃ wq : World, wq = wc := ⟨_, rfl⟩
            subst hwq
            go_cut [199] (fun v wx => v = .bool γ ∧ wx = wq)
            case first =>
              as_aux_lemma =>
              by_cases c1 : a < s
              · by_cases c2 : s < mid
                · have hb := Lib.hid (hγ.out.2 ⟨c1, c2⟩)
                  go_wp2_with fail
                  go_meet
                  exact ⟨by rw [hb.out], rfl⟩
                · have hb := Lib.hid (show γ = false by cases γ with
                    | false => rfl
                    | true => exact absurd (hγ.out.1 rfl).2 c2)
                  go_wp2_with fail
                  go_meet
                  exact ⟨by rw [hb.out], rfl⟩
              · have hb := Lib.hid (show γ = false by cases γ with
                  | false => rfl
                  | true => exact absurd (hγ.out.1 rfl).1 c1)
                go_wp2_with fail
                go_meet
                exact ⟨by rw [hb.out], rfl⟩
            case rest =>
            obtain ⟨rfl, hwq⟩ := hcut
            subst hwq
            go_upto_if 199 with fail
            go_cut [] (fun wx => ∃ d2 : Array BEv, Turned a mid d0 d1 d2 ∧ SortedA BEv.tick a mid d2 ∧ SWK enc k w0 blk off d2 wx)
            case first =>
              as_aux_lemma =>
              cases γ with
              | true =>
                · obtain ⟨c1, c2⟩ := hγ.out.1 rfl
                  have C := Lib.hid (HIH.out d1 a s mid _ (by omega) z1.out c1 c2 (by omega) S1.out S2.out W1.out)
                  go_wp2_with fail
                  refine C.out.mono ?_
                  rintro ez w1 ⟨rfl, d', h3, h4, h5⟩
                  replace h3 := Lib.hid h3
                  replace h4 := Lib.hid h4
                  replace h5 := Lib.hid h5
                  go_wp2_with fail
                  go_meet
                  exact ⟨d', h3.out, h4.out, h5.out⟩
              | false =>
                have H : SortedA BEv.tick a mid d1 := by
                  by_cases c1 : a < s
                  · have c2 : ¬ s < mid := fun c2 => by have := hγ.out.2 ⟨c1, c2⟩; cases this
                    exact fun i j p1 p2 p3 => S1.out i j p1 p2 (by omega)
                  · exact fun i j p1 p2 p3 => S2.out i j (by omega) p2 p3
                replace H := Lib.hid H
                go_wp2_with fail
                go_meet
                exact ⟨d1, Turned.refl z1.out, H.out, W1.out⟩
            case rest =>
              as_aux_lemma =>
              obtain ⟨d2, hT2, SS2, W2⟩ := hcut
              have S3' := Lib.hid (S3.out.outside hT2.2.2 (.inr (Nat.le_refl _)))
              have S4' := Lib.hid (S4.out.outside hT2.2.2 (.inr (by omega)))
              replace hT2 := Lib.hid hT2
              replace SS2 := Lib.hid SS2
              replace W2 := Lib.hid W2
              have fin : ∀ d3, Turned mid b d0 d2 d3 → SortedA BEv.tick mid b d3 → Turned a b d0 d d3 ∧ SortedA BEv.tick a b d3 := fun d3 hT3 hS3 =>
                ⟨hT1.out.trans ((hT2.out.mono (Nat.le_refl _) (by omega)).trans (hT3.mono (by omega) (Nat.le_refl _))),
                  merge_halves (by omega) (by omega) (by rw [z1.out]; exact hb) hT2.out.2.1 hT2.out.2.2 hT3.2.1 hT3.2.2 SS2.out hS3 LT.out⟩
              replace fin := Lib.hid fin
              by_cases c1 : mid < e
              · by_cases c2 : e < b
                · have C := Lib.hid (HIH.out d2 mid e b _ (by omega) hT2.out.1 c1 c2 hb S3'.out S4'.out W2.out)
                  go_wp2_with fail
                  refine C.out.mono ?_
                  rintro ez w1 ⟨rfl, d', h3, h4, h5⟩
                  obtain ⟨q1, q2⟩ := fin.out d' h3 h4
                  replace q1 := Lib.hid q1
                  replace q2 := Lib.hid q2
                  replace h5 := Lib.hid h5
                  clear h3 h4
                  go_wp2_with fail
                  go_end0
                  exact ⟨rfl, d', q1.out, q2.out, h5.out⟩
                · obtain ⟨q1, q2⟩ := fin.out d2 (Turned.refl hT2.out.1) (fun i j p1 p2 p3 => S3'.out i j p1 p2 (by omega))
                  replace q1 := Lib.hid q1
                  replace q2 := Lib.hid q2
                  go_wp2_with fail
                  go_end0
                  exact ⟨rfl, d2, q1.out, q2.out, W2.out⟩
              · obtain ⟨q1, q2⟩ := fin.out d2 (Turned.refl hT2.out.1) (fun i j p1 p2 p3 => S4'.out i j (by omega) p2 p3)
                replace q1 := Lib.hid q1
                replace q2 := Lib.hid q2
                go_wp2_with fail
                go_end0
                exact ⟨rfl, d2, q1.out, q2.out, W2.out⟩
end Go.Proofs.YtnjiomggbafkmaaGreatDoor
