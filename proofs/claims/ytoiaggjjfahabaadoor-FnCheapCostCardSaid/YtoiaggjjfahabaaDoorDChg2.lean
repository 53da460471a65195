/- l20Charge: the walk. No condition. -/
import Derived.Test.YtoiaggjjfahabaaDoorDChg
import Derived.Test.YtoiaggjjfahabaaDoorChg19
import Derived.Test.YtoiaggjjfahabaaDoorLMPlan
namespace Go.Proofs.YtoiaggjjfahabaaDoor
open Go.RowKit
set_option linter.unusedVariables false
/-- rows of numbers from 0 to b -/
def Mdd (rows : List (List Int)) (b : Int) : Prop := ∀ i j : Nat, 0 ≤ (rows.getD i []).getD j 0 ∧ (rows.getD i []).getD j 0 ≤ b
theorem Mdd.set {rows : List (List Int)} {b : Int} (h : Mdd rows b) (i j : Nat) {v b' : Int} (h0 : 0 ≤ v) (h1 : v ≤ b') (hb : b ≤ b') : Mdd (rows.set i ((rows.getD i []).set j v)) b' := by
  intro x y
  rw [getD_set]
  split
  · rw [getD_set]
    split
    · exact ⟨h0, h1⟩
    · have := h i y; omega
  · have := h x y; omega
theorem Mdd.row {rows : List (List Int)} {b : Int} (h : Mdd rows b) (i : Nat) {zs : List Int} (hz : ∀ j : Nat, 0 ≤ zs.getD j 0 ∧ zs.getD j 0 ≤ b) : Mdd (rows.set i zs) b := by
  intro x y
  rw [getD_set]
  split
  · exact hz y
  · exact h x y
theorem Mdd.le {rows : List (List Int)} {b b' : Int} (h : Mdd rows b) (hb : b ≤ b') : Mdd rows b' := fun i j => by have := h i j; omega
theorem Mdd.mid {rows : List (List Int)} {b : Int} (h : Mdd rows b) (hb : b ≤ 1000) : Mid rows := h.le hb
theorem mp_mdd (qs : List Quad) (cs : List Int) : Mdd (mpV qs cs) 100 := by
  intro i j
  by_cases h : nsV qs = true ∧ fvV cs = true
  · obtain ⟨P, pl, ps, p6, pa⟩ := mp_good h.1 h.2
    rcases Nat.lt_or_ge i qs.length with g | g
    · have a := P.row i (by rw [us_len]; exact g) j
      have b := rs_bd h.1 i j
      omega
    · rw [getD_hi (mpV qs cs) _ _ (by rw [pl]; exact g)]; simp
  · unfold mpV; rw [if_neg h]; simp
set_option maxRecDepth 100000 in
set_option maxHeartbeats 8000000 in
theorem charge_ok (r : Nat) (B : Nat) (w : World) (h : RB w r B) (hB : B ≤ 500000000) :
    Calls Tryd.prog 66 #[.pointer (some ⟨r, 0, none⟩)] w (CG w r (B + 800)) := by
  obtain ⟨i0, hi0, ia, ib, ic⟩ := info_parts infoNd
  obtain ⟨iR, hi1, ia1, ib1, ic1⟩ := info_parts infoRw
  have hmk3 := run_make_row' (P := Tryd.prog) 28 3 (.int .i64 0) 8 Tryd.underlying28 infoIn rfl .i64 .i64 6 (by omega) (by omega)
  rw [show ((6 : Nat) : Int) = 6 from rfl] at hmk3
  go_enter Tryd.func66, Tryd.ntmps66
  go_upto_region 4 with (first
    | (go_at_call 93; ((with_reducible refine (needs_ok r 14 _ _ h ?_ ?_ ?_).mono ?_); (omega); (omega); (omega); rintro e w2 ⟨G, n, c, qs, rfl, hB1, k1, k2, k3, k4, hr2, hs⟩; have HB1 := Lib.hid hB1; clear h hB1))
    | (go_at_call 94; ((with_reducible refine (feed_ok r 14 _ _ hr2 ?_ ?_ ?_).mono ?_); (omega); (omega); (omega); rintro e w3 ⟨F, m, d, zs, rfl, hI, m1, m2, m3, m4, hr3, hs3⟩; have HI := Lib.hid hI; clear hI hr2))
    | (go_at_call 100; ((with_reducible refine (MostPlan_s (some ⟨G, 0, none⟩) F n c d m qs zs _ (HB1.out _ hs3) (HI.out _ (Stp.refl _ _)) ?_ ?_ (smA_all k4)).mono ?_); (omega); (omega); rintro e w4 ⟨g, cp, ob, L, rfl, hO, hL, hb4⟩)))
  have hle := @mp_le qs zs
  have hmd := mp_mdd qs zs
  obtain ⟨rows, hrows⟩ : ∃ rows, mpV qs zs = rows := ⟨_, rfl⟩
  rw [hrows] at hle hmd hO ⊢
  obtain ⟨N, hN⟩ : ∃ N, rows.length = N := ⟨_, rfl⟩
  rw [hN] at hle hO ⊢
  have T : CS w3 w4 r (B + 290) g cp N ob rows := ⟨(hr3.below hb4).le (by omega), Stp.of_below hb4 (Nat.le_of_lt hr3.lt), hO.lower hL, hr3.lt⟩
  have HBk : Hid (∀ w2, Stp r w3 w2 → Books w2 (some ⟨G, 0, none⟩) n qs) := fun w2 h2 => HB1.out _ (hs3.trans h2)
  have HIk : Hid (∀ w2, Stp r w3 w2 → Ints w2 F m zs) := fun w2 h2 => HI.out _ h2
  have HW := Lib.hid (hs.trans hs3)
  have K4 := Lib.hid k4
  have M4 := Lib.hid m4
  clear hrows hN hO hL hb4 hs hs3 hr3 HB1 HI k4 m4
  go_upto_if 23 with (go_at_call 50; ((with_reducible refine (pk r 4 _ _ T.rb ?_ ?_ ?_).mono ?_); (omega); (omega); (omega); rintro e w5 ⟨x1, rfl, y1, z1, hr, hs⟩; replace T := T.step hr hs; clear hr hs))
  go_cut [7] (fun pv wx => ∃ (g c : Nat) (ob : List Nat) (rows : List (List Int)), pv = .slice (some ⟨g, 0, none⟩) N c ∧ CS w3 wx r (B + 300) g c N ob rows ∧ Mdd rows 100)
  case first =>
    by_cases hx : x1 = 0
    · have hx0 : (x1 == 0) = true := by simp [hx]
      rw [hx0]
      clear hx y1 z1 hx0
      have hl := T.lt
      have hrl := T.rb.lt
      have own0 := own_new0q w5 w5.heap.size 84 4 (Nat.le_refl _)
      have hbT : Below w5.heap.size w5 (w5.alloc (.cells #[] 84)) := (Below.refl _ _).alloc (Nat.le_refl _) _
      have HT := Lib.hid T
      clear T
      go_wp2
      go_loopw [8, 9] (fun tv kv wx => ∃ (j gT cT : Nat) (ps : List Quad), j ≤ n ∧ kv = .int .i64 ((n : Int) - 1 - j) ∧ tv = .slice (some ⟨gT, 0, none⟩) j cT ∧ wx.ownsRow w5.heap.size 84 4 (.slice (some ⟨gT, 0, none⟩) j cT) j (ps.flatMap Quad.cells) ∧ ps.length = j ∧ (∀ q ∈ ps, SmQ q) ∧ Below w5.heap.size w5 wx) (fun _ kv _ => (intOf kv + 1).toNat)
      case atStart => exact ⟨0, _, 0, [], by omega, by simp, rfl, own0, rfl, by simp, hbT⟩
      case round =>
        clear own0 hbT
        obtain ⟨j, gT, cT, ps, hj, rfl, rfl, hown, hpl, hps, hb⟩ := hrel
        have hsz := hb.size
        have hst := HT.out.st.trans (Stp.of_below hb (Nat.le_of_lt hrl))
        by_cases hlt : j < n
        · obtain ⟨k, hk⟩ : ∃ k, k = n - 1 - j := ⟨_, rfl⟩
          have ek : (n : Int) - 1 - (j : Int) = (k : Int) := by omega
          rw [ek]
          have hBk := HBk.out _ hst
          have hql := hBk.1
          obtain ⟨nb, no, hno, hnl, hnc⟩ := hBk.2 (by omega)
          simp only [Option.some.injEq, Addr.mk.injEq, and_true] at hno
          obtain ⟨rfl, rfl⟩ := hno
          obtain ⟨r0, r1, r2, r3⟩ := hnc k (by omega)
          simp only [Nat.zero_add] at r0 r1 r2 r3
          have hqm : qs.getD k q0 ∈ qs := by
            rw [List.getD_eq_getElem?_getD, List.getElem?_eq_getElem (by omega)]; exact List.getElem_mem _
          have hqs := K4.out _ hqm
          obtain ⟨q, hq⟩ : ∃ q, qs.getD k q0 = q := ⟨_, rfl⟩
          rw [hq] at r0 r1 r2 r3 hqs
          obtain ⟨a, b, c', d'⟩ := q
          have i1 : (0 : Int) ≤ (k : Int) := by omega
          have i2 : (k : Int) < (n : Int) := by omega
          have hkj : Hid ((k : Int) - 1 = (n : Int) - 1 - ((j + 1 : Nat) : Int)) := by show _ = _; omega
          clear hnc hBk hqm hq hst ek hk
          go_wp2_with (at_builtin; go_loud (refine wpList_append_own _ rfl _ _ 39 rfl w5.heap.size 84 i0 (.agg #[.int .i64 0, .int .i64 0, .int .i64 0, .int .i64 0]) 4 32 Tryd.underlying39 hi0 ia ib ic rfl (by decide) _ _ _ rfl (hown.alloc _) ⟨wr.heap.size, 0, none⟩ 1 1 (Quad.cells ⟨a, b, c', d'⟩) rfl rfl ?c1 ?c2 ?c3 ?c4 ?c5 ?_))
          case c1 => first | exact fun j u hj => hj | exact cells_newq wr _ ⟨a, b, c', d'⟩
          case c2 => simp [Quad.cells, Value.oneCell']
          case c3 => unfold maxLen; omega
          case c4 => omega
          case c5 => first | omega | (simp; omega)
          intro v' w1 hown1 hgrow _
          obtain ⟨gT2, cT2, rfl, _, _, _, _⟩ := own_at hown1 (by omega)
          have hown2 : w1.ownsRow w5.heap.size 84 4 (.slice (some ⟨gT2, 0, none⟩) (j + 1) cT2) (j + 1) ((ps ++ [(⟨a, b, c', d'⟩ : Quad)]).flatMap Quad.cells) := by rw [List.flatMap_append]; simpa using hown1
          have hb2 : Below w5.heap.size w5 w1 := (hb.alloc hsz _).grown hgrow (by simp; omega) (fun q hq => (hown.lt q hq).1)
          have hps2 : ∀ q ∈ ps ++ [(⟨a, b, c', d'⟩ : Quad)], SmQ q := fun q hq => by
            rcases List.mem_append.mp hq with q1 | q1
            · exact hps q q1
            · simp at q1; subst q1; exact hqs
          clear hown1 hgrow hown hb
          go_wp2
          go_roundw
          case rel =>
            exact ⟨j + 1, gT2, cT2, ps ++ [(⟨a, b, c', d'⟩ : Quad)], hlt, congrArg (Value.int .i64) hkj.out, rfl, hown2, by simp [hpl], hps2, hb2⟩
          case measure => simp [intOf]
        · obtain rfl : j = n := by omega
          have ej : (j : Int) - 1 - (j : Int) = -1 := by omega
          rw [ej]
          have hBt := own_books hown hpl
          have hIt := HIk.out _ hst
          have P0 := MostPlan_s (some ⟨gT, 0, none⟩) F j cT d m ps zs wr hBt hIt (by omega) (by omega) (smA_all hps)
          have hle2 := @mp_le ps zs
          have hmd2 := mp_mdd ps zs
          obtain ⟨rows2, hrows2⟩ : ∃ rows2, mpV ps zs = rows2 := ⟨_, rfl⟩
          rw [hrows2] at P0 hle2 hmd2
          obtain ⟨N2, hN2⟩ : ∃ N2, rows2.length = N2 := ⟨_, rfl⟩
          have HN2 := Lib.hid hN2
          rw [hN2] at hle2
          have HM2 := Lib.hid hmd2
          have HMD := Lib.hid hmd
          clear hrows2 hN2 hmd2 hBt hIt hown hps hst hmd
          go_upto_region 11 with (go_at_call 100; ((with_reducible refine P0.mono ?_); rintro e w6 ⟨g2, cp2, ob2, L2, rfl, hO2, hL2, hb6⟩; rw [HN2.out] at hO2; rw [HN2.out]; clear P0))
          have T6 := HT.out.below (hb.trans (hb6.mono hsz))
          have gl := HT.out.ot.at_
          have hobl : ∀ i, i < N → ob.getD i 0 < wr.heap.size := fun i hi => Nat.lt_of_lt_of_le (HT.out.ot.rr i hi).lt hsz
          have hg2 := hO2.at_
          have HT6 := Lib.hid T6
          have HOB := Lib.hid hobl
          have HO2 := Lib.hid hO2
          clear HT T6 hobl hO2 hb hb6
          obtain ⟨wo, rfl⟩ : ∃ wo : World, wo = wr := ⟨_, rfl⟩
          by_cases hNN : N2 = N
          · subst hNN
            go_wp2
            go_loopw [11] (fun kv wx => ∃ (t : Nat) (ob' : List Nat) (rows' : List (List Int)), t ≤ N2 ∧ kv = .int .i64 t ∧ CS w3 wx r (B + 300) g cp N2 ob' rows' ∧ Mdd rows' 100 ∧ OT wx wo.heap.size L2 g2 cp2 N2 ob2 rows2 ∧ (∀ i, i < N2 → t ≤ i → ob'.getD i 0 < wo.heap.size) ∧ (∀ i, i < t → ob'.getD i 0 = ob2.getD (N2 - 1 - i) 0)) (fun kv _ => N2 - (intOf kv).toNat)
            case atStart => exact ⟨0, ob, rows, by omega, rfl, HT6.out.le (by omega), HMD.out, HO2.out, fun i hi _ => HOB.out i hi, fun i hi => absurd hi (by omega)⟩
            case round =>
              clear HT6 HO2
              obtain ⟨t, ob', rows', ht, rfl, T, hmd, hO2, ho1, ho2⟩ := hrel
              by_cases hlt2 : t < N2
              · obtain ⟨y, hy⟩ : ∃ y, y = N2 - 1 - t := ⟨_, rfl⟩
                have u1 : IntKind.i64.wrap ((N2 : Int) - 1) = (N2 : Int) - 1 := IntWalk.i64_in _ (by omega)
                have u2 : IntKind.i64.wrap ((N2 : Int) - 1 - (t : Int)) = (y : Int) := by rw [show (N2 : Int) - 1 - (t : Int) = (y : Int) by omega]; exact IntWalk.i64_in _ (by omega)
                have u3 : (N2 : Int) - 1 - (t : Int) = (y : Int) := by omega
                have o2 := hO2.cellO (i := y) (by omega)
                have o1 := T.ot.cellO hlt2
                have f1 : wr.frozen? ⟨g, t, none⟩ = false := by
                  rcases T.ot.own.2 with ⟨h0, _⟩ | ⟨gx, cx, cur, e1, _, hgx, _⟩
                  · cases h0
                  · simp only [Value.slice.injEq, Option.some.injEq, Addr.mk.injEq, and_true, true_and] at e1
                    obtain ⟨rfl, rfl⟩ := e1
                    exact Blk.frozen (show Blk wr g 28 cur from hgx) t
                have hrow := hO2.rr y (by omega)
                have hro6 := hO2.six y (by omega)
                have hlo2 := hO2.lo y (by omega)
                have hd1 := hO2.d1
                have hd2 := hO2.d2
                have hlo := hO2.lo
                have hglt := gl.2.1
                have hT2 := T.setrow hlt2 hrow hro6 (by omega) (by omega) (fun q hq hne => by
                  rcases Nat.lt_or_ge q t with q1 | q1
                  · rw [ho2 q q1]; exact hd2 _ _ (by omega) (by omega) (by omega)
                  · have := ho1 q hq q1; omega)
                have hmd2 : Mdd (rows'.set t (rows2.getD y [])) 100 := hmd.row t fun j => HM2.out y j
                have hO3 := hO2.far (p := ⟨g, t, none⟩) (by show g2 ≠ g; omega) (fun i hi => by have := hlo i hi; show _ ≠ g; omega) (.slice (some ⟨ob2.getD y 0, 0, none⟩) 6 6)
                have ho3 : ∀ i, i < N2 → t + 1 ≤ i → (ob'.set t (ob2.getD y 0)).getD i 0 < wo.heap.size := fun i hi hti => by
                  rw [getD_set, if_neg (fun q => by omega)]; exact ho1 i hi (by omega)
                have hol := T.ot.ol
                have ho4 : ∀ i, i < t + 1 → (ob'.set t (ob2.getD y 0)).getD i 0 = ob2.getD (N2 - 1 - i) 0 := fun i hi => by
                  rw [getD_set]
                  by_cases e : t = i
                  · rw [if_pos ⟨e, by omega⟩, hy, e]
                  · rw [if_neg (fun q => e q.1)]; exact ho2 i (by omega)
                have i1 : (0 : Int) ≤ (t : Int) := by omega
                have i2 : (t : Int) < (N2 : Int) := by omega
                have i3 : (0 : Int) ≤ (y : Int) := by omega
                have i4 : (y : Int) < (N2 : Int) := by omega
                have HTT := Lib.hid hT2
                have HMM := Lib.hid hmd2
                have HOO := Lib.hid hO3
                have HO3 := Lib.hid ho3
                have HO4 := Lib.hid ho4
                clear T hmd hO2 ho1 ho2 hrow hro6 hlo2 hd1 hd2 hlo hT2 hmd2 hO3 ho3 ho4 hol hy
                go_wp2
                go_roundw
                case rel => exact ⟨t + 1, _, _, by omega, by go_num, HTT.out, HMM.out, HOO.out, HO3.out, HO4.out⟩
                case measure => simp [intOf]; omega
              · obtain rfl : t = N2 := by omega
                go_wp2_with fail
                go_meet
                exact ⟨g, cp, ob', rows', rfl, T, hmd⟩
          · have hne : ((N2 : Int) == (N : Int)) = false := by simp; omega
            have hne2 : (N2 == N) = false := by simp; omega
            go_wp2
            go_loopw [11] (fun kv wx => kv = .int .i64 0 ∧ CS w3 wx r (B + 300) g cp N ob rows) (fun kv _ => 0)
            case atStart => exact ⟨rfl, HT6.out.le (by omega)⟩
            case round =>
              clear HT6 HO2
              obtain ⟨rfl, T⟩ := hrel
              by_cases hN0 : 0 < N
              · have x1 : decide ((0 : Int) < (N : Int)) = true := by simp; omega
                have x2 : decide (0 < N) = true := by simpa using hN0
                go_wp2_with fail
                go_meet
                exact ⟨g, cp, ob, rows, rfl, T, HMD.out⟩
              · have x1 : decide ((0 : Int) < (N : Int)) = false := by simp; omega
                have x2 : decide (0 < N) = false := by simpa using hN0
                go_wp2_with fail
                go_meet
                exact ⟨g, cp, ob, rows, rfl, T, HMD.out⟩
    · have hx0 : (x1 == 0) = false := by simp [hx]
      clear hx y1 z1
      go_wp2_with fail
      go_meet
      exact ⟨g, cp, ob, rows, rfl, T.le (by omega), hmd⟩
  case rest =>
    obtain ⟨g, c2, ob, rows, rfl, T, hmd⟩ := hcut
    clear y1 z1
    go_wp2
    go_loopw [12] (fun kv wx => ∃ (k : Nat) (rows : List (List Int)), k ≤ N ∧ kv = .int .i64 k ∧ CS w3 wx r (B + 300 + 12 * k) g c2 N ob rows ∧ Mdd rows (100 + 6 * k)) (fun kv _ => N - (intOf kv).toNat)
    case atStart => exact ⟨0, rows, by omega, rfl, T, hmd.le (by omega)⟩
    case round =>
      clear T hmd
      obtain ⟨k, rows, hk, rfl, T, hmd⟩ := hrel
      by_cases hlt : k < N
      · have hi1 : (0 : Int) ≤ (k : Int) := by omega
        have hi2 : (k : Int) < (N : Int) := by omega
        go_wp2
        go_loopw [13] (fun hv wx => ∃ (j : Nat) (rows : List (List Int)), j ≤ 6 ∧ hv = .int .i64 j ∧ CS w3 wx r (B + 300 + 12 * k + 2 * j) g c2 N ob rows ∧ Mdd rows (100 + 6 * k + j)) (fun hv _ => 6 - (intOf hv).toNat)
        case atStart => exact ⟨0, rows, by omega, rfl, T, hmd.le (by omega)⟩
        case round =>
          clear T hmd
          obtain ⟨j, rows, hj, rfl, T, hmd⟩ := hrel
          by_cases hlt2 : j < 6
          · have hj1 : (0 : Int) ≤ (j : Int) := by omega
            have hj2 : (j : Int) < 6 := by omega
            go_upto_if 78 with (go_at_call 50; ((with_reducible refine (pk r 20 _ _ T.rb ?_ ?_ ?_).mono ?_); (omega); (omega); (omega); rintro e w5 ⟨x2, rfl, y2, z2, hr, hs⟩; replace T := T.step hr hs; clear hr hs))
            go_cut [] (fun wx => ∃ (rows : List (List Int)), CS w3 wx r (B + 300 + 12 * k + 2 * j + 1) g c2 N ob rows ∧ Mdd rows (100 + 6 * k + j))
            case first =>
              by_cases hx : x2 = 0
              · have hx0 : (x2 == 0) = true := by simp [hx]
                have o0 := T.ot.cellO hlt
                have o1 := T.ot.cellR hlt hlt2
                have f1 := (T.ot.rr k hlt).frozen j
                have hv := hmd k j
                obtain ⟨v, hvv⟩ : ∃ v, (rows.getD k []).getD j 0 = v := ⟨_, rfl⟩
                obtain ⟨bk, hbk⟩ : ∃ bk, ob.getD k 0 = bk := ⟨_, rfl⟩
                rw [hvv] at o1 hv
                rw [hbk] at o0 o1 f1
                have HT := Lib.hid T
                have HMD := Lib.hid hmd
                have HBK := Lib.hid hbk
                have u1 : IntKind.i64.wrap (v - 1) = v - 1 := IntWalk.i64_in _ (by omega)
                clear hx y2 z2 T hmd hvv hbk
                go_upto_region 22 with fail
                go_region
                all_goals
                  go_wp2_with fail
                  go_meet
                  have hp := (HT.out.put (j := j) hlt (max (v - 1) 0)).below (Below.refl _ _).drew
                  rw [HBK.out] at hp
                  exact ⟨_, hp, HMD.out.set _ _ (by omega) (by omega) (Int.le_refl _)⟩
              · have hx0 : (x2 == 0) = false := by simp [hx]
                clear hx y2 z2
                go_wp2_with fail
                go_meet
                exact ⟨rows, T, hmd⟩
            case rest =>
              obtain ⟨rows, T, hmd⟩ := hcut
              clear y2 z2
              go_upto_if 96 with (go_at_call 50; ((with_reducible refine (pk r 90 _ _ T.rb ?_ ?_ ?_).mono ?_); (omega); (omega); (omega); rintro e w6 ⟨x3, rfl, y3, z3, hr, hs⟩; replace T := T.step hr hs; clear hr hs))
              by_cases hx : x3 = 0
              · have hx0 : (x3 == 0) = true := by simp [hx]
                have o0 := T.ot.cellO hlt
                have o1 := T.ot.cellR hlt hlt2
                have f1 := (T.ot.rr k hlt).frozen j
                have hv := hmd k j
                obtain ⟨v, hvv⟩ : ∃ v, (rows.getD k []).getD j 0 = v := ⟨_, rfl⟩
                obtain ⟨bk, hbk⟩ : ∃ bk, ob.getD k 0 = bk := ⟨_, rfl⟩
                rw [hvv] at o1 hv
                rw [hbk] at o0 o1 f1
                have HT := Lib.hid T
                have HMD := Lib.hid hmd
                have HBK := Lib.hid hbk
                have u1 : IntKind.i64.wrap (v + 1) = v + 1 := IntWalk.i64_in _ (by omega)
                clear hx y3 z3 T hmd hvv hbk
                go_upto_region 24 with fail
                go_region
                all_goals
                  have hp := (HT.out.put (j := j) hlt (v + 1)).below (Below.refl _ _).drew
                  rw [HBK.out] at hp
                  have HP := Lib.hid (hp.le (B2 := B + 300 + 12 * k + 2 * (j + 1)) (by omega))
                  have HM2 := Lib.hid (HMD.out.set k j (v := v + 1) (b' := 100 + 6 * (k : Int) + ((j + 1 : Nat) : Int)) (by omega) (by omega) (by omega))
                  clear hp o0 o1 f1
                  go_wp2
                  go_roundw
                  case rel => exact ⟨j + 1, _, hlt2, by go_num, HP.out, HM2.out⟩
                  case measure => simp [intOf]; omega
              · have hx0 : (x3 == 0) = false := by simp [hx]
                have T2 := Lib.hid (T.le (B2 := B + 300 + 12 * k + 2 * (j + 1)) (by omega))
                have HM2 := Lib.hid (hmd.le (b' := 100 + 6 * (k : Int) + ((j + 1 : Nat) : Int)) (by omega))
                clear hx y3 z3 T hmd
                go_wp2
                go_roundw
                case rel => exact ⟨j + 1, _, hlt2, by go_num, T2.out, HM2.out⟩
                case measure => simp [intOf]; omega
          · obtain rfl : j = 6 := by omega
            go_wp2
            go_roundw
            case rel => exact ⟨k + 1, rows, hlt, by go_num, T.le (by omega), hmd.le (by omega)⟩
            case measure => simp [intOf]; omega
      · obtain rfl : k = N := by omega
        go_upto_if 112 with (go_at_call 101; ((with_reducible refine (od r 20 _ _ T.rb ?_ ?_ ?_).mono ?_); (omega); (omega); (omega); rintro e w5 ⟨o, rfl, hodd, hr, hs⟩; clear hodd; replace T := T.step hr hs; clear hr hs))
        cases o
        · have hT := T.ot
          have hl := T.lt
          have hgc := T.ot.at_
          have hst := T.st
          have hrb := T.rb
          go_wp2_with fail
          refine bodyPost_ret (v := .tuple #[.slice (some ⟨G, 0, none⟩) n c, .slice F m d, .slice (some ⟨g, 0, none⟩) k c2]) (by simp [results, Tryd.results66, go_sem]) rfl ?_
          exact ⟨some ⟨G, 0, none⟩, n, c, qs, F, m, d, zs, some ⟨g, 0, none⟩, k, c2, rows, rfl, fun w2 h2 => HBk.out _ (hst.trans h2), fun w2 h2 => HIk.out _ (hst.trans h2), fun w2 h2 => (hT.stp h2 hl hl).tabs, k1, k2, k3, m1, m2, m3, by omega, hgc.2.2.1, hgc.2.2.2, hT.six, hmd.mid (by omega), K4.out, M4.out, hrb.le (by omega), HW.out.trans hst⟩
        · have hT := T.ot
          have hl := T.lt
          have hgc := T.ot.at_
          have hst := T.st
          have hrb := T.rb
          have hba : Below w5.heap.size w5 (w5.alloc (.cells (madeCells #[.int .i64 0] 6) 3)) := (Below.refl _ _).alloc (Nat.le_refl _) _
          have hT6 := hT.below hba
          have hB6 : Blk (w5.alloc (.cells (madeCells #[.int .i64 0] 6) 3)) w5.heap.size 3 (ints (List.replicate 6 0)) := by rw [← ints_made]; exact Blk.new _ _ _
          have hs6 : (w5.alloc (.cells (madeCells #[.int .i64 0] 6) 3)).heap.size = w5.heap.size + 1 := by simp
          have hz3 := hst.2.1
          go_wp2_with (at_builtin; refine wpList_append_fresh _ rfl _ _ 45 rfl w3.heap.size 28 iR (.slice none 0 0) 1 24 Tryd.underlying45 hi1 ia1 ib1 ic1 rfl (by decide) _ _ _ rfl (hT6.own.alloc _) ⟨w5.heap.size + 1, 0, none⟩ 1 1 [.slice (some ⟨w5.heap.size, 0, none⟩) 6 6] rfl rfl ?c1 ?c2 ?c3 ?c4 ?c5 ?_)
          case c1 => first
            | exact fun j u hj => hj
            | (have q := news_v (w5.alloc (.cells (madeCells #[.int .i64 0] 6) 3)) 28 (.slice (some ⟨w5.heap.size, 0, none⟩) 6 6); rw [hs6] at q; exact q)
          case c2 => simp [Value.oneCell']
          case c3 => unfold maxLen; omega
          case c4 => omega
          case c5 => simp; omega
          intro v' w8 hown2 hgrow2 hfr2
          obtain ⟨g', c', rfl, hO3, hg3, hk3⟩ := hT6.app hB6 (by simp) (by omega) (by omega) (fun i hi => by have := (hT.rr i hi).lt; omega) hown2 hgrow2 (by rw [hs6]; simpa using hfr2)
          have hst8 : Stp r w3 w8 := Stp.grown ((hst.trans (Stp.of_below hba (Nat.le_of_lt hrb.lt))).trans (Stp.of_below ((Below.refl _ _).alloc (Nat.le_refl _) _) (by have := hrb.lt; omega))) hgrow2 (Nat.le_of_lt hl) (fun q hq => by simp [Value.ownBlock] at hq; omega)
          have hrb8 := ((hrb.below hba).alloc _).grown hgrow2 hl (by simp; omega) (fun q hq => by simp [Value.ownBlock] at hq; omega)
          have hgc3 := hO3.at_
          have hmd2 : Mid (rows ++ [List.replicate 6 0]) := fun i j => by
            have hm := hmd i j
            rcases Nat.lt_trichotomy i k with q | q | q
            · rw [getD_append_lo _ _ _ _ (by rw [hT.rl]; exact q)]; omega
            · rw [getD_append_at _ _ _ _ (by rw [hT.rl]; exact q), List.getD_eq_getElem?_getD, List.getElem?_replicate]; split <;> simp
            · rw [getD_hi (rows ++ [List.replicate 6 0]) [] i (by rw [List.length_append, hT.rl]; simp; omega)]; simp
          clear hown2 hgrow2 hfr2 hk3 hT6 hB6
          go_wp2_with fail
          refine bodyPost_ret (v := .tuple #[.slice (some ⟨G, 0, none⟩) n c, .slice F m d, .slice (some ⟨g', 0, none⟩) (k + 1) c']) (by simp [results, Tryd.results66, go_sem]) rfl ?_
          exact ⟨some ⟨G, 0, none⟩, n, c, qs, F, m, d, zs, some ⟨g', 0, none⟩, k + 1, c', rows ++ [List.replicate 6 0], rfl, fun w2 h2 => HBk.out _ (hst8.trans h2), fun w2 h2 => HIk.out _ (hst8.trans h2), fun w2 h2 => (hO3.stp h2 hl hl).tabs, k1, k2, k3, m1, m2, m3, by omega, hgc3.2.2.1, hgc3.2.2.2, hO3.six, hmd2, K4.out, M4.out, hrb8.le (by omega), HW.out.trans hst8⟩
end Go.Proofs.YtoiaggjjfahabaaDoor
