/- MostPlan of the program: the walk. Conditions: small numbers in the needs. -/
import Derived.Test.YtoiaggjjfahabaaDoorChg6
import Derived.Test.YtoiaggjjfahabaaDoorNews
namespace Go.Proofs.YtoiaggjjfahabaaDoor
open Go.RowKit
set_option linter.unusedVariables false
theorem sizeI : (Tryd.prog.info? 3).map (·.size) = some 1 := by kernel_rfl
/-- where it begins -/
def ch0 (qs : List Quad) (cs : List Int) : Chs := ⟨usL qs, rssL qs, cs⟩
theorem ch0_ok {qs : List Quad} {cs : List Int} (h1 : nsV qs = true) (h2 : fvV cs = true) : (ch0 qs cs).ok := by
  refine ⟨by simp [ch0, usL, rssL], (fv_at h2).1, fun k hk => ?_, fun k => (us_bd h1 k).1, fun k j => (rs_bd h1 k j).1, fun k => ((fv_at h2).2 k).1⟩
  show ((rssL qs).getD k []).length = 6
  rw [rssL_at (by simpa [ch0, usL] using hk), rsL_len]
theorem ch0_sm {qs : List Quad} {cs : List Int} (h1 : nsV qs = true) (h2 : fvV cs = true) : (ch0 qs cs).sm := ⟨us_Bd h1, rs_Bd h1, fv_Bd h2⟩
/-- MostPlan -/
def mpV (qs : List Quad) (cs : List Int) : List (List Int) := if nsV qs = true ∧ fvV cs = true then (ch0 qs cs).plan qs.length else []
/-- a plan in new memory -/
def MP (w : World) (rows : List (List Int)) (e : Ending) (w' : World) : Prop :=
  ∃ A, e = .returned (.slice A rows.length rows.length) ∧ Tabs w' A rows.length rows ∧ (0 < rows.length → ∃ g bls, A = some ⟨g, 0, none⟩ ∧ Tbl w' g g bls rows.length rows ∧ bls.length = rows.length ∧ w.heap.size ≤ g) ∧ Below w.heap.size w w'
theorem Chs.row_next (σ : Chs) (i j : Nat) (hj : j < 6) : (σ.row i j ++ List.replicate (6 - j) 0).set j ((σ.hrs i j).fst i j : Int) = σ.row i (j + 1) ++ List.replicate (6 - (j + 1)) 0 := by
  have hl := σ.row_len i j
  rw [List.set_append_right _ _ (by omega), hl, Nat.sub_self, show 6 - j = (6 - (j + 1)) + 1 by omega, List.replicate_succ, List.set_cons_zero]
  show _ = (σ.row i j ++ [_]) ++ _
  rw [List.append_assoc]; rfl
theorem Tbl.lower {w : World} {lo lo' g n : Nat} {bls : List Nat} {rss : List (List Int)} (h : Tbl w lo g bls n rss) (hl : lo' ≤ lo) : Tbl w lo' g bls n rss := ⟨h.outer, h.len, h.le, h.row, h.six, Nat.le_trans hl h.low, h.beh, h.inc⟩
set_option maxRecDepth 100000 in
set_option maxHeartbeats 1000000 in
theorem MostPlan_i_yes (A C : Option Addr) (n c1 c2 : Nat) (qs : List Quad) (cs : List Int) (w : World) (h : Books w A n qs) (hC : Ints w C 6 cs) (hv1 : nsV qs = true) (hv2 : fvV cs = true) :
    Calls Tryd.prog 35 #[.slice A n c1, .slice C 6 c2] w (MP w ((ch0 qs cs).plan n)) := by
  have hn5 := (ns_at hv1).1
  have hlen := h.1
  have h0 := h.1
  rw [h0] at hn5
  have hmu := muV_nn hv1 hv2
  have M0 := MostUnits_i A C n c1 c2 6 qs cs w h hC (by omega) (by omega)
  rw [hmu.1] at M0
  have hF : lcV (usL qs) (rssL qs) cs = (ch0 qs cs).F := rfl
  rw [hF] at M0 hmu
  have hok := ch0_ok hv1 hv2
  have hsm := ch0_sm hv1 hv2
  have hul : (ch0 qs cs).us.length = n := by show (usL qs).length = n; simp [usL, h0]
  have hcl := hC.1
  have hmk2 := run_make_row' (P := Tryd.prog) 45 28 (.slice none 0 0) 24 Tryd.underlying45 infoRw rfl .i64 .i64 n (by omega) (by omega)
  have hmk3 := run_make_row' (P := Tryd.prog) 28 3 (.int .i64 0) 8 Tryd.underlying28 infoIn rfl .i64 .i64 6 (by omega) (by omega)
  rw [show ((6 : Nat) : Int) = 6 from rfl] at hmk3
  obtain ⟨σ0, hσ0⟩ : ∃ σ0, ch0 qs cs = σ0 := ⟨_, rfl⟩
  have e1 : usL qs = σ0.us := by rw [← hσ0]; rfl
  have e2 : rssL qs = σ0.rss := by rw [← hσ0]; rfl
  have e3 : cs = σ0.cs := by rw [← hσ0]; rfl
  rw [hσ0] at M0 hmu hok hsm hul ⊢
  have F0 := hmu.2
  have HV1 := Lib.hid hv1
  have HOK := Lib.hid hok
  have HSM := Lib.hid hsm
  have HUL := Lib.hid hul
  have HE1 := Lib.hid e1
  have HE2 := Lib.hid e2
  have HE3 := Lib.hid e3
  obtain ⟨cb, co, rfl⟩ := hC.addr (by omega)
  clear hv1 hv2 hmu hF hok hsm hul hσ0 e1 e2 e3
  go_enter Tryd.func35, Tryd.ntmps35
  go_upto_region 6 with (first
    | (go_at_call 26; refine M0.mono ?_; rintro e w1 ⟨rfl, hb1⟩; replace h := h.below hb1; replace hC := hC.below hb1; have hw := hb1; clear hb1)
    | (go_at_call 63; refine (needLists_i A n c1 qs _ h HV1.out).mono ?_; rintro e w2 ⟨g, bls, G, rfl, hg, hG, hW, hT, hbl, hb2⟩; replace hC := hC.below hb2))
  have hC3 := hC.below ((Below.refl w2.heap.size w2).alloc (Nat.le_refl _) (.cells (madeCells #[.int .i64 0] 6) 3))
  have hcp := run_copy_row (P := Tryd.prog) (w2.alloc (.cells (madeCells #[.int .i64 0] 6) 3)) 28 28 3 3 w2.heap.size 0 6 6 ⟨cb, co, none⟩ 6 c2 (madeCells #[.int .i64 0] 6) 3 (cs.map (Value.int .i64)) Tryd.underlying28 sizeI (heap_alloc_new w2 _) (by simp [hcl]) hC3.news (by simp [size_madeCells, hcl]) (one_ints cs)
  have hrow : ((madeCells #[.int .i64 0] 6).toList.take 0 ++ cs.map (Value.int .i64) ++ (madeCells #[.int .i64 0] 6).toList.drop (0 + (cs.map (Value.int .i64)).length)).toArray = ints σ0.cs := by
    rw [← HE3.out, List.length_map, hcl]
    simp [ints, madeCells]
  rw [hrow, List.length_map, hcl] at hcp
  have hlb := heap_alloc_new w2 (.cells (madeCells #[.int .i64 0] 6) 3)
  have hsetr := setRow_heap _ w2.heap.size _ (ints σ0.cs) 3 (0, 0) hlb
  obtain ⟨W3, hW3⟩ : ∃ W3, (w2.alloc (.cells (madeCells #[.int .i64 0] 6) 3)).setRow w2.heap.size (ints σ0.cs) = W3 := ⟨_, rfl⟩
  have hLf : Blk W3 w2.heap.size 3 (ints σ0.cs) := by rw [← hW3]; exact hsetr
  have hb3 : Below w2.heap.size w2 W3 := by rw [← hW3]; exact below_setRow ((Below.refl w2.heap.size w2).alloc (Nat.le_refl _) _) (Nat.le_refl _) _
  have hs3 : W3.heap.size = w2.heap.size + 1 := by rw [← hW3]; simp
  rw [hW3] at hcp
  have hgw : g = w1.heap.size := hg.symm
  have hMS : MS w (W3.alloc (.cells (madeCells #[.slice none 0 0] n) 28)) n g G w2.heap.size W3.heap.size bls [] σ0 (σ0.plan 0) := by
    have hlt2 := hW.lt
    have hw0 := hw.size
    refine ⟨by rw [← HE1.out]; exact (hW.below hb3 hlt2).alloc _, ?_, hLf.alloc _, Tbl.new (lo := W3.heap.size) W3 n (Nat.le_refl _), by rw [hbl, h0], by omega, by omega, hT.outer.lt, fun k hk => (hT.row k (by rw [hbl, h0]; exact hk)).lt, by omega, ?_⟩
    · have t1 := (hT.below hb3).alloc (.cells (madeCells #[.slice none 0 0] n) 28)
      rw [← HE2.out]
      rw [h0] at t1
      exact t1.lower (by omega)
    · exact ((hw.trans (hb2.mono hw0)).trans (hb3.mono (by have := hb2.size; omega))).alloc (by have := hb2.size; have := hb3.size; omega) _
  rw [hs3] at hMS
  have HM0 := Lib.hid hMS
  have FF : σ0.F = (σ0.cars 0).F := rfl
  rw [FF] at F0 ⊢
  go_wp2
  generalize W3.alloc (.cells (madeCells #[.slice none 0 0] n) 28) = W4 at *
  generalize w2.heap.size = gL at *
  clear hcp hmk2 hrow hlb hsetr hW3 hLf hb3 hC3 hC hW hT hb2 hMS h hw hs3 M0 hgw hg hG FF h0 hlen hcl hbl
  go_loopw [5, 32] (fun v i wx => ∃ (k : Nat) (pbl : List Nat), k ≤ n ∧ i = .int .i64 k ∧ v = .int .i64 (σ0.cars k).F ∧ pbl.length = k ∧ MS w wx n g G gL (gL + 1) bls pbl (σ0.cars k) (σ0.plan k)) (fun _ i _ => n - (intOf i).toNat)
  case atStart => exact ⟨0, [], by omega, rfl, rfl, rfl, HM0.out⟩
  case round =>
    clear HM0
    obtain ⟨k, pbl, hk, rfl, rfl, hpl, hM⟩ := hrel
    by_cases hlt : k < n
    · have t1 := hM.pl.outer.cell k
      rw [slis_hi (by omega) hlt] at t1
      have t2 := hM.pl.outer.frozen k
      have hMr := hM.row rfl (by omega)
      rw [hpl] at hMr
      have HM := Lib.hid hMr
      have hgs := hM.pl.outer.lt
      have hC0 := HOK.out.cars_all k (by rw [HUL.out]; omega)
      have okc := hC0.1
      have ulc : (σ0.cars k).us.length = n := by rw [hC0.2.1, HUL.out]
      have smc := HSM.out.cars HOK.out k (by rw [HUL.out]; omega)
      have HOKC := Lib.hid okc
      have HULC := Lib.hid ulc
      have HSMC := Lib.hid smc
      have HPL := Lib.hid (σ0.plan_len k)
      have hplh := Lib.hid hpl
      clear hM hMr hC0 okc ulc smc hpl
      go_wp2
      clear t1 t2
      obtain ⟨W5, hW5⟩ : ∃ W5, (wr.setCell ⟨gL + 1, k, none⟩ (.slice (some ⟨wr.heap.size, 0, none⟩) 6 6)).alloc (.cells (madeCells #[.int .i64 0] 6) 3) = W5 := ⟨_, rfl⟩
      rw [hW5]
      rw [← ints_made 6, hW5] at HM
      clear hW5
      obtain ⟨σ, hσ⟩ : ∃ σ, σ0.cars k = σ := ⟨_, rfl⟩
      obtain ⟨N, hN⟩ : ∃ N, wr.heap.size = N := ⟨_, rfl⟩
      obtain ⟨pb2, hpb2⟩ : ∃ pb2, pbl ++ [N] = pb2 := ⟨_, rfl⟩
      obtain ⟨rows, hrows⟩ : ∃ rows, σ0.plan k = rows := ⟨_, rfl⟩
      have HN : Hid (pb2.getD k 0 = N) := by show _ = _; rw [← hpb2, getD_append_at _ _ _ _ hplh.out.symm]
      have HL2 : Hid (pb2.length = k + 1) := by show _ = _; rw [← hpb2]; simp [hplh.out]
      have Hσ := Lib.hid hσ
      have Hpb := Lib.hid hpb2
      have Hrw := Lib.hid hrows
      rw [hσ] at HOKC HULC HSMC HM
      rw [hσ]
      rw [hN, hpb2, hrows] at HM
      rw [hrows] at HPL
      clear hσ hN hpb2 hrows
      have hF0 : σ.F = (σ.hrs k 0).F := rfl
      rw [hF0]
      clear hF0
      go_loopw [5, 41] (fun v i wy => ∃ j : Nat, j ≤ 6 ∧ i = .int .i64 j ∧ v = .int .i64 (σ.hrs k j).F ∧ MS w wy n g G gL (gL + 1) bls pb2 (σ.hrs k j) (rows ++ [σ.row k j ++ List.replicate (6 - j) 0])) (fun _ i _ => 6 - (intOf i).toNat)
      case atStart => exact ⟨0, by omega, rfl, rfl, HM.out⟩
      case round =>
        clear HM
        obtain ⟨j, hj, rfl, rfl, hM⟩ := hrel
        by_cases hlt2 : j < 6
        · have hH := HOKC.out.hrs_all (i := k) (by rw [HULC.out]; exact hlt) j (by omega)
          have okt := hH.1
          have ult : (σ.hrs k j).us.length = n := by rw [hH.2.1, HULC.out]
          have smt := HSMC.out.hrs HOKC.out (i := k) (by rw [HULC.out]; exact hlt) j (by omega)
          have hFst := okt.fst_at k j
          have hNx := okt.nxt_F (i := k) (h := j) (by rw [ult]; exact hlt) hlt2
          have hfl := okt.fst_le k j
          have hFb := Chs.F_bd smt (by rw [ult]; omega)
          have b1 := smt.1 k
          have b2 := smt.2.1 k j
          have b3 := smt.2.2 j
          have kb : k < bls.length := by rw [hM.bl]; exact hlt
          have q1 := hM.rt.beh k kb
          have q2 := hM.o4 k hlt
          have q3 := hM.o2
          have q4 := hM.o3
          have tl := okt.2.2.1 k (by rw [ult]; exact hlt)
          have c0 := hM.rt.cellO kb
          have c1 := hM.rt.cellR (j := j) kb hlt2
          have f1 := hM.rt.frzR kb j
          have c2 := hM.wn.int_cell (k := k) (by rw [ult]; exact hlt)
          have f2 := hM.wn.frozen k
          have c3 := hM.lf.int_cell (k := j) (by rw [okt.2.1]; exact hlt2)
          have f3 := hM.lf.frozen j
          have hnx : Hid (σ.hrs k (j + 1) = (σ.hrs k j).nxt k j) := by show _ = _; rfl
          have hrw : Hid ((σ.row k j ++ List.replicate (6 - j) 0).set j ((σ.hrs k j).fst k j : Int) = σ.row k (j + 1) ++ List.replicate (6 - (j + 1)) 0) := σ.row_next k j hlt2
          have htop : (σ.hrs k j).top k j = min (min (((σ.hrs k j).rss.getD k []).getD j 0) ((σ.hrs k j).us.getD k 0)) ((σ.hrs k j).cs.getD j 0) := rfl
          obtain ⟨τ, hτ⟩ : ∃ τ, σ.hrs k j = τ := ⟨_, rfl⟩
          rw [hτ] at okt ult smt hFst hNx hfl hFb b1 b2 b3 tl c1 c2 c3 hnx hrw htop hM ⊢
          obtain ⟨r, hr⟩ : ∃ r, (τ.rss.getD k []).getD j 0 = r := ⟨_, rfl⟩
          obtain ⟨X, hX⟩ : ∃ X, τ.us.getD k 0 = X := ⟨_, rfl⟩
          obtain ⟨y, hy⟩ : ∃ y, τ.cs.getD j 0 = y := ⟨_, rfl⟩
          obtain ⟨U, hU⟩ : ∃ U, τ.top k j = U := ⟨_, rfl⟩
          obtain ⟨fN, hfN⟩ : ∃ fN, τ.fst k j = fN := ⟨_, rfl⟩
          obtain ⟨bK, hbK⟩ : ∃ bK, bls.getD k 0 = bK := ⟨_, rfl⟩
          rw [hr] at b2 c1 htop
          rw [hX] at b1 c2 htop
          rw [hy] at b3 c3 htop
          rw [hU] at hfl htop hFst
          rw [hfN] at hFst hNx hfl hrw
          rw [hbK] at c0 c1 f1 q1 q2
          have ne1 : ¬ g = bK := by omega
          have ne2 : ¬ bK = g := by omega
          have ne3 : ¬ gL = bK := by omega
          have ne4 : ¬ bK = gL := by omega
          have ne5 : ¬ g = gL := by omega
          have ne6 : ¬ gL = g := by omega
          clear q1 q2 q3 q4
          have HOKT := Lib.hid okt
          have HULT := Lib.hid ult
          have HSMT := Lib.hid smt
          have HFST := Lib.hid hFst
          have HNX := Lib.hid hNx
          have HR := Lib.hid hr
          have HX := Lib.hid hX
          have HY := Lib.hid hy
          have HU := Lib.hid hU
          have HfN := Lib.hid hfN
          have HbK := Lib.hid hbK
          have HM := Lib.hid hM
          have HTOP := Lib.hid htop
          have hU0 : 0 ≤ U ∧ U ≤ 1000 := by omega
          have i1 : (0 : Int) ≤ (k : Int) := by omega
          have i2 : (k : Int) < (n : Int) := by omega
          have i3 : (0 : Int) ≤ (j : Int) := by omega
          have i4 : (j : Int) < 6 := by omega
          clear okt ult smt hFst hNx hr hX hy hU hfN hbK hM htop hH tl kb hτ
          go_upto_region 15 with fail
          go_quiet (fail)
          have eU : (if y < if X < r then X else r then y else if X < r then X else r) = U := by rw [HTOP.out]; split <;> split <;> omega
          rw [eU]
          clear eU
          obtain ⟨UN, rfl⟩ := Int.eq_ofNat_of_zero_le hU0.1
          have hG1 := (HM.out.drewN nq).give (j := j) hlt (UN : Int)
          rw [HX.out, HY.out, HbK.out] at hG1
          have HG1 := Lib.hid hG1
          have HNXE := hnx
          have HRW := hrw
          have hfl2 : fN ≤ UN := by omega
          clear hG1 hnx hrw hfl
          go_wp2
          go_loopw [12] (fun u wz => ∃ m : Nat, fN ≤ m ∧ m ≤ UN ∧ u = .int .i64 m ∧ MS w wz n g G gL (gL + 1) bls pb2 (τ.give k j m) (rows ++ [σ.row k j ++ List.replicate (6 - j) 0])) (fun u _ => (intOf u).toNat)
          case atStart => exact ⟨UN, hfl2, Nat.le_refl _, rfl, HG1.out⟩
          case round =>
            clear HG1 c0 c1 c2 c3 f1 f2 f3
            obtain ⟨m, hm1, hm2, rfl, hM⟩ := hrel
            have sg := HSMT.out.give (i := k) (h' := j) (u := (m : Int)) (by omega) (by rw [HU.out]; omega)
            have ug : (τ.give k j m).us.length = n := by show (τ.us.set k _).length = n; rw [List.length_set, HULT.out]
            have L0 := leastCut_i (some ⟨g, 0, none⟩) (some ⟨G, 0, none⟩) (some ⟨gL, 0, none⟩) n n n 6 (τ.give k j m).us (τ.give k j m).rss (τ.give k j m).cs wr (Ints.of_blk' hM.wn ug) (hM.rt.tabs hM.bl) (Ints.of_blk' hM.lf (by show (τ.cs.set j _).length = 6; rw [List.length_set]; exact HOKT.out.2.1)) (by omega) (fun i hi => hM.rt.six i (by rw [hM.bl]; exact hi)) sg.1 sg.2.1 sg.2.2
            have hFe : lcV (τ.give k j m).us (τ.give k j m).rss (τ.give k j m).cs = (τ.give k j m).F := rfl
            rw [hFe] at L0
            have gb := Chs.F_bd sg (by rw [ug]; omega)
            have hlo := HFST.out.1 m
            have hst := HFST.out.2
            clear sg hFe ug
            by_cases he : m = fN
            · subst he
              obtain ⟨F1, hF1⟩ : ∃ F1, (τ.give k j m).F = F1 := ⟨_, rfl⟩
              rw [hF1] at L0 gb hst
              clear hF1 hlo
              by_cases hz : m = 0
              · subst hz
                clear L0 hst
                have p0 := hM.pl.cellO (k := k) (by rw [HL2.out]; omega)
                have p1 := hM.pl.cellR (k := k) (j := j) (by rw [HL2.out]; omega) hlt2
                have p2 := hM.pl.frzR (k := k) (by rw [HL2.out]; omega) j
                rw [HN.out] at p0 p1 p2
                have hq := hM.putp (k := k) (j := j) (by rw [HL2.out]; omega) ((0 : Nat) : Int)
                rw [HN.out, getD_append_at _ _ _ _ HPL.out.symm, HRW.out] at hq
                have est : (rows ++ [σ.row k j ++ List.replicate (6 - j) 0]).set k (σ.row k (j + 1) ++ List.replicate (6 - (j + 1)) 0) = rows ++ [σ.row k (j + 1) ++ List.replicate (6 - (j + 1)) 0] := by rw [List.set_append_right _ _ (by rw [HPL.out]; exact Nat.le_refl _), HPL.out, Nat.sub_self]; rfl
                rw [est] at hq
                have HQ := Lib.hid hq
                clear hq est hM
                go_wp2
                go_roundw
                case rel => exact ⟨j + 1, hlt2, by go_num, by rw [HNXE.out, HNX.out]; simp, by rw [HNXE.out]; show MS _ _ _ _ _ _ _ _ _ (τ.give k j (τ.fst k j : Int)) _; rw [HfN.out]; exact HQ.out⟩
                case measure => simp [intOf]; omega
              · have d1 : decide (0 < (m : Int)) = true := by simp; omega
                have d2 : decide ((m : Int) + F1 < τ.F) = false := by simp; omega
                clear hst
                go_upto_region 23 with (go_at_call 64; refine L0.mono ?_; rintro e w6 ⟨rfl, hb6⟩; replace hM := hM.below hb6; clear hb6)
                have p0 := hM.pl.cellO (k := k) (by rw [HL2.out]; omega)
                have p1 := hM.pl.cellR (k := k) (j := j) (by rw [HL2.out]; omega) hlt2
                have p2 := hM.pl.frzR (k := k) (by rw [HL2.out]; omega) j
                rw [HN.out] at p0 p1 p2
                have hq := hM.putp (k := k) (j := j) (by rw [HL2.out]; omega) (m : Int)
                rw [HN.out, getD_append_at _ _ _ _ HPL.out.symm, HRW.out] at hq
                have est : (rows ++ [σ.row k j ++ List.replicate (6 - j) 0]).set k (σ.row k (j + 1) ++ List.replicate (6 - (j + 1)) 0) = rows ++ [σ.row k (j + 1) ++ List.replicate (6 - (j + 1)) 0] := by rw [List.set_append_right _ _ (by rw [HPL.out]; exact Nat.le_refl _), HPL.out, Nat.sub_self]; rfl
                rw [est] at hq
                have HQ := Lib.hid hq
                clear hq est hM
                go_wp2
                go_roundw
                case rel => exact ⟨j + 1, hlt2, by go_num, by rw [HNXE.out, HNX.out], by rw [HNXE.out]; show MS _ _ _ _ _ _ _ _ _ (τ.give k j (τ.fst k j : Int)) _; rw [HfN.out]; exact HQ.out⟩
                case measure => simp [intOf]; omega
            · have hlt4 := hlo (by omega) (by omega)
              obtain ⟨F1, hF1⟩ : ∃ F1, (τ.give k j m).F = F1 := ⟨_, rfl⟩
              rw [hF1] at L0 gb hlt4
              have d1 : decide (0 < (m : Int)) = true := by simp; omega
              have d2 : decide ((m : Int) + F1 < τ.F) = true := by simpa using hlt4
              clear hF1 hlo hst
              obtain ⟨m', rfl⟩ : ∃ m', m = m' + 1 := ⟨m - 1, by omega⟩
              rw [show ((m' + 1 : Nat) : Int) = (m' : Int) + 1 by omega] at d1 d2
              clear hlt4
              go_upto_region 20 with (go_at_call 64; refine L0.mono ?_; rintro e w6 ⟨rfl, hb6⟩; replace hM := hM.below hb6; clear hb6)
              have c2 := hM.wn.int_cell (k := k) (by show k < (τ.us.set k _).length; rw [List.length_set, HULT.out]; exact hlt)
              have f2 := hM.wn.frozen k
              have c3 := hM.lf.int_cell (k := j) (by show j < (τ.cs.set j _).length; rw [List.length_set, HOKT.out.2.1]; exact hlt2)
              have f3 := hM.lf.frozen j
              have v1 : (τ.give k j ((m' + 1 : Nat) : Int)).us.getD k 0 = X - ((m' : Int) + 1) := by
                show (τ.us.set k (τ.us.getD k 0 - ((m' + 1 : Nat) : Int))).getD k 0 = _
                rw [getD_set, if_pos ⟨rfl, by rw [HULT.out]; exact hlt⟩, HX.out]; all_goals omega
              have v2 : (τ.give k j ((m' + 1 : Nat) : Int)).cs.getD j 0 = y - ((m' : Int) + 1) := by
                show (τ.cs.set j (τ.cs.getD j 0 - ((m' + 1 : Nat) : Int))).getD j 0 = _
                rw [getD_set, if_pos ⟨rfl, by rw [HOKT.out.2.1]; exact hlt2⟩, HY.out]; all_goals omega
              rw [v1] at c2
              rw [v2] at c3
              have hBk := hM.back (i := k) (j := j) (u := m') hlt (v1 := X - ((m' : Int) + 1) + 1) (v2 := y - ((m' : Int) + 1) + 1) (by rw [HX.out]; omega) (by rw [HY.out]; omega)
              have HBk := Lib.hid hBk
              clear hBk v1 v2 hM L0
              go_wp2
              go_roundw
              case rel => exact ⟨m', by omega, by omega, by go_num, HBk.out⟩
              case measure => first | (simp [intOf]; done) | (simp [intOf]; omega)
        · obtain rfl : j = 6 := by omega
          go_wp2
          go_roundw
          case rel =>
            have e1 : σ0.cars (k + 1) = σ.hrs k 6 := by show (σ0.cars k).hrs k 6 = _; rw [Hσ.out]
            have e2 : σ0.plan (k + 1) = rows ++ [σ.row k 6] := by show σ0.plan k ++ [(σ0.cars k).row k 6] = _; rw [Hσ.out, Hrw.out]
            rw [Nat.sub_self, List.replicate_zero, List.append_nil] at hM
            exact ⟨k + 1, pb2, hlt, by go_num, by rw [e1], HL2.out, by rw [e1, e2]; exact hM⟩
          case measure => simp [intOf]; omega
    · obtain rfl : k = n := by omega
      have hpl2 := σ0.plan_len k
      have hT := hM.pl
      have hB := hM.bw
      have hlo := hM.o1
      have hl5 := hM.o5
      have ho2 := hM.o2
      have ho3 := hM.o3
      go_wp2
      go_ret
      refine ⟨some ⟨gL + 1, 0, none⟩, by show Ending.returned (Value.slice (some ⟨gL + 1, 0, none⟩) k k) = _; rw [hpl2], by rw [hpl2]; exact hT.tabs hpl, fun _ => ⟨gL + 1, pbl, rfl, by rw [hpl2]; exact hT, by rw [hpl2]; exact hpl, by omega⟩, hB⟩
theorem mpV_len {qs : List Quad} {cs : List Int} (h1 : nsV qs = true) (h2 : fvV cs = true) : (mpV qs cs).length = qs.length := by
  unfold mpV; rw [if_pos ⟨h1, h2⟩, Chs.plan_len]
set_option maxHeartbeats 1000000 in
theorem MostPlan_i (A C : Option Addr) (n c1 c2 m : Nat) (qs : List Quad) (cs : List Int) (w : World) (h : Books w A n qs) (hC : Ints w C m cs) (hn : n ≤ 1048576) (hm : m ≤ 1048576) :
    Calls Tryd.prog 35 #[.slice A n c1, .slice C m c2] w (MP w (mpV qs cs)) := by
  by_cases hv : nsV qs = true ∧ fvV cs = true
  · have hm6 : m = 6 := by rw [← hC.1]; exact (fv_at hv.2).1
    subst hm6
    have := MostPlan_i_yes A C n c1 c2 qs cs w h hC hv.1 hv.2
    unfold mpV
    rw [if_pos hv, h.1]; exact this
  · have M0 := MostUnits_i A C n c1 c2 m qs cs w h hC hn hm
    have hmu : muV qs cs = -1 := by unfold muV; rw [if_neg hv]
    have hmp : Hid (mpV qs cs = []) := by show _ = _; unfold mpV; rw [if_neg hv]
    rw [hmu] at M0
    clear hmu hv
    go_enter Tryd.func35, Tryd.ntmps35
    go_wp2_with (go_at_call 26; refine M0.mono ?_; rintro e w1 ⟨rfl, hb1⟩)
    go_ret
    rw [hmp.out]
    exact ⟨none, rfl, ⟨rfl, fun h => absurd h (by simp)⟩, fun h => absurd h (by simp), hb1⟩
end Go.Proofs.YtoiaggjjfahabaaDoor
