/- MostPlan of the reference: the walk. Conditions: small numbers in the needs. -/
import Derived.Test.YtoiaggjjfahabaaDoorChg16
import Derived.Test.YtoiaggjjfahabaaDoorChg17
import Derived.Test.YtoiaggjjfahabaaDoorPChg
namespace Go.Proofs.YtoiaggjjfahabaaDoor
open Go.RowKit
set_option linter.unusedVariables false
/-- behind the first k rows, with a row in the making -/
structure MR (w0 w : World) (n gU gR gL B1 : Nat) (bl cp : Nat → Nat) (σ : Chs) (g c k : Nat) (ob : List Nat) (rows : List (List Int)) (b : Nat) (zs : List Int) : Prop where
  mt : MT w0 w n gU gR gL B1 bl cp σ
  ot : OT w w0.heap.size B1 g c k ob rows
  rw_ : Blk w b 3 (ints zs)
  ap : Apart g n gU gR gL bl
  e1 : b ≠ g
  e2 : B1 ≤ b
  e3 : ∀ i, i < k → ob.getD i 0 ≠ b
section
variable {w0 w w' : World} {n gU gR gL B1 g c k b : Nat} {bl cp : Nat → Nat} {σ : Chs} {ob : List Nat} {rows : List (List Int)} {zs : List Int}
theorem MR.below (h : MR w0 w n gU gR gL B1 bl cp σ g c k ob rows b zs) (hb : Below w.heap.size w w') : MR w0 w' n gU gR gL B1 bl cp σ g c k ob rows b zs :=
  ⟨h.mt.below hb, h.ot.below hb, h.rw_.below hb h.rw_.lt, h.ap, h.e1, h.e2, h.e3⟩
theorem MR.drewN (h : MR w0 w n gU gR gL B1 bl cp σ g c k ob rows b zs) (q : Nat) : MR w0 (w.drewN q) n gU gR gL B1 bl cp σ g c k ob rows b zs := h.below (bdN (Below.refl _ _) q)
theorem MR.give (h : MR w0 w n gU gR gL B1 bl cp σ g c k ob rows b zs) {i j : Nat} (hi : i < n) (u : Int) :
    MR w0 (((w.setCell ⟨bl i, j, none⟩ (.int .i64 0)).setCell ⟨gU, i, none⟩ (.int .i64 (σ.us.getD i 0 - u))).setCell ⟨gL, j, none⟩ (.int .i64 (σ.cs.getD j 0 - u))) n gU gR gL B1 bl cp (σ.give i j u) g c k ob rows b zs := by
  obtain ⟨a1, a2, a3, a4⟩ := h.ap
  have hi' := h.mt.hi
  have h4 := h.mt.hi.2.2.2 i hi
  have lo := h.ot.lo
  have e2 := h.e2
  refine ⟨h.mt.give hi u, ?_, ((h.rw_.far (by show b ≠ bl i; omega) _).far (by show b ≠ gU; omega) _).far (by show b ≠ gL; omega) _, h.ap, h.e1, h.e2, h.e3⟩
  exact ((h.ot.far (fun q => a4 i hi q.symm) (fun x hx => by have := lo x hx; show _ ≠ bl i; omega) _).far a1 (fun x hx => by have := lo x hx; show _ ≠ gU; omega) _).far a3 (fun x hx => by have := lo x hx; show _ ≠ gL; omega) _
theorem MR.back {i j u : Nat} (h : MR w0 w n gU gR gL B1 bl cp (σ.give i j ((u + 1 : Nat) : Int)) g c k ob rows b zs) (hi : i < n) {v1 v2 : Int} (e1 : v1 = σ.us.getD i 0 - u) (e2 : v2 = σ.cs.getD j 0 - u) :
    MR w0 ((w.setCell ⟨gU, i, none⟩ (.int .i64 v1)).setCell ⟨gL, j, none⟩ (.int .i64 v2)) n gU gR gL B1 bl cp (σ.give i j u) g c k ob rows b zs := by
  obtain ⟨a1, a2, a3, a4⟩ := h.ap
  have hi' := h.mt.hi
  have lo := h.ot.lo
  have e2' := h.e2
  refine ⟨h.mt.back hi e1 e2, ?_, (h.rw_.far (by show b ≠ gU; omega) _).far (by show b ≠ gL; omega) _, h.ap, h.e1, h.e2, h.e3⟩
  exact (h.ot.far a1 (fun x hx => by have := lo x hx; show _ ≠ gU; omega) _).far a3 (fun x hx => by have := lo x hx; show _ ≠ gL; omega) _
theorem MR.put (h : MR w0 w n gU gR gL B1 bl cp σ g c k ob rows b zs) (j : Nat) (v : Int) : MR w0 (w.setCell ⟨b, j, none⟩ (.int .i64 v)) n gU gR gL B1 bl cp σ g c k ob rows b (zs.set j v) :=
  ⟨h.mt.high ((Below.refl _ _).setCell (p := ⟨b, j, none⟩) h.e2 _), h.ot.far (fun q => h.e1 q.symm) h.e3 _, h.rw_.int_set j v, h.ap, h.e1, h.e2, h.e3⟩
end
theorem MR.new {w0 w : World} {n gU gR gL B1 g c k : Nat} {bl cp : Nat → Nat} {σ : Chs} {ob : List Nat} {rows : List (List Int)} (h : MT w0 w n gU gR gL B1 bl cp σ) (ho : OT w w0.heap.size B1 g c k ob rows) (ha : Apart g n gU gR gL bl) :
    MR w0 (w.alloc (.cells (madeCells #[.int .i64 0] 6) 3)) n gU gR gL B1 bl cp σ g c k ob rows w.heap.size (List.replicate 6 0) := by
  have hb : Below w.heap.size w (w.alloc (.cells (madeCells #[.int .i64 0] 6) 3)) := (Below.refl _ _).alloc (Nat.le_refl _) _
  refine ⟨h.below hb, ho.below hb, by rw [← ints_made]; exact Blk.new _ _ _, ha, by have := ho.at_.2.1; omega, h.b1, fun i hi => by have := (ho.rr i hi).lt; omega⟩
theorem news_v (w : World) (t : TypeId) (x : Value) : ∀ j u, [x][j]? = some u → (w.alloc (.cells #[x] t)).cell? ((⟨w.heap.size, 0, none⟩ : Addr).add j) = some u := by
  intro j u hj
  have h := (Blk.new w t #[x]).cell j
  rw [add_none, Nat.zero_add, h]
  simpa using hj
/-- a plan in new memory, its rows apart -/
def MQ (w : World) (rows : List (List Int)) (e : Ending) (w' : World) : Prop :=
  ∃ g c ob L, e = .returned (.slice (some ⟨g, 0, none⟩) rows.length c) ∧ OT w' w.heap.size L g c rows.length ob rows ∧ w.heap.size ≤ L ∧ Below w.heap.size w w'
set_option maxRecDepth 100000 in
set_option maxHeartbeats 4000000 in
theorem MostPlan_s_yes (A C : Option Addr) (n c1 c2 : Nat) (qs : List Quad) (cs : List Int) (w : World) (h : Books w A n qs) (hC : Ints w C 6 cs) (hv1 : nsV qs = true) (hv2 : fvV cs = true) :
    Calls Tryd.prog 100 #[.slice A n c1, .slice C 6 c2] w (MQ w ((ch0 qs cs).plan n)) := by
  have hn5 := (ns_at hv1).1
  have h0 := h.1
  rw [h0] at hn5
  have hmu := muV_nn hv1 hv2
  have M0 : ∀ w, Books w A n qs → Ints w C 6 cs → Calls Tryd.prog 61 #[.slice A n c1, .slice C 6 c2] w fun e w' => e = .returned (.int .i64 (ch0 qs cs).F) ∧ Below w.heap.size w w' := fun w h hC => by
    have := MostUnits_s A C n c1 c2 6 qs cs w h hC (by omega) (by omega) (smA_of hv1)
    rw [hmu.1] at this; exact this
  have hF : lcV (usL qs) (rssL qs) cs = (ch0 qs cs).F := rfl
  rw [hF] at hmu
  have hok := ch0_ok hv1 hv2
  have hsm := ch0_sm hv1 hv2
  have hul : (ch0 qs cs).us.length = n := by show (usL qs).length = n; simp [usL, h0]
  have hrl : (ch0 qs cs).rss.length = n := by show (rssL qs).length = n; simp [rssL, h0]
  have hcl := hC.1
  have hmk3 := run_make_row' (P := Tryd.prog) 28 3 (.int .i64 0) 8 Tryd.underlying28 infoIn rfl .i64 .i64 6 (by omega) (by omega)
  rw [show ((6 : Nat) : Int) = 6 from rfl] at hmk3
  obtain ⟨σ0, hσ0⟩ : ∃ σ0, ch0 qs cs = σ0 := ⟨_, rfl⟩
  have e1 : usL qs = σ0.us := by rw [← hσ0]; rfl
  have e2 : rssL qs = σ0.rss := by rw [← hσ0]; rfl
  have e3 : cs = σ0.cs := by rw [← hσ0]; rfl
  rw [hσ0] at M0 hmu hok hsm hul hrl ⊢
  have F0 := hmu.2
  have HV1 := Lib.hid hv1
  have HOK := Lib.hid hok
  have HSM := Lib.hid hsm
  have HUL := Lib.hid hul
  have HRL := Lib.hid hrl
  have HE1 := Lib.hid e1
  have HE2 := Lib.hid e2
  have HE3 := Lib.hid e3
  have HQL := Lib.hid h0
  have HNS := Lib.hid (ns_at hv1).2
  obtain ⟨cb, co, rfl⟩ := hC.addr (by omega)
  obtain ⟨i0, hi, ia, ib, ic⟩ := info_parts infoIn
  obtain ⟨iR, hi1, ia1, ib1, ic1⟩ := info_parts infoRw
  obtain ⟨gO, hgO⟩ : ∃ g, w.heap.size = g := ⟨_, rfl⟩
  have O0 : (w.alloc (.cells #[] 28)).ownsRow w.heap.size 28 1 (.slice (some ⟨gO, 0, none⟩) 0 0) 0 [] := by rw [← hgO]; exact nw_new0 w w.heap.size 28 1 (Nat.le_refl _)
  have hb0 : Below w.heap.size w (w.alloc (.cells #[] 28)) := (Below.refl _ _).alloc (Nat.le_refl _) _
  have h2 := h.below hb0
  have hC2 := hC.below hb0
  have HH := Lib.hid h
  have HC := Lib.hid hC
  clear hv1 hv2 hmu hF hok hsm hul hrl hσ0 e1 e2 e3 h0 h hC
  go_enter Tryd.func100, Tryd.ntmps100
  go_upto_region 5 with (go_at_call 61; ((with_reducible refine (M0 _ h2 hC2).mono ?_); rintro e w1 ⟨rfl, hb1⟩; clear M0 h2 hC2))
  have P0 : PH w ((w1.alloc (.cells #[] 3)).alloc (.cells #[] 28)) 0 0 gO w1.heap.size 0 (w1.heap.size + 1) 0 (fun _ => 0) (fun _ => 6) (usL qs) (rssL qs) := by
    have s0 : (w.alloc (.cells #[] 28)).heap.size = w.heap.size + 1 := by simp
    have s1 := hb1.size
    have u0 := (nw_new0 w1 w.heap.size 3 1 (by omega)).alloc (.cells #[] 28)
    have r0 := nw_new0 (w1.alloc (.cells #[] 3)) w.heap.size 28 1 (by simp; omega)
    rw [show (w1.alloc (.cells #[] 3)).heap.size = w1.heap.size + 1 by simp] at r0
    have o0 : w1.ownsRow w.heap.size 28 1 (.slice (some ⟨gO, 0, none⟩) 0 0) 0 [] := own_keep O0 (hb1.block _ (by omega))
    exact ⟨(o0.alloc _).alloc _, u0, r0, fun i hi => absurd hi (by omega), fun i hi => absurd hi (by omega), ⟨by omega, by omega, by omega⟩, fun i hi => absurd hi (by omega), fun i j hi => absurd hi (by omega),
      ((hb0.trans (hb1.mono (by omega))).alloc (by omega) _).alloc (by simp; omega) _⟩
  have HP0 := Lib.hid P0
  clear hb1 O0 hb0 P0 hgO
  go_wp2
  go_loopw [7, 8, 9] (fun u r i wr => ∃ (k gU cU gR cR : Nat) (bl cp : Nat → Nat), k ≤ n ∧ i = .int .i64 k ∧ u = .slice (some ⟨gU, 0, none⟩) k cU ∧ r = .slice (some ⟨gR, 0, none⟩) k cR ∧ PH w wr k k gO gU cU gR cR bl cp (usL qs) (rssL qs)) (fun _ _ i _ => n - (intOf i).toNat)
  case atStart => exact ⟨0, _, 0, _, 0, _, _, by omega, rfl, rfl, by simp, HP0.out⟩
  case round =>
    clear HP0
    obtain ⟨k, gU, cU, gR, cR, bl, cp, hk, rfl, rfl, rfl, hP⟩ := hrel
    by_cases hlt : k < n
    · obtain ⟨nb, no, rfl, hnl, hnc⟩ := HH.out.2 (by omega)
      obtain ⟨r0, r1, r2, r3⟩ := hnc k hlt
      have nsk := HNS.out k (by rw [HQL.out]; exact hlt)
      have er := rssL_at (qs := qs) (k := k) (by rw [HQL.out]; exact hlt)
      have eu := usL_at (qs := qs) (k := k) (by rw [HQL.out]; exact hlt)
      obtain ⟨q, hq⟩ : ∃ q, qs.getD k q0 = q := ⟨_, rfl⟩
      rw [hq] at r0 r1 r2 r3 nsk er eu
      have R0 := fun (j : Int) w => RateIn_s q.a q.b q.c q.d j w (by omega)
      have HER := Lib.hid er
      have HEU := Lib.hid eu
      have hPw := hP.bw.size
      have i1 : (0 : Int) ≤ (k : Int) := by omega
      have i2 : (k : Int) < (n : Int) := by omega
      have HKL : Hid (k < (usL qs).length) := by show _; simp [usL, HQL.out]; exact hlt
      have PA := hP.below ((Below.refl _ _).alloc (Nat.le_refl _) (.cells #[] 3))
      have PF := hP.fresh (Nat.le_refl _)
      have HPA := Lib.hid PA
      have HPF := Lib.hid PF
      clear hnc hq er eu nsk PA PF hP
      go_wp2
      go_loopw [10, 11] (fun v j wx => ∃ (m b c : Nat), m ≤ 6 ∧ j = .int .i64 m ∧ v = .slice (some ⟨b, 0, none⟩) m c ∧ PH w wx k k gO gU cU gR cR bl cp (usL qs) (rssL qs) ∧ Apart b k gO gU gR bl ∧ w.heap.size ≤ b ∧ wx.ownsRow w.heap.size 3 1 (.slice (some ⟨b, 0, none⟩) m c) m (((rsL q).take m).map (Value.int .i64))) (fun _ j _ => 6 - (intOf j).toNat)
      case atStart => exact ⟨0, _, 0, by omega, rfl, rfl, HPA.out, HPF.out, hPw, nw_new0 wr w.heap.size 3 1 hPw⟩
      case round =>
        clear HPA HPF hPw
        obtain ⟨m, b, c, hm, rfl, rfl, hP, ha, hlo, hO⟩ := hrel
        have s0 := (hP.bw.cell (p := ⟨nb, no + k * 4, none⟩) hnl).trans r0
        have s1 := (hP.bw.cell (p := ⟨nb, no + k * 4 + 1, none⟩) hnl).trans r1
        have s2 := (hP.bw.cell (p := ⟨nb, no + k * 4 + 2, none⟩) hnl).trans r2
        have s3 := (hP.bw.cell (p := ⟨nb, no + k * 4 + 3, none⟩) hnl).trans r3
        have hsz := hP.bw.size
        have hnl2 := Nat.lt_of_lt_of_le hnl hsz
        by_cases hlt2 : m < 6
        · have R1 := R0 m
          obtain ⟨z, hz⟩ : ∃ z, rin q.a q.b q.c q.d m = z := ⟨_, rfl⟩
          rw [hz] at R1
          have et : Hid ((rsL q).take m ++ [z] = (rsL q).take (m + 1)) := by show _ = _; rw [take_push (rsL q) m 0 (by rw [rsL_len]; exact hlt2), rsL_at q hlt2, hz]
          clear hz
          go_wp2_with (first
            | (go_at_call 67; ((with_reducible refine (R1 _).mono ?_); rintro e w6 ⟨rfl, hb6⟩; replace hP := hP.below hb6; replace hO := own_keep hO (hb6.block _ (own_lt hO).2); clear hb6))
            | (at_builtin; refine wpList_append_fresh _ rfl _ _ 28 rfl w.heap.size 3 i0 (.int .i64 0) 1 8 Tryd.underlying28 hi ia ib ic rfl (by decide) _ _ _ rfl (hO.alloc _) ⟨w6.heap.size, 0, none⟩ 1 1 [.int .i64 z] rfl rfl ?c1 ?c2 ?c3 ?c4 ?c5 ?_))
          case c1 => exact news_v w6 _ _
          case c2 => simp [Value.oneCell']
          case c3 => unfold maxLen; omega
          case c4 => omega
          case c5 => have := hP.bw.size; simp; omega
          intro v' w7 hown1 hgrow hfr
          obtain ⟨b', c', rfl, hP2, ha2, hlo2, hO2⟩ := hP.rowapp ha hlo (by first | exact hown1 | (rw [List.map_take]; exact hown1)) hgrow hfr
          rw [et.out] at hO2
          clear hown1 hgrow hfr hP ha hO s0 s1 s2 s3
          go_wp2
          go_roundw
          case rel => exact ⟨m + 1, b', c', hlt2, by go_num, rfl, hP2, ha2, hlo2, hO2⟩
          case measure => simp [intOf]; omega
        · obtain rfl : m = 6 := by omega
          have e6 : (rsL q).take 6 = rsL q := List.take_of_length_le (by rw [rsL_len]; exact Nat.le_refl _)
          rw [e6] at hO
          obtain ⟨hRw, _, h6c, _⟩ := Rw.of_own hO (rsL_len q)
          clear e6 s0 s1 s2
          go_wp2_with (at_builtin; refine wpList_append_fresh _ rfl _ _ 28 rfl w.heap.size 3 i0 (.int .i64 0) 1 8 Tryd.underlying28 hi ia ib ic rfl (by decide) _ _ _ rfl (hP.un.alloc _) ⟨wr.heap.size, 0, none⟩ 1 1 [.int .i64 q.d] rfl rfl ?c1 ?c2 ?c3 ?c4 ?c5 ?_)
          case c1 => exact news_v wr _ _
          case c2 => simp [Value.oneCell']
          case c3 => unfold maxLen; omega
          case c4 => omega
          case c5 => simp; omega
          intro v' w7 hown1 hgrow hfr
          obtain ⟨gU', cU', rfl, hP2, ha2, hR2⟩ := hP.unapp ha HKL.out hRw (by rw [HEU.out]; first | exact hown1 | (rw [List.map_take]; exact hown1)) hgrow hfr
          have hsz2 := hP2.bw.size
          clear hown1 hgrow hfr hP ha hO hRw s3
          go_wp2_with (at_builtin; go_loud (refine wpList_append_fresh _ rfl _ _ 45 rfl w.heap.size 28 iR (.slice none 0 0) 1 24 Tryd.underlying45 hi1 ia1 ib1 ic1 rfl (by decide) _ _ _ rfl (hP2.ra.alloc _) ⟨w7.heap.size, 0, none⟩ 1 1 [.slice (some ⟨b, 0, none⟩) 6 c] rfl rfl (news_v w7 _ _) ?c2 ?c3 ?c4 ?c5 ?_))
          case c2 => simp [Value.oneCell']
          case c3 => unfold maxLen; omega
          case c4 => omega
          case c5 => simp; omega
          intro v' w8 hown2 hgrow2 hfr2
          obtain ⟨gR', cR', bl', cp', rfl, hP3⟩ := hP2.raapp ha2 hlo hR2 HER.out h6c hown2 hgrow2 hfr2
          clear hown2 hgrow2 hfr2 hP2 ha2 hR2
          go_wp2
          go_roundw
          case rel => exact ⟨k + 1, gU', cU', gR', cR', bl', cp', hlt, by go_num, rfl, rfl, hP3⟩
          case measure => simp [intOf]; omega
    · obtain rfl : k = n := by omega
      have hCx := HC.out.below hP.bw
      have hsz := hP.bw.size
      go_wp2_with (at_builtin; refine wpList_append_fresh _ rfl _ _ 28 rfl wr.heap.size 3 i0 (.int .i64 0) 1 8 Tryd.underlying28 hi ia ib ic rfl (by decide) _ _ _ rfl (nw_new0 wr wr.heap.size 3 1 (Nat.le_refl _)) ⟨cb, co, none⟩ 6 c2 (cs.map (Value.int .i64)) rfl ?c0 ?c1 ?c2 ?c3 ?c4 ?c5 ?_)
      case c0 => simp [hcl]
      case c1 => exact (hCx.below ((Below.refl _ _).alloc (Nat.le_refl _) _)).news
      case c2 => exact one_ints cs
      case c3 => unfold maxLen; omega
      case c4 => omega
      case c5 => simp
      intro v' w7 hown1 hgrow _
      have hown2 : w7.ownsRow wr.heap.size 3 1 v' 6 (cs.map (Value.int .i64)) := by simpa using hown1
      obtain ⟨gL, cL, rfl, g1, g2, g3, g4⟩ := own_at hown2 (by omega)
      have hRL := (Rw.of_own hown2 hcl).1
      rw [HE1.out, HE2.out] at hP
      rw [HE3.out] at hRL
      obtain ⟨hM, hOt, hA⟩ := PH.mt (σ := σ0) hP HUL.out HRL.out (fun y hy => (hgrow.block y (by simp; omega) (by simp [Value.ownBlock]; omega)).trans (Below.heap_alloc wr _ y hy)) ((hP.bw.alloc hsz _).grown hgrow (by simp; omega) (fun q hq => by simp [Value.ownBlock] at hq; omega)) (by have := hgrow.size; simp at this; omega) hRL g1
      obtain ⟨B1, hB1⟩ : ∃ B, w7.heap.size = B := ⟨_, rfl⟩
      rw [hB1] at hM hOt
      have HM0 := Lib.hid hM
      have HO0 := Lib.hid hOt
      have HA0 := Lib.hid hA
      have hLB : w.heap.size ≤ B1 := by have := hM.lo.1; have := hM.hi.1; omega
      have hbf : σ0.F = (σ0.cars 0).F := rfl
      rw [hbf] at F0 ⊢
      clear hown1 hown2 hgrow hP hCx hRL hM hOt hA g1 g2 g3 g4 hbf hB1 hsz
      go_wp2
      go_loopw [5, 6, 13] (fun o v i wx => ∃ (k' g c : Nat) (ob : List Nat), k' ≤ k ∧ i = .int .i64 k' ∧ v = .int .i64 (σ0.cars k').F ∧ o = .slice (some ⟨g, 0, none⟩) k' c ∧ MT w wx k gU gR gL B1 bl cp (σ0.cars k') ∧ OT wx w.heap.size B1 g c k' ob (σ0.plan k') ∧ Apart g k gU gR gL bl) (fun _ _ i _ => k - (intOf i).toNat)
      case atStart => exact ⟨0, gO, 0, [], by omega, rfl, rfl, rfl, HM0.out, HO0.out, HA0.out⟩
      case round =>
        clear HM0 HO0 HA0
        obtain ⟨k', g, c, ob, hk', rfl, rfl, rfl, hM, hOt, hA⟩ := hrel
        by_cases hlt : k' < k
        · have HM := Lib.hid (MR.new hM hOt hA)
          have hC0 := HOK.out.cars_all k' (by rw [HUL.out]; omega)
          have okc := hC0.1
          have ulc : (σ0.cars k').us.length = k := by rw [hC0.2.1, HUL.out]
          have smc := HSM.out.cars HOK.out k' (by rw [HUL.out]; omega)
          have HOKC := Lib.hid okc
          have HULC := Lib.hid ulc
          have HSMC := Lib.hid smc
          clear hM hOt hA hC0 okc ulc smc
          go_wp2
          obtain ⟨W5, hW5⟩ : ∃ W5, wr.alloc (.cells (madeCells #[.int .i64 0] 6) 3) = W5 := ⟨_, rfl⟩
          obtain ⟨b, hb⟩ : ∃ b, wr.heap.size = b := ⟨_, rfl⟩
          rw [hW5, hb] at HM ⊢
          clear hW5 hb
          obtain ⟨σ, hσ⟩ : ∃ σ, σ0.cars k' = σ := ⟨_, rfl⟩
          obtain ⟨rows, hrows⟩ : ∃ rows, σ0.plan k' = rows := ⟨_, rfl⟩
          have Hσ := Lib.hid hσ
          have Hrw := Lib.hid hrows
          rw [hσ] at HOKC HULC HSMC HM
          rw [hσ]
          rw [hrows] at HM
          clear hσ hrows
          have hF0 : σ.F = (σ.hrs k' 0).F := rfl
          rw [hF0]
          clear hF0
          go_loopw [6, 15] (fun v i wy => ∃ j : Nat, j ≤ 6 ∧ i = .int .i64 j ∧ v = .int .i64 (σ.hrs k' j).F ∧ MR w wy k gU gR gL B1 bl cp (σ.hrs k' j) g c k' ob rows b (σ.row k' j ++ List.replicate (6 - j) 0)) (fun _ i _ => 6 - (intOf i).toNat)
          case atStart => exact ⟨0, by omega, rfl, rfl, HM.out⟩
          case round =>
            clear HM
            obtain ⟨j, hj, rfl, rfl, hM⟩ := hrel
            by_cases hlt2 : j < 6
            · have hH := HOKC.out.hrs_all (i := k') (by rw [HULC.out]; exact hlt) j (by omega)
              have okt := hH.1
              have ult : (σ.hrs k' j).us.length = k := by rw [hH.2.1, HULC.out]
              have smt := HSMC.out.hrs HOKC.out (i := k') (by rw [HULC.out]; exact hlt) j (by omega)
              have hFst := okt.fst_at k' j
              have hNx := okt.nxt_F (i := k') (h := j) (by rw [ult]; exact hlt) hlt2
              have hfl := okt.fst_le k' j
              have hFb := Chs.F_bd smt (by rw [ult]; omega)
              have b1 := smt.1 k'
              have b2 := smt.2.1 k' j
              have b3 := smt.2.2 j
              have tl := okt.2.2.1
              have c0 := hM.mt.ro k' hlt
              have cpk := hM.mt.cc k' hlt
              have c1 := (hM.mt.rr k' hlt).cell hlt2
              have f1 := (hM.mt.rr k' hlt).frozen j
              have c2 := hM.mt.wn.cell hlt
              have f2 := hM.mt.wn.frozen k'
              have c3 := hM.mt.lf.cell hlt2
              have f3 := hM.mt.lf.frozen j
              have ne0 := hM.mt.d4 k' hlt
              have ne1 : ¬ gU = bl k' := fun q => ne0.1 q.symm
              have ne2 : ¬ bl k' = gU := ne0.1
              have ne3 : ¬ gL = bl k' := fun q => ne0.2.2 q.symm
              have ne4 : ¬ bl k' = gL := ne0.2.2
              have ne7 : ¬ gR = bl k' := fun q => ne0.2.1 q.symm
              have ne5 : ¬ gU = gL := hM.mt.d2
              have ne6 : ¬ gL = gU := fun q => hM.mt.d2 q.symm
              have ne8 : ¬ gR = gU := fun q => hM.mt.d1 q.symm
              have ne9 : ¬ gR = gL := hM.mt.d3
              have hnx : Hid (σ.hrs k' (j + 1) = (σ.hrs k' j).nxt k' j) := by show _ = _; rfl
              have hrw : Hid ((σ.row k' j ++ List.replicate (6 - j) 0).set j ((σ.hrs k' j).fst k' j : Int) = σ.row k' (j + 1) ++ List.replicate (6 - (j + 1)) 0) := σ.row_next k' j hlt2
              have htop : (σ.hrs k' j).top k' j = min (min (((σ.hrs k' j).rss.getD k' []).getD j 0) ((σ.hrs k' j).us.getD k' 0)) ((σ.hrs k' j).cs.getD j 0) := rfl
              obtain ⟨τ, hτ⟩ : ∃ τ, σ.hrs k' j = τ := ⟨_, rfl⟩
              rw [hτ] at okt ult smt hFst hNx hfl hFb b1 b2 b3 tl c1 c2 c3 hnx hrw htop hM ⊢
              obtain ⟨r, hr⟩ : ∃ r, (τ.rss.getD k' []).getD j 0 = r := ⟨_, rfl⟩
              obtain ⟨X, hX⟩ : ∃ X, τ.us.getD k' 0 = X := ⟨_, rfl⟩
              obtain ⟨y, hy⟩ : ∃ y, τ.cs.getD j 0 = y := ⟨_, rfl⟩
              obtain ⟨U, hU⟩ : ∃ U, τ.top k' j = U := ⟨_, rfl⟩
              obtain ⟨fN, hfN⟩ : ∃ fN, τ.fst k' j = fN := ⟨_, rfl⟩
              obtain ⟨bK, hbK⟩ : ∃ bK, bl k' = bK := ⟨_, rfl⟩
              obtain ⟨cK, hcK⟩ : ∃ cK, cp k' = cK := ⟨_, rfl⟩
              rw [hr] at b2 c1 htop
              rw [hX] at b1 c2 htop
              rw [hy] at b3 c3 htop
              rw [hU] at hfl htop hFst
              rw [hfN] at hFst hNx hfl hrw
              rw [hbK] at c0 c1 f1 ne1 ne2 ne3 ne4 ne7
              rw [hcK] at c0 cpk
              have HOKT := Lib.hid okt
              have HULT := Lib.hid ult
              have HSMT := Lib.hid smt
              have HFST := Lib.hid hFst
              have HNX := Lib.hid hNx
              have HR := Lib.hid hr
              have HX := Lib.hid hX
              have HY := Lib.hid hy
              have HU := Lib.hid hU
              have HfN := Lib.hid hfN
              have HbK := Lib.hid hbK
              have HM := Lib.hid hM
              have HTOP := Lib.hid htop
              have HTL := Lib.hid tl
              have hU0 : 0 ≤ U ∧ U ≤ 1000 := by omega
              have i1 : (0 : Int) ≤ (k' : Int) := by omega
              have i2 : (k' : Int) < (k : Int) := by omega
              have i3 : (0 : Int) ≤ (j : Int) := by omega
              have i4 : (j : Int) < 6 := by omega
              have q1 := hM.mt.rg
              have q2 := hM.mt.wn.lt
              have q3 := hM.mt.lf.lt
              clear okt ult smt hFst hNx hr hX hy hU hfN hbK hcK hM htop hH tl hτ ne0
              go_upto_region 25 with fail
              go_quiet (fail)
              have eU : (if y < if X < r then X else r then y else if X < r then X else r) = U := by rw [HTOP.out]; split <;> split <;> omega
              rw [eU]
              clear eU
              obtain ⟨UN, rfl⟩ := Int.eq_ofNat_of_zero_le hU0.1
              have hG1 := (HM.out.drewN nq).give (i := k') (j := j) hlt (UN : Int)
              rw [HX.out, HY.out, HbK.out] at hG1
              have HG1 := Lib.hid hG1
              have HNXE := hnx
              have HRW := hrw
              have hfl2 : fN ≤ UN := by omega
              clear hG1 hnx hrw hfl HM
              go_wp2
              go_loopw [16] (fun u wz => ∃ m : Nat, fN ≤ m ∧ m ≤ UN ∧ u = .int .i64 m ∧ MR w wz k gU gR gL B1 bl cp (τ.give k' j m) g c k' ob rows b (σ.row k' j ++ List.replicate (6 - j) 0)) (fun u _ => (intOf u).toNat)
              case atStart => exact ⟨UN, hfl2, Nat.le_refl _, rfl, HG1.out⟩
              case round =>
                clear HG1 c0 c1 c2 c3 f1 f2 f3 q1 q2 q3
                obtain ⟨m, hm1, hm2, rfl, hM⟩ := hrel
                have sg := HSMT.out.give (i := k') (h' := j) (u := (m : Int)) (by omega) (by rw [HU.out]; omega)
                have ug : (τ.give k' j m).us.length = k := by show (τ.us.set k' _).length = k; rw [List.length_set, HULT.out]
                have six : ∀ i, i < k → ((τ.give k' j m).rss.getD i []).length = 6 := fun i hi => (hM.mt.rr i hi).1
                have L0 := l4Most_s (some ⟨gU, 0, none⟩) (some ⟨gR, 0, none⟩) (some ⟨gL, 0, none⟩) k cU cR cL (τ.give k' j m).us (τ.give k' j m).rss (τ.give k' j m).cs wr hM.mt.wn.ints (hM.mt.tabs six) hM.mt.lf.ints (by omega) six sg.1 sg.2.1 sg.2.2
                have hFe : lcV (τ.give k' j m).us (τ.give k' j m).rss (τ.give k' j m).cs = (τ.give k' j m).F := rfl
                rw [hFe] at L0
                have gb := Chs.F_bd sg (by rw [ug]; omega)
                have hlo := HFST.out.1 m
                have HMt := hM.mt
                clear sg hFe ug six
                by_cases he : m = fN
                · subst he
                  have hst : (m : Int) + (τ.give k' j m).F = τ.F := by
                    have := HNX.out
                    rw [show τ.nxt k' j = τ.give k' j (τ.fst k' j : Int) from rfl, HfN.out] at this
                    omega
                  obtain ⟨F1, hF1⟩ : ∃ F1, (τ.give k' j m).F = F1 := ⟨_, rfl⟩
                  rw [hF1] at L0 gb hst
                  have d2 : decide ((m : Int) + F1 < τ.F) = false := by simp; omega
                  clear hF1 hlo hst HMt
                  go_upto_region 33 with (go_at_call 115; ((with_reducible refine L0.mono ?_); rintro e w6 ⟨rfl, hb6⟩; replace hM := hM.below hb6; clear hb6))
                  have p1 := hM.rw_.int_cell (k := j) (by simp [Chs.row_len]; omega)
                  have p2 := hM.rw_.frozen j
                  have hq := hM.put j (m : Int)
                  rw [HRW.out] at hq
                  have HQ := Lib.hid hq
                  clear hq hM L0
                  go_wp2
                  go_roundw
                  case rel => exact ⟨j + 1, hlt2, by go_num, by rw [HNXE.out, HNX.out], by rw [HNXE.out]; show MR _ _ _ _ _ _ _ _ _ (τ.give k' j (τ.fst k' j : Int)) _ _ _ _ _ _ _; rw [HfN.out]; exact HQ.out⟩
                  case measure => simp [intOf]; omega
                · have hlt4 := hlo (by omega) (by omega)
                  obtain ⟨F1, hF1⟩ : ∃ F1, (τ.give k' j m).F = F1 := ⟨_, rfl⟩
                  rw [hF1] at L0 gb hlt4
                  have d2 : decide ((m : Int) + F1 < τ.F) = true := by simpa using hlt4
                  clear hF1 hlo HMt
                  obtain ⟨m', rfl⟩ : ∃ m', m = m' + 1 := ⟨m - 1, by omega⟩
                  rw [show ((m' + 1 : Nat) : Int) = (m' : Int) + 1 by omega] at d2
                  clear hlt4
                  go_upto_region 30 with (go_at_call 115; ((with_reducible refine L0.mono ?_); rintro e w6 ⟨rfl, hb6⟩; replace hM := hM.below hb6; clear hb6))
                  have c2 := hM.mt.wn.cell hlt
                  have f2 := hM.mt.wn.frozen k'
                  have c3 := hM.mt.lf.cell hlt2
                  have f3 := hM.mt.lf.frozen j
                  have v1 : (τ.give k' j ((m' + 1 : Nat) : Int)).us.getD k' 0 = X - ((m' : Int) + 1) := by
                    show (τ.us.set k' (τ.us.getD k' 0 - ((m' + 1 : Nat) : Int))).getD k' 0 = _
                    rw [getD_set, if_pos ⟨rfl, by rw [HULT.out]; exact hlt⟩, HX.out]; all_goals omega
                  have v2 : (τ.give k' j ((m' + 1 : Nat) : Int)).cs.getD j 0 = y - ((m' : Int) + 1) := by
                    show (τ.cs.set j (τ.cs.getD j 0 - ((m' + 1 : Nat) : Int))).getD j 0 = _
                    rw [getD_set, if_pos ⟨rfl, by rw [HOKT.out.2.1]; exact hlt2⟩, HY.out]; all_goals omega
                  rw [v1] at c2
                  rw [v2] at c3
                  have hBk := hM.back (i := k') (j := j) (u := m') hlt (v1 := X - ((m' : Int) + 1) + 1) (v2 := y - ((m' : Int) + 1) + 1) (by rw [HX.out]; omega) (by rw [HY.out]; omega)
                  have HBk := Lib.hid hBk
                  have q2 := hM.mt.wn.lt
                  have q3 := hM.mt.lf.lt
                  clear hBk v1 v2 hM L0
                  go_wp2
                  go_roundw
                  case rel => exact ⟨m', by omega, by omega, by go_num, HBk.out⟩
                  case measure => first | (simp [intOf]; done) | (simp [intOf]; omega)
            · obtain rfl : j = 6 := by omega
              have hsz := hM.mt.bw.size
              go_wp2_with (at_builtin; refine wpList_append_fresh _ rfl _ _ 45 rfl w.heap.size 28 iR (.slice none 0 0) 1 24 Tryd.underlying45 hi1 ia1 ib1 ic1 rfl (by decide) _ _ _ rfl (hM.ot.own.alloc _) ⟨wr.heap.size, 0, none⟩ 1 1 [.slice (some ⟨b, 0, none⟩) 6 6] rfl rfl (news_v wr _ _) ?c2 ?c3 ?c4 ?c5 ?_)
              case c2 => simp [Value.oneCell']
              case c3 => unfold maxLen; omega
              case c4 => omega
              case c5 => simp; omega
              intro v' w8 hown2 hgrow2 hfr2
              have hrl := σ.row_len k' 6
              obtain ⟨g', c', rfl, hO3, hg3, hk3⟩ := hM.ot.app hM.rw_ (by simp [hrl]) hM.e1 hM.e2 hM.e3 hown2 hgrow2 hfr2
              have hgl := hM.ot.at_
              have hb8 : Below w.heap.size w w8 := (hM.mt.bw.alloc hsz _).grown hgrow2 (by simp; omega) (fun q hq => by simp [Value.ownBlock] at hq; omega)
              have hM3 := hM.mt.kept hM.ap hk3 hb8 (by have := hgrow2.size; simp at this; omega)
              have hA3 : Apart g' k gU gR gL bl := by
                obtain ⟨a1, a2, a3, a4⟩ := hM.ap
                have h1 := hM.mt.hi
                have h2 := hM.mt.b1
                refine ⟨by omega, by omega, by omega, fun i hi => ?_⟩
                have := h1.2.2.2 i hi
                have := a4 i hi
                omega
              have e1 : Hid (σ0.cars (k' + 1) = σ.hrs k' 6) := by show (σ0.cars k').hrs k' 6 = _; rw [Hσ.out]
              have e2 : Hid (σ0.plan (k' + 1) = rows ++ [σ.row k' 6]) := by show σ0.plan k' ++ [(σ0.cars k').row k' 6] = _; rw [Hσ.out, Hrw.out]
              rw [Nat.sub_self, List.replicate_zero, List.append_nil] at hO3
              clear hown2 hgrow2 hfr2 hM hk3 hgl hb8
              go_wp2
              go_roundw
              case rel => exact ⟨k' + 1, g', c', ob ++ [b], hlt, by go_num, by rw [e1.out], rfl, by rw [e1.out]; exact hM3, by rw [e2.out]; exact hO3, hA3⟩
              case measure => simp [intOf]; omega
        · obtain rfl : k' = k := by omega
          have hpl := σ0.plan_len k'
          have hbw := hM.bw
          go_wp2
          go_ret
          exact ⟨g, c, ob, B1, by show Ending.returned (Value.slice (some ⟨g, 0, none⟩) k' c) = _; rw [hpl], by rw [hpl]; exact hOt, hLB, hbw⟩
end Go.Proofs.YtoiaggjjfahabaaDoor
