/- BookPlaces of the reference: what it computes. Condition: the list's length. -/
import Derived.Test.YtoiaggjjfahabaaDoorOI
import Derived.Test.YtoiaggjjfahabaaDoorRws
namespace Go.Proofs.YtoiaggjjfahabaaDoor
open Go.RowKit
set_option linter.unusedVariables false
/-- a result []int that reads as xs -/
def ResP (w : World) (xs : List Int) (e : Ending) (w' : World) : Prop := ∃ A c, e = .returned (.slice A xs.length c) ∧ (0 < xs.length → ∃ g, A = some ⟨g, 0, none⟩ ∧ w.heap.size ≤ g ∧ Rw w' g xs.length xs) ∧ Below w.heap.size w w'
theorem PI.at {w0 w : World} {v : Value} {n : Nat} {zs : List Int} (h : PI w0 w v (n + 1) zs) : ∃ g c, v = .slice (some ⟨g, 0, none⟩) (n + 1) c := by
  obtain ⟨g, c, e, _⟩ := o_at h.2.1 (by omega)
  exact ⟨g, c, e⟩
theorem Ints.far {w : World} {b off n : Nat} {zs : List Int} (h : Ints w (some ⟨b, off, none⟩) n zs) {p : Addr} (hp : p.block ≠ b) (u : Value) : Ints (w.setCell p u) (some ⟨b, off, none⟩) n zs := by
  refine ⟨h.1, fun hn => ?_⟩
  obtain ⟨b', o', e, hl, hc⟩ := h.2 hn
  simp only [Option.some.injEq, Addr.mk.injEq, and_true] at e
  obtain ⟨rfl, rfl⟩ := e
  exact ⟨b, off, rfl, by simpa using hl, fun k hk => (World.cell?_setCell_other _ _ _ _ (by rintro rfl; exact hp rfl)).trans (hc k hk)⟩
theorem usB_more {qs : List Quad} {pl : List Int} {i p k n : Nat} (hk : k ≤ n) (h : usB qs pl i p k = true) : usB qs pl i p n = true := by
  obtain ⟨j, h1, h2, h3⟩ := (usB_iff qs pl i p k).1 h
  exact (usB_iff qs pl i p n).2 ⟨j, by omega, h2, h3⟩
set_option maxRecDepth 100000 in
set_option maxHeartbeats 4000000 in
theorem BookPlaces_s (A : Option Addr) (n cap : Nat) (qs : List Quad) (w : World) (h : Books w A n qs) (hn : n ≤ 1048576) :
    Calls Tryd.prog 40 #[.slice A n cap] w (ResP w (plV qs)) := by
  obtain ⟨i0, hi, ia, ib, ic⟩ := info_parts infoInt
  obtain ⟨V, hV⟩ : ∃ V, bsV qs = V := ⟨_, rfl⟩
  have V_s : ∀ w, Books w A n qs → Calls Tryd.prog 41 #[.slice A n cap] w fun e w' => e = .returned (.bool V) ∧ Below w.heap.size w w' := fun w h => by have := BooksValid_s A n cap qs w h hn; rw [hV] at this; exact this
  go_enter Tryd.func40, Tryd.ntmps40
  cases V
  · have he : plV qs = [] := by unfold plV; rw [hV]; rfl
    have HE := Lib.hid he
    clear hV he
    go_wp2_with (go_at_call 41; ((with_reducible refine (V_s _ h).mono ?_); rintro e w1 ⟨rfl, hb⟩))
    go_ret
    rw [HE.out]
    exact ⟨_, _, rfl, fun h => absurd h (by simp), by have := hb.size; (repeat (first | exact Below.refl _ _ | assumption | refine Below.alloc ?_ (by first | omega | (simp; done) | (simp; omega)) _ | refine Below.drew ?_ | refine bdN ?_ _ | refine Below.setCell ?_ (by first | omega | (simp; done) | (simp; omega)) _))⟩
  · have hlen := h.1
    have h7 := (bs_from hV).1
    have hol := ord_len hV
    have HV := Lib.hid hV
    have HLN := Lib.hid hlen
    rw [hlen] at h7 hol
    have HOL := Lib.hid hol
    clear hV hlen hol
    go_wp2_with (go_at_call 41; ((with_reducible refine (V_s _ h).mono ?_); rintro e w1 ⟨rfl, hb1⟩; clear V_s))
    have T0 : PI w (w1.alloc (.cells #[] 3)) (.slice (some ⟨w1.heap.size, 0, none⟩) 0 0) 0 [] := PI.new hb1
    go_loopw [3, 4] (fun v i wr => ∃ (k g c : Nat), i = .int .i64 k ∧ k ≤ n ∧ v = .slice (some ⟨g, 0, none⟩) k c ∧ PI w wr v k (List.replicate k (-1))) (fun _ i _ => n - (intOf i).toNat)
    case atStart => exact ⟨0, _, _, rfl, by omega, rfl, T0⟩
    case round =>
      clear T0 hb1
      obtain ⟨k, g, c, rfl, hk, rfl, T⟩ := hrel
      have hsz := T.1.size
      by_cases hlk : k < n
      · go_wp2_with (at_builtin; refine wpList_append_own _ rfl _ _ 28 rfl w.heap.size 3 i0 (.int .i64 0) 1 8 Tryd.underlying28 hi ia ib ic rfl (by decide) _ _ _ rfl (T.2.1.alloc _) ⟨wr.heap.size, 0, none⟩ 1 1 [.int .i64 (-1)] rfl rfl (o_one wr _ _) ?c2 ?c3 ?c4 ?c5 ?_)
        case c2 => simp [Value.oneCell']
        case c3 => unfold maxLen; omega
        case c4 => omega
        case c5 => first | omega | (simp; omega)
        intro v' w2 hown1 hgrow _
        rw [← List.map_replicate] at hown1
        have T' := T.app hown1 hgrow
        obtain ⟨g', c', rfl⟩ := T'.at
        clear hown1 hgrow T
        go_wp2
        go_roundw
        case rel => exact ⟨k + 1, g', c', by go_num, hlk, rfl, by rw [List.replicate_succ']; exact T'⟩
        case measure => simp [intOf]; omega
      · obtain rfl : k = n := by omega
        obtain ⟨hR, hg1, hg2, hg3⟩ := Rw.of_own T.2.1 (by simp)
        have hbr := T.1
        clear T
        go_upto_region 9 with (go_at_call 76; ((with_reducible refine (l6ByFrom_s A k cap qs _ (h.below hbr) (by omega)).mono ?_); rintro e w2 ⟨v2, m, rfl, T2⟩))
        obtain ⟨B, c2, rfl, g1, g2, hO⟩ := o_ints T2.2.1 T2.2.2
        have HGB : Hid (0 < m → ∃ ob, B = some ⟨ob, 0, none⟩ ∧ g < ob) := fun h0 => by
          obtain ⟨ob, _, e, e1, _⟩ := o_at T2.2.1 h0
          injection e with e2
          exact ⟨ob, e2, Nat.lt_of_lt_of_le hR.lt e1⟩
        obtain rfl : m = k := by rw [← hO.1, nI_len]; exact HOL.out
        have hR2 := hR.below T2.1 hR.lt
        have hb2 := hbr.trans (T2.1.mono hsz)
        have HR2 := Lib.hid hR2
        clear hR hbr T2 hsz hR2
        go_wp2
        go_loopw [6] (fun i wr => ∃ k : Nat, k ≤ m ∧ i = .int .i64 k ∧ Rw wr g m (plTo qs (ordF qs) k) ∧ Ints wr B m (nI (ordF qs)) ∧ Below w.heap.size w wr) (fun i _ => m - (intOf i).toNat)
        case atStart => exact ⟨0, by omega, rfl, by unfold plTo; rw [HLN.out]; exact HR2.out, hO, hb2⟩
        case round =>
          clear hO hb2 HR2
          obtain ⟨k, hk, rfl, hR, hO, hb⟩ := hrel
          by_cases hlk : k < m
          · obtain ⟨p1, p2⟩ := plc_next HV.out (show k < qs.length by rw [HLN.out]; exact hlk)
            obtain ⟨f1, f2, f3⟩ := free_few (show qs.length ≤ 7 by rw [HLN.out]; exact h7) (pl_len qs (ordF qs) k) p1 p2
            have hs := show plTo qs (ordF qs) (k + 1) = (plTo qs (ordF qs) k).set ((ordF qs).getD k 0) (freeP qs (plTo qs (ordF qs) k) ((ordF qs).getD k 0) : Int) from rfl
            have hni := nI_at (ordF qs) (k := k) (by rw [HOL.out]; exact hlk)
            obtain ⟨ob, rfl, hgo⟩ := HGB.out (by omega)
            have hoc := (o_cellx hO k hlk).1
            have hol := (o_cellx hO k hlk).2
            rw [hni, Nat.zero_add] at hoc
            obtain ⟨x, hx⟩ : ∃ x, (ordF qs).getD k 0 = x := ⟨_, rfl⟩
            obtain ⟨pl, hpl⟩ : ∃ pl, plTo qs (ordF qs) k = pl := ⟨_, rfl⟩
            rw [hx] at p1 p2 hoc hs
            rw [hpl] at p2 hs hR
            rw [hx, hpl, HLN.out] at f1 f2 f3
            rw [HLN.out] at p1
            obtain ⟨nb, no, rfl, hnl, hnc⟩ := h.2 (by omega)
            obtain ⟨x0, x1, x2, x3⟩ := hnc x p1
            obtain ⟨qx, hqx⟩ : ∃ q, qs.getD x q0 = q := ⟨_, rfl⟩
            rw [hqx] at x0 x1 x2 x3
            obtain ⟨f, hf⟩ : ∃ f, freeP qs pl x = f := ⟨_, rfl⟩
            rw [hf] at f1 f2 f3 hs
            have few := fun q => used_few (f := q) (by rw [hR.1, HLN.out]) (show x < qs.length by rw [HLN.out]; exact p1) p2
            rw [HLN.out] at few
            have X0 := Lib.hid x0
            have X1 := Lib.hid x1
            have X2 := Lib.hid x2
            have X3 := Lib.hid x3
            have HN := Lib.hid hnc
            have HS := Lib.hid hs
            have HQX := Lib.hid hqx
            have F2 := Lib.hid f2
            have F3 := Lib.hid f3
            have FEW := Lib.hid few
            have HOC := Lib.hid hoc
            have HO := Lib.hid hO
            clear x0 x1 x2 x3 hnc hs hqx f2 f3 few hni hx hpl hoc hO p2 hf
            obtain ⟨wo, rfl⟩ : ∃ wo : World, wo = wr := ⟨_, rfl⟩
            go_wp2
            go_loopw [7, 8] (fun v i wq => ∃ p j : Nat, v = .int .i64 p ∧ i = .int .i64 j ∧ j ≤ m ∧ p + 1 ≤ m ∧ (∀ q, q < p → usB qs pl x q m = true) ∧ usB qs pl x p j = false ∧ Rw wq g m pl ∧ Below wo.heap.size wo wq) (fun v i _ => 8 * (7 - (intOf v).toNat) + (m - (intOf i).toNat))
            case atStart => exact ⟨0, 0, rfl, rfl, by omega, by omega, fun q hq => absurd hq (by omega), rfl, hR, Below.refl _ _⟩
            case round =>
              clear hR
              obtain ⟨p, j, rfl, rfl, hj, hp, hus, hno, hR, hbq⟩ := hrel
              have HU := Lib.hid hus
              have HNO := Lib.hid hno
              clear hus hno
              have hb2 := hb.trans (hbq.mono hb.size)
              have hB2 := Lib.hid hb2
              have hz1 : nb < wr.heap.size := by have := hb2.size; omega
              have hz2 : ob < wr.heap.size := by have := hbq.size; omega
              have o1 := (hbq.cell (p := ⟨ob, k, none⟩) hol).trans HOC.out
              have y0 := (hb2.cell (p := ⟨nb, no + x * 4, none⟩) hnl).trans X0.out
              have y1 := (hb2.cell (p := ⟨nb, no + x * 4 + 1, none⟩) hnl).trans X1.out
              have y2 := (hb2.cell (p := ⟨nb, no + x * 4 + 2, none⟩) hnl).trans X2.out
              have y3 := (hb2.cell (p := ⟨nb, no + x * 4 + 3, none⟩) hnl).trans X3.out
              have i3 : (0 : Int) ≤ (k : Int) := by omega
              have i4 : (k : Int) < (m : Int) := by omega
              have i5 : (0 : Int) ≤ (x : Int) := by omega
              have i6 : (x : Int) < (m : Int) := by omega
              clear hb2
              by_cases hlj : j < m
              · obtain ⟨r0, r1, r2, r3⟩ := HN.out j hlj
                have hus := show usB qs pl x p (j + 1) = (usB qs pl x p j || (decide (pl.getD j 0 = (p : Int)) && ovq (qs.getD x q0) (qs.getD j q0))) from rfl
                rw [HQX.out] at hus
                have hzc := hR.cell hlj
                have hgl := hR.lt
                obtain ⟨z, hz⟩ : ∃ z, pl.getD j 0 = z := ⟨_, rfl⟩
                obtain ⟨qj, hqj⟩ : ∃ q, qs.getD j q0 = q := ⟨_, rfl⟩
                rw [hz] at hzc hus
                rw [hqj] at r0 r1 r2 r3 hus
                have s0 := (hB2.out.cell (p := ⟨nb, no + j * 4, none⟩) hnl).trans r0
                have s1 := (hB2.out.cell (p := ⟨nb, no + j * 4 + 1, none⟩) hnl).trans r1
                have s2 := (hB2.out.cell (p := ⟨nb, no + j * 4 + 2, none⟩) hnl).trans r2
                have s3 := (hB2.out.cell (p := ⟨nb, no + j * 4 + 3, none⟩) hnl).trans r3
                have i1 : (0 : Int) ≤ (j : Int) := by omega
                have i2 : (j : Int) < (m : Int) := by omega
                have HUS := Lib.hid hus
                have HR := Lib.hid hR
                have HQ := Lib.hid hbq
                obtain ⟨a1, b1, c1, d1⟩ := qx
                obtain ⟨a2, b2, c2', d2⟩ := qj
                clear r0 r1 r2 r3 hus hz hqj hR hbq
                by_cases hzp : z = (p : Int)
                · have t1 : (z == (p : Int)) = true := by simpa using hzp
                  have e1 : decide (z = (p : Int)) = true := by simpa using hzp
                  have e2 := ovq_comm ⟨a1, b1, c1, d1⟩ ⟨a2, b2, c2', d2⟩
                  have O0 := fun w => Overlap_s a2 b2 c2' d2 a1 b1 c1 d1 w
                  have e3 : ovq ⟨a2, b2, c2', d2⟩ ⟨a1, b1, c1, d1⟩ = ovl b2 c2' b1 c1 := rfl
                  obtain ⟨ov, hov⟩ : ∃ o, ovl b2 c2' b1 c1 = o := ⟨_, rfl⟩
                  rw [hov] at e3 O0
                  rw [e3] at e2
                  have HE : Hid (usB qs pl x p (j + 1) = ov) := by show _ = _; rw [HUS.out, HNO.out, e1, e2]; simp
                  have HZP := Lib.hid hzp
                  clear e1 e2 e3 hov HUS hzp
                  go_upto_region 16 with fail
                  go_region_held3 (fun w' => Below (wr.heap.size) (wr) w' ∧ ∀ k o, k < wr.heap.size → w'.cell? ⟨k, o, none⟩ = World.cell? (wr) ⟨k, o, none⟩) (first | assumption | exact kp_start | (refine kp_step ?_ hb ?_; assumption; (first | omega | (simp; done) | (simp; omega))) | (refine kp_drew ?_; assumption) | (refine kp_drew (kp_of hb ?_); (first | omega | (simp; done) | (simp; omega)))) (first | (go_at_call 77; (with_reducible refine (O0 _).mono ?_); rintro e w' ⟨rfl, hb⟩))
                  all_goals
                    cases ov
                    · go_wp2_with fail
                      go_roundw
                      case rel => exact ⟨p, j + 1, rfl, by go_num, hlj, hp, HU.out, HE.out, HR.out.below (B := wr.heap.size) (by (refine kp_end (by assumption) ?_ (by first | omega | (simp; done) | (simp; omega)); (repeat (first | exact Below.refl _ _ | assumption | refine Below.alloc ?_ (by first | omega | (simp; done) | (simp; omega)) _ | refine Below.drew ?_ | refine bdN ?_ _ | refine Below.setCell ?_ (by first | omega | (simp; done) | (simp; omega)) _)))) hgl, (by have hq9 := HQ.out; have := hq9.size; (refine kp_end (by assumption) ?_ (by first | omega | (simp; done) | (simp; omega)); (repeat (first | exact Below.refl _ _ | assumption | refine Below.alloc ?_ (by first | omega | (simp; done) | (simp; omega)) _ | refine Below.drew ?_ | refine bdN ?_ _ | refine Below.setCell ?_ (by first | omega | (simp; done) | (simp; omega)) _))))⟩
                      case measure => simp [intOf]; omega
                    · have hall : ∀ q, q < p + 1 → usB qs pl x q m = true := fun q hq => by
                        by_cases e : q = p
                        · rw [e]; exact usB_more hlj HE.out
                        · exact HU.out q (by omega)
                      have hp2 := FEW.out (p + 1) hall
                      have HALL := Lib.hid hall
                      clear hall
                      go_wp2_with fail
                      go_roundw
                      case rel => exact ⟨p + 1, 0, by go_num, by go_num, by omega, hp2, HALL.out, rfl, HR.out.below (B := wr.heap.size) (by (refine kp_end (by assumption) ?_ (by first | omega | (simp; done) | (simp; omega)); (repeat (first | exact Below.refl _ _ | assumption | refine Below.alloc ?_ (by first | omega | (simp; done) | (simp; omega)) _ | refine Below.drew ?_ | refine bdN ?_ _ | refine Below.setCell ?_ (by first | omega | (simp; done) | (simp; omega)) _)))) hgl, (by have hq9 := HQ.out; have := hq9.size; (refine kp_end (by assumption) ?_ (by first | omega | (simp; done) | (simp; omega)); (repeat (first | exact Below.refl _ _ | assumption | refine Below.alloc ?_ (by first | omega | (simp; done) | (simp; omega)) _ | refine Below.drew ?_ | refine bdN ?_ _ | refine Below.setCell ?_ (by first | omega | (simp; done) | (simp; omega)) _))))⟩
                      case measure => simp [intOf]; omega
                · have t1 : (z == (p : Int)) = false := by simpa using hzp
                  have e1 : decide (z = (p : Int)) = false := by simpa using hzp
                  have HE : Hid (usB qs pl x p (j + 1) = false) := by show _ = _; rw [HUS.out, HNO.out, e1]; simp
                  clear e1 HUS hzp
                  go_upto_region 16 with fail
                  go_quiet (fail)
                  all_goals
                    go_wp2
                    go_roundw
                    case rel => exact ⟨p, j + 1, rfl, by go_num, hlj, hp, HU.out, HE.out, HR.out.below (B := wr.heap.size) (by (repeat (first | exact Below.refl _ _ | assumption | refine Below.alloc ?_ (by first | omega | (simp; done) | (simp; omega)) _ | refine Below.drew ?_ | refine bdN ?_ _ | refine Below.setCell ?_ (by first | omega | (simp; done) | (simp; omega)) _))) hgl, HQ.out.trans (by (repeat (first | exact Below.refl _ _ | assumption | refine Below.alloc ?_ (by first | omega | (simp; done) | (simp; omega)) _ | refine Below.drew ?_ | refine bdN ?_ _ | refine Below.setCell ?_ (by first | omega | (simp; done) | (simp; omega)) _)))⟩
                    case measure => simp [intOf]; omega
              · obtain rfl : j = m := by omega
                obtain rfl : p = f := by
                  rcases Nat.lt_trichotomy p f with q | q | q
                  · have := F2.out p q; rw [HNO.out] at this; cases this
                  · exact q
                  · have := HU.out f q; rw [F3.out] at this; cases this
                have g3 := hR.cell p1
                have g4 := hR.frozen x
                have HR := Lib.hid hR
                have HQ := Lib.hid hbq
                clear hR hbq
                go_wp2
                go_roundw
                case rel => exact ⟨k + 1, hlk, by go_num, by rw [HS.out]; exact HR.out.set x p, (HO.out.below HQ.out).far (by show g ≠ ob; omega) _, hB2.out.setCell hg1 _⟩
                case measure => simp [intOf]; omega
          · obtain rfl : k = m := by omega
            have e : Hid (plV qs = plTo qs (ordF qs) k) := by show _ = _; unfold plV; rw [if_pos HV.out, HLN.out]
            go_wp2
            go_ret
            have hl := hR.1
            rw [e.out]
            exact ⟨some ⟨g, 0, none⟩, c, by rw [hl]; rfl, fun _ => ⟨g, rfl, hg1, by rw [hl]; exact hR⟩, hb⟩
end Go.Proofs.YtoiaggjjfahabaaDoor
