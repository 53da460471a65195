/- The walk of laws.FnMostUnits. No condition. -/
import Derived.Test.YtoombdhchikbmaaDoorDFed
import Derived.Test.YtoombdhchikbmaaDoorChg10
import Derived.Test.YtoombdhchikbmaaDoorChg9
import Derived.Test.YtoombdhchikbmaaDoorAliveL
import Derived.Deep.RegionLaw
namespace Go.Proofs.YtoombdhchikbmaaDoor
open Go.RowKit
set_option linter.unusedVariables false
theorem mu_at {qs : List Quad} {cs : List Int} (h : 0 ≤ muV qs cs) : nsV qs = true ∧ fvV cs = true ∧ muV qs cs = lcV (usL qs) (rssL qs) cs := by
  unfold muV at h ⊢
  split at h
  · rename_i g; exact ⟨g.1, g.2, by rw [if_pos g]⟩
  · omega
theorem mu_no {qs : List Quad} {cs : List Int} (h : muV qs cs < 0) : muV qs cs = -1 := by
  by_cases g : nsV qs = true ∧ fvV cs = true
  · have := muV_nn g.1 g.2
    rw [this.1] at h; omega
  · unfold muV; rw [if_neg g]
theorem mp_pv {qs : List Quad} {cs : List Int} (h1 : nsV qs = true) (h2 : fvV cs = true) : pvV qs cs (mpV qs cs) = true := by
  obtain ⟨P, pl, ps, p6, pa⟩ := mp_good h1 h2
  have e := us_len qs
  rw [pvV_yes]
  refine ⟨h1, h2, pl, fun k hk => ⟨p6 k hk, fun j _ => P.row k (by rw [e]; exact hk) j, P.sum k (by rw [e]; exact hk)⟩, fun j hj => ?_⟩
  have := P.load j hj
  rw [e] at this; exact this
theorem fv_more {cs : List Int} (h : fvV cs = true) (j : Nat) (hj : j < 6) (hz : cs.getD j 0 + 1 ≤ 30) : fvV (cs.set j (cs.getD j 0 + 1)) = true := by
  obtain ⟨l, b⟩ := fv_at h
  unfold fvV
  simp only [decide_eq_true_eq]
  refine ⟨by rw [List.length_set]; exact l, fun i hi => ?_⟩
  rw [List.getD_eq_getElem?_getD, List.getElem?_set]
  have bj := b j
  by_cases e : j = i
  · subst e
    rw [if_pos rfl, if_pos (by omega), Option.getD_some]; omega
  · rw [if_neg e, ← List.getD_eq_getElem?_getD]; exact b i
theorem mu_more {qs : List Quad} {cs : List Int} (h : 0 ≤ muV qs cs) (j : Nat) (hj : j < 6) (hz : cs.getD j 0 + 1 ≤ 30) : muV qs (cs.set j (cs.getD j 0 + 1)) = muV qs cs ∨ muV qs (cs.set j (cs.getD j 0 + 1)) = muV qs cs + 1 := by
  obtain ⟨h1, h2, h3⟩ := mu_at h
  have h4 := (muV_nn h1 (fv_more h2 j hj hz)).1
  rw [h3, h4]
  exact lcV_more _ _ _ _ (by rw [(fv_at h2).1]; exact hj)
set_option maxRecDepth 100000 in
set_option maxHeartbeats 4000000 in
theorem FnMostUnits_walk (w : World) (A : Option Addr) (n cap : Nat) (zs : List Int) (h : Nums .u8 w A n cap zs) :
    Calls Tryd.prog 10 #[.slice A n cap] w fun e w' => e = .returned (.bool true) ∧ Below w.heap.size w w' := by
  obtain ⟨i0, hi, ia, ib, ic⟩ := info_parts infoI
  go_enter Tryd.func10, Tryd.ntmps10
  by_cases hn : 1048576 < n
  · have hnb : decide (1048576 < n) = true := by simpa using hn
    clear h
    go_wp2
    go_ret
    exact ⟨rfl, by (repeat (first | exact Below.refl _ _ | assumption | refine Below.alloc ?_ (by first | omega | (simp; done) | (simp; omega)) _ | refine Below.drew ?_ | refine bdN ?_ _ | refine Below.setCell ?_ (by first | omega | (simp; done) | (simp; omega)) _))⟩
  · have hnb : decide (1048576 < n) = false := by simpa using hn
    go_upto_region 4 with (go_at_call 40; refine (drawMostUnits_ok A n cap zs _ h (by omega)).mono ?_; rintro E w1 ⟨G, k, c, qs, M, m, d, ys, rfl, hA, hC, k9, kc, cm, m7, md, dm, hq, hy, sa, hw⟩; clear h)
    clear hn hnb hq hy
    have hkl := hA.1
    obtain ⟨L, hL⟩ : ∃ L, muV qs ys = L := ⟨_, rfl⟩
    have F_i : ∀ w, Books w G k qs → Ints w M m ys → Calls Tryd.prog 32 #[.slice G k c, .slice M m d] w fun E w' => E = .returned (.int .i64 L) ∧ Below w.heap.size w w' := fun w h h' => by have := MostUnits_i G M k c d m qs ys w h h' (by omega) (by omega); rw [hL] at this; exact this
    have F_s : ∀ w, Books w G k qs → Ints w M m ys → Calls Tryd.prog 41 #[.slice G k c, .slice M m d] w fun E w' => E = .returned (.int .i64 L) ∧ Below w.heap.size w w' := fun w h h' => by have := MostUnits_s G M k c d m qs ys w h h' (by omega) (by omega) sa; rw [hL] at this; exact this
    have HL := Lib.hid hL
    clear hL sa
    go_upto_if 25 with (first
      | (go_at_call 32; ((with_reducible refine (F_i _ hA hC).mono ?_); rintro E wk ⟨rfl, hb⟩; replace hA := hA.below hb; replace hC := hC.below hb; replace hw := bt hw hb; clear hb))
      | (go_at_call 41; ((with_reducible refine (F_s _ hA hC).mono ?_); rintro E wk ⟨rfl, hb⟩; replace hA := hA.below hb; replace hC := hC.below hb; replace hw := bt hw hb; clear hb)))
    clear F_i F_s
    by_cases hl : L < 0
    · have e := mu_no (qs := qs) (cs := ys) (by rw [HL.out]; exact hl)
      rw [HL.out] at e
      subst e
      clear HL
      go_wp2_with (go_at_call 20; ((with_reducible refine (alive_ok _).mono ?_); rintro E wk ⟨rfl, hb⟩; replace hw := bt hw hb; clear hb))
      go_ret
      exact ⟨rfl, hw⟩
    · have hlb : decide (L < 0) = false := by simpa using hl
      have h0 : 0 ≤ muV qs ys := by rw [HL.out]; omega
      obtain ⟨v1, v2, hlc⟩ := mu_at h0
      have hLb := muV_nn v1 v2
      have hm6 : m = 6 := by rw [← hC.1]; exact (fv_at v2).1
      subst hm6
      have l6 := hC.1
      obtain ⟨P, pl, ps, p6, pa⟩ := mp_good v1 v2
      have hpv := mp_pv v1 v2
      rw [hkl] at pl p6 pa
      rw [← hlc, HL.out] at pa
      rw [← hlc, HL.out] at hLb
      have hLb2 := hLb.2
      have P_i : ∀ w, Books w G k qs → Ints w M 6 ys → Calls Tryd.prog 27 #[.slice G k c, .slice M 6 d] w (MP w (mpV qs ys)) := fun w h h' => MostPlan_i G M k c d 6 qs ys w h h' (by omega) (by omega)
      have V_i : ∀ (Q : Option Addr) (w : World), Books w G k qs → Ints w M 6 ys → Tabs w Q k (mpV qs ys) → Calls Tryd.prog 42 #[.slice G k c, .slice M 6 d, .slice Q k k] w fun E w' => E = .returned (.bool true) ∧ Below w.heap.size w w' := fun Q w h h' h2 => by
        have := PlanValid_i G M Q k c 6 d k k qs ys (mpV qs ys) w h h' h2 (by omega) (by omega) (by omega) ps (fun j => by
          rcases Nat.lt_or_ge j k with g | g
          · rw [p6 j g]; omega
          · rw [getD_hi _ _ _ (by rw [pl]; exact g)]; simp)
        rw [hpv] at this; exact this
      have A_i : ∀ (Q : Option Addr) (w : World), Tabs w Q k (mpV qs ys) → Calls Tryd.prog 43 #[.slice Q k k] w fun E w' => E = .returned (.int .i64 L) ∧ Below w.heap.size w w' := fun Q w h2 => by
        have := PlanAll_i Q k k (mpV qs ys) w h2 (by omega) ps p6
        rw [pa] at this; exact this
      have hmore : Hid (∀ j, j < 6 → ys.getD j 0 + 1 ≤ 30 → muV qs (ys.set j (ys.getD j 0 + 1)) = L ∨ muV qs (ys.set j (ys.getD j 0 + 1)) = L + 1) := fun j hj hz => by
        have := mu_more h0 j hj hz
        rw [HL.out] at this; exact this
      have hbd : Hid (∀ j, 0 ≤ ys.getD j 0 ∧ ys.getD j 0 ≤ 30) := (fv_at v2).2
      have M_i : ∀ (cs : List Int) (B : Option Addr) (c' : Nat) (w : World), Books w G k qs → Ints w B 6 cs → Calls Tryd.prog 32 #[.slice G k c, .slice B 6 c'] w fun E w' => E = .returned (.int .i64 (muV qs cs)) ∧ Below w.heap.size w w' := fun cs B c' w h h' => MostUnits_i G B k c c' 6 qs cs w h h' (by omega) (by omega)
      obtain ⟨mb, mo, rfl⟩ := hC.addr (by omega)
      have PL := Lib.hid pl
      clear P ps p6 pa hpv v1 v2 hlc hLb HL h0 pl
      go_wp2
      go_loopw [6] (fun i wr => ∃ j : Nat, j ≤ 6 ∧ i = .int .i64 j ∧ Books wr G k qs ∧ Ints wr (some ⟨mb, mo, none⟩) 6 ys ∧ Below w.heap.size w wr) (fun i _ => 6 - (intOf i).toNat)
      case atStart => exact ⟨0, by omega, rfl, hA, hC, hw⟩
      case round =>
        clear hA hC hw
        obtain ⟨j, hj, rfl, hA, hC, hw⟩ := hrel
        by_cases hlt : j < 6
        · go_wp2_with (at_builtin; refine wpList_append_own _ rfl _ _ 33 rfl wr.heap.size 3 i0 (.int .i64 0) 1 8 Tryd.underlying33 hi ia ib ic rfl (by decide) _ _ _ rfl (nw_new0 wr wr.heap.size 3 1 (Nat.le_refl _)) ⟨mb, mo, none⟩ 6 d (ys.map (Value.int .i64)) rfl ?c0 ?c1 ?c2 ?c3 ?c4 ?c5 ?_)
          case c0 => simp [l6]
          case c1 => exact (hC.below ((Below.refl _ _).alloc (Nat.le_refl _) _)).news
          case c2 => exact one_ints ys
          case c3 => unfold maxLen; omega
          case c4 => omega
          case c5 => simp
          intro v' w7 hown1 hgrow _
          have hown2 : w7.ownsRow wr.heap.size 3 1 v' 6 (ys.map (Value.int .i64)) := by simpa using hown1
          obtain ⟨g2, cp2, rfl, e1, e2, e3, e4⟩ := own_at hown2 (by omega)
          have hz := hbd.out j
          have hm := hmore.out j hlt
          obtain ⟨z, hzz⟩ : ∃ z, ys.getD j 0 = z := ⟨_, rfl⟩
          rw [hzz] at hz hm
          obtain ⟨X, hX⟩ : ∃ X, muV qs (ys.set j (z + 1)) = X := ⟨_, rfl⟩
          have X_i := M_i (ys.set j (z + 1)) (some ⟨g2, 0, none⟩) cp2
          rw [hX] at hm X_i
          obtain ⟨P, pf, pc, _, _⟩ := own_put hown2 l6 hlt (z + 1)
          rw [hzz] at pc
          have hb : Below wr.heap.size wr (w7.setCell ⟨g2, j, none⟩ (.int .i64 (z + 1))) := (((Below.refl wr.heap.size wr).alloc (Nat.le_refl _) _).grown hgrow (by simp) (fun q hq => by simp [Value.ownBlock] at hq; omega)).setCell (by exact e1) _
          have hA2 := hA.below hb
          have hC2 := hC.below hb
          have hw2 := bt hw hb
          have i1 : (0 : Int) ≤ (j : Int) := by omega
          have i2 : (j : Int) < (6 : Int) := by omega
          have hPD : Hid ((ys.set j (z + 1)).getD j 0 = z + 1) := by
            show _ = _
            rw [List.getD_eq_getElem?_getD, List.getElem?_set, if_pos rfl, if_pos (by omega), Option.getD_some]
          have HM := Lib.hid hm
          clear hown1 hgrow hown2 hzz hX hA hC hw hb e3 e4 hm
          go_upto_region 14 with fail
          generalize w7.setCell ⟨g2, j, none⟩ (.int .i64 (z + 1)) = W at *
          go_upto_region 15 with (go_at_call 32; ((with_reducible refine (X_i _ hA2 P).mono ?_); rintro E wk ⟨rfl, hb⟩; replace hA2 := hA2.below hb; replace hC2 := hC2.below hb; replace P := P.below hb; replace hw2 := bt hw2 hb; clear hb))
          have D1 := (P.cellx j hlt).1
          rw [hPD.out, Nat.zero_add] at D1
          by_cases h3 : z + 1 ≤ 30
          · have h3b : decide (z + 1 ≤ 30) = true := by simpa using h3
            rcases HM.out h3 with rfl | rfl
            · clear HM
              go_wp2
              go_roundw
              case rel => exact ⟨j + 1, hlt, by go_num, hA2, hC2, hw2⟩
              case measure => simp [intOf]; omega
            · clear HM
              have t1 : (L + 1 == L) = false := by simp <;> omega
              go_wp2
              go_roundw
              case rel => exact ⟨j + 1, hlt, by go_num, hA2, hC2, hw2⟩
              case measure => simp [intOf]; omega
          · have h3b : decide (z + 1 ≤ 30) = false := by simpa using h3
            clear HM
            go_wp2
            go_roundw
            case rel => exact ⟨j + 1, hlt, by go_num, hA2, hC2, hw2⟩
            case measure => simp [intOf]; omega
        · obtain rfl : j = 6 := by omega
          go_upto_region 18 with (go_at_call 27; ((with_reducible refine (P_i _ hA hC).mono ?_); rintro E wk ⟨Q, rfl, hQ, hx, hb⟩; replace hA := hA.below hb; replace hC := hC.below hb; replace hw := bt hw hb; rw [PL.out] at hQ; clear hb hx P_i))
          have PL2 := PL.out
          go_wp2_with (first
            | (go_at_call 42; (rw [PL2]; (refine (V_i _ _ hA hC hQ).mono ?_); rintro E wk ⟨rfl, hb⟩; replace hA := hA.below hb; replace hQ := hQ.below hb; replace hw := bt hw hb; clear hb))
            | (go_at_call 42; ((refine (V_i _ _ hA hC hQ).mono ?_); rintro E wk ⟨rfl, hb⟩; replace hA := hA.below hb; replace hQ := hQ.below hb; replace hw := bt hw hb; clear hb))
            | (go_at_call 43; ((refine (A_i _ _ hQ).mono ?_); rintro E wk ⟨rfl, hb⟩; replace hw := bt hw hb; clear hb)))
          go_ret
          exact ⟨ret_bool (by simp), hw⟩
end Go.Proofs.YtoombdhchikbmaaDoor
