/- The walk of laws.FnCoinSum. No condition. -/
import Derived.Test.YtjijaejlcbailaaDoorIS
import Derived.Test.YtjijaejlcbailaaDoorCSum
import Derived.Test.YtjijaejlcbailaaDoorQS
import Derived.Test.YtjijaejlcbailaaDoorAliveL
namespace Go.Proofs.YtjijaejlcbailaaDoor
open Go.RowKit
set_option linter.unusedVariables false
/-- a number of a row of the call's own is set -/
theorem own_put {w : World} {base n e g cap : Nat} {zs : List Int} (h : w.ownsRow base e 1 (.slice (some ⟨g, 0, none⟩) n cap) n (zs.map (Value.int .i64))) (hz : zs.length = n) {k : Nat} (hk : k < n) (v : Int) :
    Ints (w.setCell ⟨g, k, none⟩ (.int .i64 v)) (some ⟨g, 0, none⟩) n (zs.set k v) ∧ w.frozen? ⟨g, k, none⟩ = false ∧ w.cell? ⟨g, k, none⟩ = some (.int .i64 (zs.getD k 0)) ∧ base ≤ g ∧ g < w.heap.size := by
  have hc := h.cellAt k (by omega)
  obtain ⟨g', c', e1, hlo, hlt, _⟩ := own_at h (by omega)
  simp only [Value.slice.injEq, Option.some.injEq, Addr.mk.injEq, and_true, true_and] at e1
  obtain ⟨rfl, rfl⟩ := e1
  have hcell : w.cell? ⟨g, k, none⟩ = some (.int .i64 (zs.getD k 0)) := by
    rw [hc, List.getElem?_map, List.getElem?_eq_getElem (by omega), List.getD_eq_getElem?_getD, List.getElem?_eq_getElem (by omega)]; rfl
  rcases h.2 with ⟨_, h0⟩ | ⟨g1, c1, cur, e2, hb, hg, hcc, hm, hsz, htk⟩
  · omega
  · simp only [Value.slice.injEq, Option.some.injEq, Addr.mk.injEq, and_true, true_and] at e2
    obtain ⟨rfl, rfl⟩ := e2
    have hB : Blk w g e cur := hg
    refine ⟨⟨by simp [hz], fun _ => ⟨g, 0, rfl, by simpa [World.setCell] using hlt, fun j hj => ?_⟩⟩, hB.frozen k, hcell, hlo, hlt⟩
    have hj' := h.cellAt j (by omega)
    rw [hB.cell] at hj'
    have hk' := hc
    rw [hB.cell] at hk'
    rw [Nat.zero_add, (hB.set_ k (.int .i64 v)).cell, Array.getElem?_setIfInBounds, List.getD_eq_getElem?_getD, List.getElem?_set]
    by_cases e3 : k = j
    · subst e3
      rw [if_pos rfl, if_pos rfl]
      have : k < cur.size := by
        rcases Nat.lt_or_ge k cur.size with q | q
        · exact q
        · rw [Array.getElem?_eq_none q, List.getElem?_map, List.getElem?_eq_getElem (by omega)] at hk'; cases hk'
      have hks : k < zs.length := by omega
      simp [this, hks]
    · rw [if_neg e3, if_neg e3, hj', List.getElem?_map, List.getElem?_eq_getElem (by omega)]; rfl
theorem dot_set (ms zs : List Int) (k : Nat) (v : Int) (hk : k < ms.length) (n : Nat) : dotTo (ms.set k v) zs n = dotTo ms zs n + if k < n then (v - ms[k]?.getD 0) * zs[k]?.getD 0 else 0 := by
  induction n with
  | zero => simp [dotTo]
  | succ n ih =>
    unfold dotTo
    rw [ih, List.getElem?_set]
    by_cases e : k = n
    · subst e
      rw [if_neg (Nat.lt_irrefl k), if_pos rfl, if_pos hk, if_pos (Nat.lt_succ_self k), Option.getD_some, Int.sub_mul]; omega
    · rw [if_neg e]
      by_cases g : k < n
      · rw [if_pos g, if_pos (show k < n + 1 by omega)]; omega
      · rw [if_neg g, if_neg (show ¬ k < n + 1 by omega)]; omega
theorem csV_yes {zs ms : List Int} (h : 0 ≤ csV zs ms) : cv zs = true ∧ ms.length = zs.length ∧ msOk ms zs.length ∧ csV zs ms = dotTo ms zs zs.length := by
  unfold csV at h ⊢
  split at h
  · rename_i g; rw [if_pos g]; exact ⟨g.1, g.2.1, g.2.2, rfl⟩
  · omega
theorem dot_bd {zs ms : List Int} (hz : ∀ i, i < zs.length → 1 ≤ zs[i]?.getD 0 ∧ zs[i]?.getD 0 ≤ 99) (hm : msOk ms zs.length) (k : Nat) (hk : k ≤ zs.length) : 0 ≤ dotTo ms zs k ∧ dotTo ms zs k ≤ 29700 * k := by
  induction k with
  | zero => simp [dotTo]
  | succ k ih =>
    have := ih (by omega)
    have := prod_bd (hm k (by omega)) (hz k (by omega))
    unfold dotTo; omega
theorem csV_bd (zs ms : List Int) : -1 ≤ csV zs ms ∧ csV zs ms ≤ 148500 := by
  unfold csV
  split
  · rename_i g
    have := dot_bd (cv_at g.1).2.2 g.2.2 zs.length (Nat.le_refl _)
    have := (cv_at g.1).2.1
    omega
  · omega
/-- with one coin more it is more by its value -/
theorem csV_more {zs ms : List Int} (h : 0 ≤ csV zs ms) (k : Nat) (hk : k < zs.length) (h3 : ms[k]?.getD 0 + 1 ≤ 300) : csV zs (ms.set k (ms[k]?.getD 0 + 1)) = csV zs ms + zs[k]?.getD 0 := by
  obtain ⟨h1, h2, h4, h5⟩ := csV_yes h
  have hok : msOk (ms.set k (ms[k]?.getD 0 + 1)) zs.length := by
    intro i hi
    rw [List.getElem?_set]
    by_cases e : k = i
    · subst e; rw [if_pos rfl, if_pos (by omega), Option.getD_some]; have := h4 k hk; omega
    · rw [if_neg e]; exact h4 i hi
  rw [h5]
  unfold csV
  rw [if_pos ⟨h1, by simp [h2], hok⟩, dot_set _ _ _ _ (by omega), if_pos hk, show ms[k]?.getD 0 + 1 - ms[k]?.getD 0 = 1 by omega, Int.one_mul]
set_option maxRecDepth 100000 in
set_option maxHeartbeats 4000000 in
theorem FnCoinSum_walk (w : World) (A : Option Addr) (n cap : Nat) (zs : List Int) (h : Nums .u8 w A n cap zs) :
    Calls Tryd.prog 5 #[.slice A n cap] w fun e w' => e = .returned (.bool true) ∧ Below w.heap.size w w' := by
  obtain ⟨i0, hi, ia, ib, ic⟩ := info_parts infoI
  go_enter Tryd.func5, Tryd.ntmps5
  by_cases hn : 1048576 < n
  · have hnb : decide (1048576 < n) = true := by simpa using hn
    clear h
    go_wp2
    go_ret
    exact ⟨rfl, by (repeat (first | exact Below.refl _ _ | assumption | refine Below.alloc ?_ (by first | omega | (simp; done) | (simp; omega)) _ | refine Below.drew ?_ | refine bdN ?_ _ | refine Below.setCell ?_ (by first | omega | (simp; done) | (simp; omega)) _))⟩
  · have hnb : decide (1048576 < n) = false := by simpa using hn
    go_upto_region 4 with (go_at_call 22; refine (drawCoinSum_ok A n cap zs _ h (by omega)).mono ?_; rintro E w1 ⟨G, k, c, qs, M, m, d, ms, rfl, hC, hM, k9, m9, kc, md, cm, dm, hq, hms, hw⟩; clear h)
    clear hn hnb
    unfold maxLen at cm dm
    obtain ⟨X, hX⟩ : ∃ X, csV qs ms = X := ⟨_, rfl⟩
    have hXb := csV_bd qs ms
    rw [hX] at hXb
    have F_i : ∀ w, Ints w G k qs → Ints w M m ms → Calls Tryd.prog 23 #[.slice G k c, .slice M m d] w fun E w' => E = .returned (.int .i64 X) ∧ Below w.heap.size w w' := fun w h h' => by have := CoinSum_i G M k m c d qs ms w h h' (by omega) (by omega); rw [hX] at this; exact this
    have F_s : ∀ w, Ints w G k qs → Ints w M m ms → Calls Tryd.prog 24 #[.slice G k c, .slice M m d] w fun E w' => E = .returned (.int .i64 X) ∧ Below w.heap.size w w' := fun w h h' => by have := CoinSum_s G M k m c d qs ms w h h' (by omega) (by omega); rw [hX] at this; exact this
    have HX := Lib.hid hX
    clear hX
    go_upto_if 23 with (first | (go_at_call 23; ((with_reducible refine (F_i _ hC hM).mono ?_); rintro E wk ⟨rfl, hb⟩; replace hC := hC.below hb; replace hM := hM.below hb; replace hw := bt hw hb; clear hb)) | (go_at_call 24; ((with_reducible refine (F_s _ hC hM).mono ?_); rintro E wk ⟨rfl, hb⟩; replace hC := hC.below hb; replace hM := hM.below hb; replace hw := bt hw hb; clear hb)))
    clear F_i F_s
    by_cases hx0 : X < 0
    · obtain rfl : X = -1 := by omega
      clear HX hC hM hq hms
      go_wp2_with (go_at_call 18; ((with_reducible refine (alive_ok _).mono ?_); rintro E wk ⟨rfl, hb⟩; replace hw := bt hw hb; clear hb))
      all_goals (go_ret; exact ⟨rfl, hw⟩)
    · have hx0b : decide (X < 0) = false := by simpa using hx0
      have hy := csV_yes (zs := qs) (ms := ms) (by rw [HX.out]; omega)
      have hv := cv_at hy.1
      have hkl := hC.1
      have hml := hM.1
      have hk1 : 1 ≤ k := by omega
      have hmk : m = k := by omega
      subst hmk
      obtain ⟨gb, go, rfl⟩ := hC.addr (by omega)
      obtain ⟨mb, mo, rfl⟩ := hM.addr (by omega)
      have HY := Lib.hid hy
      have HV := Lib.hid hv
      clear hy hv
      go_wp2
      go_loopw [6] (fun i wr => ∃ j : Nat, j ≤ m ∧ i = .int .i64 j ∧ Ints wr (some ⟨gb, go, none⟩) m qs ∧ Ints wr (some ⟨mb, mo, none⟩) m ms ∧ Below w.heap.size w wr) (fun i _ => m - (intOf i).toNat)
      case atStart => exact ⟨0, by omega, rfl, hC, hM, hw⟩
      case round =>
        clear hC hM hw
        obtain ⟨j, hj, rfl, hC, hM, hw⟩ := hrel
        by_cases hlt : j < m
        · go_wp2_with (at_builtin; refine wpList_append_own _ rfl _ _ 30 rfl wr.heap.size 3 i0 (.int .i64 0) 1 8 Tryd.underlying30 hi ia ib ic rfl (by decide) _ _ _ rfl (nw_new0 wr wr.heap.size 3 1 (Nat.le_refl _)) ⟨mb, mo, none⟩ m d (ms.map (Value.int .i64)) rfl ?c0 ?c1 ?c2 ?c3 ?c4 ?c5 ?_)
          case c0 => simp [hml]
          case c1 => exact (hM.below ((Below.refl _ _).alloc (Nat.le_refl _) _)).news
          case c2 => exact one_ints ms
          case c3 => unfold maxLen; omega
          case c4 => omega
          case c5 => simp
          intro v' w7 hown1 hgrow _
          have hown2 : w7.ownsRow wr.heap.size 3 1 v' m (ms.map (Value.int .i64)) := by simpa using hown1
          obtain ⟨g2, cp2, rfl, e1, e2, e3, e4⟩ := own_at hown2 (by omega)
          have hz := HY.out.2.2.1 j (by omega)
          have hq1 := HV.out.2.2 j (by omega)
          have hmore := csV_more (zs := qs) (ms := ms) (by rw [HX.out]; omega) j (by omega)
          rw [HX.out] at hmore
          obtain ⟨z, hzz⟩ : ∃ z, ms[j]?.getD 0 = z := ⟨_, rfl⟩
          obtain ⟨y, hyy⟩ : ∃ y, qs[j]?.getD 0 = y := ⟨_, rfl⟩
          rw [hzz] at hz hmore
          rw [hyy] at hq1 hmore
          obtain ⟨P, pf, pc, _, _⟩ := own_put hown2 hml hlt (z + 1)
          rw [List.getD_eq_getElem?_getD, hzz] at pc
          have hb : Below wr.heap.size wr (w7.setCell ⟨g2, j, none⟩ (.int .i64 (z + 1))) := (((Below.refl wr.heap.size wr).alloc (Nat.le_refl _) _).grown hgrow (by simp) (fun q hq => by simp [Value.ownBlock] at hq; omega)).setCell (by exact e1) _
          have D1 := (P.cellx j hlt).1
          rw [Nat.zero_add, List.getD_eq_getElem?_getD, List.getElem?_set, if_pos rfl, if_pos (by omega), Option.getD_some] at D1
          have hC2 := hC.below hb
          have D2 := (hC2.cellx j hlt).1
          rw [List.getD_eq_getElem?_getD, hyy] at D2
          have HM := Lib.hid hmore
          have HP := Lib.hid P
          have HC := Lib.hid hC2
          have HM2 := Lib.hid (hM.below hb)
          have HW := Lib.hid (bt hw hb)
          clear hown1 hgrow hown2 hzz hyy hmore P hC hC2 hM hb hw e3 e4
          have i1 : (0 : Int) ≤ (j : Int) := by omega
          have i2 : (j : Int) < (m : Int) := by omega
          go_upto_region 14 with fail
          generalize w7.setCell ⟨g2, j, none⟩ (.int .i64 (z + 1)) = W at *
          have u1 : IntKind.i64.wrap (X + y) = X + y := IntWalk.i64_in _ (by omega)
          have hl1 := (HP.out.cellx j hlt).2
          have hl2 := (HC.out.cellx j hlt).2
          by_cases h3 : z + 1 ≤ 300
          · have h3b : decide (z + 1 ≤ 300) = true := by simpa using h3
            have hmr := HM.out h3
            have C5 : ∀ w, Ints w (some ⟨gb, go, none⟩) m qs → Ints w (some ⟨g2, 0, none⟩) m (ms.set j (z + 1)) → Calls Tryd.prog 23 #[.slice (some ⟨gb, go, none⟩) m c, .slice (some ⟨g2, 0, none⟩) m cp2] w fun E w' => E = .returned (.int .i64 (X + y)) ∧ Below w.heap.size w w' := fun w h h' => by have := CoinSum_i _ _ m m c cp2 qs (ms.set j (z + 1)) w h h' (by omega) (by omega); rw [hmr] at this; exact this
            clear hmr
            go_region_held3 (fun w' => Below (W.heap.size) (W) w' ∧ ∀ k o, k < W.heap.size → w'.cell? ⟨k, o, none⟩ = World.cell? (W) ⟨k, o, none⟩) (first | assumption | exact kp_start | (refine kp_step ?_ hb ?_; assumption; (first | omega | (simp; done) | (simp; omega))) | (refine kp_drew ?_; assumption) | (refine kp_drew (kp_of hb ?_); (first | omega | (simp; done) | (simp; omega)))) (first | (go_at_call 23; (refine (C5 _ (HC.out.below (by (refine kp_end (by assumption) ?_ (by first | omega | (simp; done) | (simp; omega)); (repeat (first | exact Below.refl _ _ | assumption | refine Below.alloc ?_ (by first | omega | (simp; done) | (simp; omega)) _ | refine Below.drew ?_ | refine bdN ?_ _ | refine Below.setCell ?_ (by first | omega | (simp; done) | (simp; omega)) _))))) (HP.out.below (by (refine kp_end (by assumption) ?_ (by first | omega | (simp; done) | (simp; omega)); (repeat (first | exact Below.refl _ _ | assumption | refine Below.alloc ?_ (by first | omega | (simp; done) | (simp; omega)) _ | refine Below.drew ?_ | refine bdN ?_ _ | refine Below.setCell ?_ (by first | omega | (simp; done) | (simp; omega)) _)))))).mono ?_); rintro e w' ⟨rfl, hb⟩))
            all_goals
              clear hb
              go_wp2
              go_roundw
              case rel => exact ⟨j + 1, hlt, by go_num, HC.out.below (by (refine kp_end (by assumption) ?_ (by first | omega | (simp; done) | (simp; omega)); (repeat (first | exact Below.refl _ _ | assumption | refine Below.alloc ?_ (by first | omega | (simp; done) | (simp; omega)) _ | refine Below.drew ?_ | refine bdN ?_ _ | refine Below.setCell ?_ (by first | omega | (simp; done) | (simp; omega)) _)))), HM2.out.below (by (refine kp_end (by assumption) ?_ (by first | omega | (simp; done) | (simp; omega)); (repeat (first | exact Below.refl _ _ | assumption | refine Below.alloc ?_ (by first | omega | (simp; done) | (simp; omega)) _ | refine Below.drew ?_ | refine bdN ?_ _ | refine Below.setCell ?_ (by first | omega | (simp; done) | (simp; omega)) _)))), bt HW.out (by (refine kp_end (by assumption) ?_ (by first | omega | (simp; done) | (simp; omega)); (repeat (first | exact Below.refl _ _ | assumption | refine Below.alloc ?_ (by first | omega | (simp; done) | (simp; omega)) _ | refine Below.drew ?_ | refine bdN ?_ _ | refine Below.setCell ?_ (by first | omega | (simp; done) | (simp; omega)) _))))⟩
              case measure => simp [intOf]; omega
          · have h3b : decide (z + 1 ≤ 300) = false := by simpa using h3
            clear HM
            go_quiet (fail)
            go_wp2
            go_roundw
            case rel => exact ⟨j + 1, hlt, by go_num, HC.out.below (bdN (Below.refl _ _) _), HM2.out.below (bdN (Below.refl _ _) _), bdN HW.out _⟩
            case measure => simp [intOf]; omega
        · obtain rfl : j = m := by omega
          go_wp2
          go_ret
          exact ⟨rfl, hw⟩
end Go.Proofs.YtjijaejlcbailaaDoor
