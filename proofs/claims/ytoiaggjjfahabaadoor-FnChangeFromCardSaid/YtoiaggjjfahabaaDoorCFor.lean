/- CoinsFor and ChangeFrom of the program: what they compute. Conditions: the lists' lengths. -/
import Derived.Test.YtoiaggjjfahabaaDoorCWay
namespace Go.Proofs.YtoiaggjjfahabaaDoor
open Go.RowKit
set_option linter.unusedVariables false
theorem ResI.up {w w1 w' : World} {xs : List Int} {ok : Bool} {e : Ending} (h : ResI w1 xs ok e w') (hb : Below w.heap.size w w1) : ResI w xs ok e w' := by
  obtain ⟨A, c, e1, h1, h2, h3⟩ := h
  have := hb.size
  refine ⟨A, c, e1, h1, fun hn => ?_, bt hb h3⟩
  obtain ⟨g, g1, g2, g3⟩ := h2 hn
  exact ⟨g, g1, by omega, g3⟩
def s300 : Nat → Nat := fun _ => 300
def cfH (zs : List Int) (m : Int) : Prop := cv zs = true ∧ 0 ≤ m ∧ m ≤ 300
instance (zs : List Int) (m : Int) : Decidable (cfH zs m) := by unfold cfH; infer_instance
/-- CoinsFor -/
def cfV (zs : List Int) (m : Int) : List Int := if cfH zs m then cwV (fz zs) s300 zs.length m.toNat else []
def cfO (zs : List Int) (m : Int) : Bool := if cfH zs m then cwO (fz zs) s300 zs.length m.toNat else false
theorem fz_at {zs : List Int} (hv : cv zs = true) (j : Nat) (hj : j < zs.length) : zs.getD j 0 = (fz zs j : Int) ∧ 1 ≤ fz zs j ∧ fz zs j ≤ 99 := by
  have h := (cv_at hv).2.2 j hj
  unfold fz
  rw [List.getD_eq_getElem?_getD]
  omega
theorem rep_next (k n : Nat) (v : Int) (hk : k < n) : (List.replicate k v ++ List.replicate (n - k) 0).set k v = List.replicate (k + 1) v ++ List.replicate (n - (k + 1)) 0 := by
  rw [List.set_append_right _ _ (by simp), List.length_replicate, Nat.sub_self, show n - k = (n - (k + 1)) + 1 by omega, List.replicate_succ, List.set_cons_zero, List.replicate_succ', List.append_assoc]; rfl
/-- ChangeFrom -/
def chH (zs qs : List Int) (m : Int) : Prop := cv zs = true ∧ qs.length = zs.length ∧ 0 ≤ m ∧ m ≤ 300 ∧ ∀ j, j < qs.length → 0 ≤ qs.getD j 0 ∧ qs.getD j 0 ≤ 9
instance (zs qs : List Int) (m : Int) : Decidable (chH zs qs m) := by unfold chH; infer_instance
def chV (zs qs : List Int) (m : Int) : List Int := if chH zs qs m then cwV (fz zs) (fz qs) zs.length m.toNat else []
def chO (zs qs : List Int) (m : Int) : Bool := if chH zs qs m then cwO (fz zs) (fz qs) zs.length m.toNat else false
theorem ch_no {zs qs : List Int} {m : Int} (h : ¬ chH zs qs m) : chV zs qs m = [] ∧ chO zs qs m = false := by
  unfold chV chO; rw [if_neg h, if_neg h]; exact ⟨rfl, rfl⟩
set_option maxRecDepth 100000 in
set_option maxHeartbeats 2000000 in
theorem ChangeFrom_i (A Q : Option Addr) (n c1 nq c2 : Nat) (zs qs : List Int) (m : Int) (w : World) (h : Ints w A n zs) (hQ : Ints w Q nq qs) (hn : n ≤ 1048576) (hnq : nq ≤ 1048576) :
    Calls Tryd.prog 16 #[.slice A n c1, .slice Q nq c2, .int .i64 m] w (ResI w (chV zs qs m) (chO zs qs m)) := by
  have hlen := h.1
  have hlq := hQ.1
  have V := CoinsValid_i A n c1 zs w h (by omega)
  by_cases hx : cv zs = true ∧ nq = n ∧ 0 ≤ m ∧ m ≤ 300
  · obtain ⟨hv, rfl, h0, h1⟩ := hx
    obtain ⟨v1, v2, v3⟩ := cv_at hv
    rw [hlen] at v1 v2
    obtain ⟨a, rfl⟩ := Int.eq_ofNat_of_zero_le h0
    have W0 := fun (w : World) (hA : Ints w A nq zs) (hQ : Ints w Q nq qs) (hq : ∀ j, j < nq → 0 ≤ qs.getD j 0 ∧ qs.getD j 0 ≤ 9) => coinWay_i A Q nq c1 c2 a zs qs (fz zs) (fz qs) w hA hQ v1 v2 (by omega) (fun j hj => fz_at hv j (by omega)) (fun j hj => by have := hq j hj; rw [List.getD_eq_getElem?_getD] at this ⊢; unfold fz; omega)
    have e1 : Hid ((∀ j, j < nq → 0 ≤ qs.getD j 0 ∧ qs.getD j 0 ≤ 9) → chV zs qs (a : Int) = cwV (fz zs) (fz qs) nq a ∧ chO zs qs (a : Int) = cwO (fz zs) (fz qs) nq a) := fun hq => by
      have hh : chH zs qs (a : Int) := ⟨hv, by omega, h0, h1, fun j hj => hq j (by omega)⟩
      unfold chV chO
      rw [if_pos hh, if_pos hh, hlen]; exact ⟨rfl, rfl⟩
    have e2 : Hid (∀ j, j < nq → ¬ (0 ≤ qs.getD j 0 ∧ qs.getD j 0 ≤ 9) → chV zs qs (a : Int) = [] ∧ chO zs qs (a : Int) = false) := fun j hj hq => ch_no (fun g => hq (g.2.2.2.2 j (by omega)))
    rw [hv] at V
    clear hv v3
    obtain ⟨qb, qo, rfl, hql, hqc⟩ := hQ.2 (by omega)
    go_enter Tryd.func16, Tryd.ntmps16
    go_wp2_with (go_at_call 51; ((with_reducible refine V.mono ?_); rintro e w1 ⟨rfl, hb1⟩; clear V))
    go_loopw [30] (fun i wr => ∃ k : Nat, k ≤ nq ∧ i = .int .i64 k ∧ (∀ j, j < k → 0 ≤ qs.getD j 0 ∧ qs.getD j 0 ≤ 9) ∧ wr = w1) (fun i _ => nq - (intOf i).toNat)
    case atStart => exact ⟨0, by omega, rfl, fun j hj => absurd hj (by omega), rfl⟩
    case round =>
      obtain ⟨k, hk, rfl, ho, rfl⟩ := hrel
      have HO := Lib.hid ho
      clear ho
      by_cases hlt : k < nq
      · have q0 := (hb1.cell (p := ⟨qb, qo + k, none⟩) hql).trans (hqc k hlt)
        have e3 := e2.out k hlt
        obtain ⟨y, hy⟩ : ∃ y, qs.getD k 0 = y := ⟨_, rfl⟩
        rw [hy] at q0 e3
        have HY := Lib.hid hy
        have E3 := Lib.hid e3
        have i1 : (0 : Int) ≤ (k : Int) := by omega
        have i2 : (k : Int) < (nq : Int) := by omega
        clear hqc hy e3
        by_cases g1 : y < 0
        · have x1 : decide (y < 0) = true := by simpa using g1
          have E4 := Lib.hid (E3.out (by omega))
          clear g1
          go_wp2
          go_ret2
          rw [E4.out.1, E4.out.2]
          exact ResI.nil _ _ _ _ _ hb1
        · have x1 : decide (y < 0) = false := by simpa using g1
          by_cases g2 : 9 < y
          · have x2 : decide (9 < y) = true := by simpa using g2
            have E4 := Lib.hid (E3.out (by omega))
            clear g1 g2
            go_wp2
            go_ret2
            rw [E4.out.1, E4.out.2]
            exact ResI.nil _ _ _ _ _ hb1
          · have x2 : decide (9 < y) = false := by simpa using g2
            have hy2 : Hid (0 ≤ y ∧ y ≤ 9) := ⟨by omega, by omega⟩
            clear g1 g2
            go_wp2
            go_roundw
            case rel => exact ⟨k + 1, hlt, by go_num, fun j hj => by
              rcases Nat.lt_or_ge j k with q | q
              · exact HO.out j q
              · obtain rfl : j = k := by omega
                rw [HY.out]; exact hy2.out, by simp⟩
            case measure => simp [intOf]; omega
      · obtain rfl : k = nq := by omega
        have E1 := Lib.hid (e1.out HO.out)
        have W1 := W0 wr (h.below hb1) (hQ.below hb1) HO.out
        clear W0 hqc
        go_wp2_with (go_at_call 52; ((with_reducible refine W1.mono ?_); intro e w2 r; obtain ⟨B, c, rfl, r1, r2, r3⟩ := r))
        go_ret2
        rw [E1.out.1, E1.out.2]
        exact ResI.up ⟨B, c, rfl, r1, r2, r3⟩ hb1
  · have hno := ch_no (zs := zs) (qs := qs) (m := m) fun g => hx ⟨g.1, by have := g.2.1; omega, g.2.2.1, g.2.2.2.1⟩
    have E := Lib.hid hno
    rcases (show cv zs = false ∨ (cv zs = true ∧ ¬ nq = n) ∨ (cv zs = true ∧ nq = n ∧ m < 0) ∨ (cv zs = true ∧ nq = n ∧ 0 ≤ m ∧ 300 < m) from by revert hx; cases cv zs <;> simp <;> omega) with g | ⟨g, g1⟩ | ⟨g, g1, g2⟩ | ⟨g, g1, g2, g3⟩
    all_goals
      clear hx hno
      rw [g] at V
      clear g
      try have hnb : ((nq : Int) != (n : Int)) = true := by simp; omega
      try have hnb2 : (nq != n) = true := by simp; omega
      try clear hnb2 
      try subst g1
      clear hlen hlq
      go_enter Tryd.func16, Tryd.ntmps16
      go_wp2_with (go_at_call 51; ((with_reducible refine V.mono ?_); rintro e w' ⟨rfl, hb⟩))
      go_ret2
      rw [E.out.1, E.out.2]
      exact ResI.nil _ _ _ _ _ hb
end Go.Proofs.YtoiaggjjfahabaaDoor
