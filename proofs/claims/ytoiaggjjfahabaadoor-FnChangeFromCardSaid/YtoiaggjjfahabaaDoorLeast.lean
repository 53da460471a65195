/- CoinsLeast: what it computes, of the program and of the reference. No condition but the length. -/
import Derived.Test.YtoiaggjjfahabaaDoorCoin
namespace Go.Proofs.YtoiaggjjfahabaaDoor
open Go.RowKit

/-- one kind of coin more is looked at, for the amount s -/
def lstep (tab : List Int) (s : Nat) (b c : Int) : Int :=
  if c ≤ s ∧ 0 ≤ tab[(s - c : Int).toNat]?.getD 0 ∧ (b < 0 ∨ tab[(s - c : Int).toNat]?.getD 0 + 1 < b) then tab[(s - c : Int).toNat]?.getD 0 + 1 else b
def bestTo (zs tab : List Int) (s : Nat) : Nat → Int
  | 0 => -1
  | k + 1 => lstep tab s (bestTo zs tab s k) (zs[k]?.getD 0)
def tabTo (zs : List Int) : Nat → List Int
  | 0 => [0]
  | s + 1 => tabTo zs s ++ [bestTo zs (tabTo zs s) (s + 1) zs.length]
def leastV (zs : List Int) (m : Int) : Int := if cv zs = true ∧ 0 ≤ m ∧ m ≤ 300 then (tabTo zs m.toNat)[m.toNat]?.getD 0 else -1
theorem tabTo_len (zs : List Int) (s : Nat) : (tabTo zs s).length = s + 1 := by
  induction s with
  | zero => rfl
  | succ s ih => simp [tabTo, ih]
def TabBd (tab : List Int) : Prop := ∀ i : Nat, -1 ≤ tab[i]?.getD 0 ∧ tab[i]?.getD 0 ≤ i
theorem bestTo_bd (zs tab : List Int) (s : Nat) (hz : ∀ i, i < zs.length → 1 ≤ zs[i]?.getD 0 ∧ zs[i]?.getD 0 ≤ 99) (ht : TabBd tab) (k : Nat) (hk : k ≤ zs.length) : -1 ≤ bestTo zs tab s k ∧ bestTo zs tab s k ≤ s := by
  induction k with
  | zero => unfold bestTo; omega
  | succ k ih =>
    have := ih (by omega)
    have h1 := hz k (by omega)
    have h2 := ht (s - zs[k]?.getD 0 : Int).toNat
    unfold bestTo lstep
    split <;> omega
theorem tabTo_bd (zs : List Int) (hz : ∀ i, i < zs.length → 1 ≤ zs[i]?.getD 0 ∧ zs[i]?.getD 0 ≤ 99) (s : Nat) : TabBd (tabTo zs s) := by
  induction s with
  | zero =>
    intro i
    rcases i with _ | i <;> simp [tabTo]
    omega
  | succ s ih =>
    intro i
    have hb := bestTo_bd zs (tabTo zs s) (s + 1) hz ih zs.length (Nat.le_refl _)
    unfold tabTo
    rcases Nat.lt_trichotomy i (s + 1) with g | g | g
    · rw [List.getElem?_append_left (by rw [tabTo_len]; exact g)]
      exact ih i
    · rw [List.getElem?_append_right (by rw [tabTo_len]; omega), tabTo_len, show i - (s + 1) = 0 by omega]
      simp; omega
    · rw [List.getElem?_eq_none (by simp [tabTo_len]; omega)]
      simp
theorem tabTo_pre (zs : List Int) (s d i : Nat) (hi : i ≤ s) : (tabTo zs (s + d))[i]?.getD 0 = (tabTo zs s)[i]?.getD 0 := by
  induction d with
  | zero => rfl
  | succ d ih =>
    rw [← ih, ← Nat.add_assoc]
    conv => lhs; unfold tabTo
    rw [List.getElem?_append_left (by rw [tabTo_len]; omega)]

theorem CoinsLeast_i_no (A : Option Addr) (n cap : Nat) (zs : List Int) (m : Int) (w : World) (h : Ints w A n zs) (hn : n ≤ 1048576) (hx : ¬ (cv zs = true ∧ 0 ≤ m ∧ m ≤ 300)) :
    Calls Tryd.prog 22 #[.slice A n cap, .int .i64 m] w fun e w' => e = .returned (.int .i64 (-1)) ∧ Below w.heap.size w w' := by
  rcases (show cv zs = false ∨ (cv zs = true ∧ m < 0) ∨ (cv zs = true ∧ 0 ≤ m ∧ 300 < m) from by revert hx; cases cv zs <;> simp <;> omega) with g | ⟨g, g1⟩ | ⟨g, g1, g2⟩
  all_goals
    clear hx
    go_enter Tryd.func22, Tryd.ntmps22
    go_wp2_with (go_at_call 51; refine (CoinsValid_i _ _ _ _ _ h (by omega)).mono ?_; rintro e w' ⟨rfl, hb⟩)
    go_ret
    exact ⟨rfl, hb⟩
def rowAt (zs : List Int) (a s k : Nat) : List Int := tabTo zs s ++ bestTo zs (tabTo zs s) (s + 1) k :: List.replicate (a - (s + 1)) 0
theorem rowAt_lo (zs : List Int) (a s k i : Nat) (h : i ≤ s) : (rowAt zs a s k)[i]?.getD 0 = (tabTo zs s)[i]?.getD 0 := by
  unfold rowAt
  rw [List.getElem?_append_left (by rw [tabTo_len]; omega)]
theorem rowAt_at (zs : List Int) (a s k : Nat) : (rowAt zs a s k)[s + 1]?.getD 0 = bestTo zs (tabTo zs s) (s + 1) k := by
  unfold rowAt
  rw [List.getElem?_append_right (by rw [tabTo_len]; omega), tabTo_len]
  simp
theorem rowAt_len (zs : List Int) (a s k : Nat) (h : s < a) : (rowAt zs a s k).length = a + 1 := by
  unfold rowAt; simp [tabTo_len]; omega
theorem rowAt_set (zs : List Int) (a s k : Nat) (v : Int) (hv : v = bestTo zs (tabTo zs s) (s + 1) (k + 1)) : (rowAt zs a s k).set (s + 1) v = rowAt zs a s (k + 1) := by
  unfold rowAt
  rw [List.set_append_right _ _ (by rw [tabTo_len]; omega), tabTo_len, Nat.sub_self, List.set_cons_zero, hv]
theorem rowAt_first (zs : List Int) (a s : Nat) (h : s < a) : (tabTo zs s ++ List.replicate (a - s) 0).set (s + 1) (-1) = rowAt zs a s 0 := by
  unfold rowAt
  rw [List.set_append_right _ _ (by rw [tabTo_len]; omega), tabTo_len, Nat.sub_self, show a - s = (a - (s + 1)) + 1 by omega, List.replicate_succ, List.set_cons_zero]
  rfl
theorem rowAt_last (zs : List Int) (a s : Nat) : rowAt zs a s zs.length = tabTo zs (s + 1) ++ List.replicate (a - (s + 1)) 0 := by
  unfold rowAt
  conv => rhs; unfold tabTo
  simp
theorem rowAt_keep (zs : List Int) (a s k : Nat) {v : Int} (h : bestTo zs (tabTo zs s) (s + 1) (k + 1) = v) (h' : bestTo zs (tabTo zs s) (s + 1) k = v) : rowAt zs a s k = rowAt zs a s (k + 1) := by
  unfold rowAt; rw [h, h']
set_option maxRecDepth 100000 in
set_option maxHeartbeats 1000000 in
theorem CoinsLeast_i_yes (A : Option Addr) (n cap a : Nat) (zs : List Int) (w : World) (h : Ints w A n zs) (hv : cv zs = true) (ha : a ≤ 300) :
    Calls Tryd.prog 22 #[.slice A n cap, .int .i64 a] w fun e w' => e = .returned (.int .i64 ((tabTo zs a)[a]?.getD 0)) ∧ Below w.heap.size w w' := by
  obtain ⟨v1, v2, v3⟩ := cv_at hv
  rw [h.1] at v1 v2
  have V3 : Hid (∀ i, i < zs.length → 1 ≤ zs[i]?.getD 0 ∧ zs[i]?.getD 0 ≤ 99) := v3
  clear v3
  have hmk := run_make_row' (P := Tryd.prog) 28 3 (.int .i64 0) 8 Tryd.underlying28 infoInt rfl .i64 .i64 (a + 1) (by omega) (by omega)
  have ea : ((a + 1 : Nat) : Int) = (a : Int) + 1 := by omega
  rw [ea] at hmk
  clear ea
  go_enter Tryd.func22, Tryd.ntmps22
  go_wp2_with (go_at_call 51; refine (CoinsValid_i _ _ _ _ _ h (by omega)).mono ?_; rintro e w1 ⟨rfl, hb1⟩)
  clear hmk
  replace h := h.below hb1
  replace hb1 := hb1
  have hB0 : Blk (w1.alloc (.cells (madeCells #[.int .i64 0] (a + 1)) 3)) w1.heap.size 3 (ints (tabTo zs 0 ++ List.replicate (a - 0) 0)) := by
    rw [show tabTo zs 0 ++ List.replicate (a - 0) 0 = List.replicate (a + 1) (0 : Int) from rfl, ← ints_made]; exact Blk.new _ _ _
  go_loopw [6] (fun i wr => ∃ s : Nat, s ≤ a ∧ i = .int .i64 ((s : Int) + 1) ∧ Blk wr w1.heap.size 3 (ints (tabTo zs s ++ List.replicate (a - s) 0)) ∧ Below w1.heap.size w1 wr) (fun i _ => a + 1 - (intOf i).toNat)
  case atStart => exact ⟨0, by omega, rfl, hB0, by (repeat (first | exact Below.refl _ _ | assumption | refine Below.alloc ?_ (by first | omega | (simp; done) | (simp; omega)) _ | refine Below.drew ?_ | refine bdN ?_ _ | refine Below.setCell ?_ (by first | omega | (simp; done) | (simp; omega)) _))⟩
  case round =>
    clear hB0
    obtain ⟨s, hs, rfl, hB, hb⟩ := hrel
    obtain ⟨wo, rfl⟩ : ∃ wo : World, wo = wr := ⟨_, rfl⟩
    have htb := tabTo_bd zs V3.out s
    by_cases hlt : s < a
    · have hlb0 : decide ((s : Int) + 1 ≤ (a : Int)) = true := by simp; omega
      have c0 := hB.cell (s + 1)
      rw [ints_at _ (by simp [tabTo_len]; omega)] at c0
      have c1 := hB.frozen (s + 1)
      have Htb := Lib.hid htb
      clear htb
      go_wp2
      clear c0 c1
      have hB1 : Blk (wo.setCell ⟨w1.heap.size, s + 1, none⟩ (.int .i64 (-1))) w1.heap.size 3 (ints (rowAt zs a s 0)) := by rw [← rowAt_first zs a s hlt]; exact hB.int_set _ _
      have hb2 : Below w1.heap.size w1 (wo.setCell ⟨w1.heap.size, s + 1, none⟩ (.int .i64 (-1))) := by (repeat (first | exact Below.refl _ _ | assumption | refine Below.alloc ?_ (by first | omega | (simp; done) | (simp; omega)) _ | refine Below.drew ?_ | refine bdN ?_ _ | refine Below.setCell ?_ (by first | omega | (simp; done) | (simp; omega)) _))
      clear hB hb
      go_loopw [33] (fun i wr => ∃ k : Nat, k ≤ n ∧ i = .int .i64 k ∧ Blk wr w1.heap.size 3 (ints (rowAt zs a s k)) ∧ Below w1.heap.size w1 wr) (fun i _ => n - (intOf i).toNat)
      case atStart => exact ⟨0, by omega, rfl, hB1, hb2⟩
      case round =>
        clear hB1 hb2
        obtain ⟨k, hk, rfl, hB2, hb⟩ := hrel
        by_cases hlt2 : k < n
        · obtain ⟨b, off, rfl, hbl, hc⟩ := h.2 (by omega)
          have z := V3.out k (by rw [h.1]; exact hlt2)
          have c1 : wr.cell? ⟨b, off + k, none⟩ = some (.int .i64 (zs.getD k 0)) := (hb.cell (p := ⟨b, off + k, none⟩) hbl).trans (hc k hlt2)
          have c3 := hB2.int_cell (k := s + 1) (by rw [rowAt_len zs a s k hlt]; omega)
          have c4 := hB2.frozen (s + 1)
          have bd := bestTo_bd zs (tabTo zs s) (s + 1) V3.out Htb.out k (by rw [h.1]; omega)
          rw [List.getD_eq_getElem?_getD, rowAt_at] at c3
          have hs1 := show bestTo zs (tabTo zs s) (s + 1) (k + 1) = lstep (tabTo zs s) (s + 1) (bestTo zs (tabTo zs s) (s + 1) k) (zs[k]?.getD 0) from rfl
          generalize hBe : bestTo zs (tabTo zs s) (s + 1) k = B at *
          have HBe := Lib.hid hBe
          clear hBe
          generalize hZ : zs[k]?.getD 0 = Z at *
          rw [List.getD_eq_getElem?_getD, hZ] at c1
          have HZ := Lib.hid hZ
          clear hc hZ
          by_cases hle : Z ≤ (s : Int) + 1
          · have tb := Htb.out ((s + 1 : Nat) - Z : Int).toNat
            have ei : ((s + 1 : Nat) - Z : Int).toNat = ((s : Int) + 1 - Z).toNat := by omega
            have c2 := hB2.int_cell (k := ((s : Int) + 1 - Z).toNat) (by rw [rowAt_len zs a s k hlt]; omega)
            rw [List.getD_eq_getElem?_getD, rowAt_lo _ _ _ _ _ (by omega)] at c2
            unfold lstep at hs1
            rw [ei] at tb hs1
            generalize (tabTo zs s)[((s : Int) + 1 - Z).toNat]?.getD 0 = T at *
            have e9 : IntKind.i64.wrap (T + 1) = T + 1 := IntWalk.i64_in _ (by omega)
            have e8 : IntKind.i64.wrap ((s : Int) + 1 - Z) = (s : Int) + 1 - Z := IntWalk.i64_in _ (by omega)
            have i1 : 0 ≤ (s : Int) + 1 - Z := by omega
            have i2 : (s : Int) + 1 - Z < (a : Int) + 1 := by omega
            have i3 : (s : Int) + 1 < (a : Int) + 1 := by omega
            clear ei
            by_cases hT : 0 ≤ T
            · have hTb : decide (0 ≤ T) = true := by simpa using hT
              by_cases hB0 : B < 0
              · have HS : Hid (T + 1 = bestTo zs (tabTo zs s) (s + 1) (k + 1)) := by
                  show _ = _
                  rw [hs1, if_pos ⟨by omega, hT, .inl hB0⟩]
                clear hs1
                have hb0b : decide (B < 0) = true := by simpa using hB0
                go_wp2
                go_quiet (fail)
                clear e8 e9
                go_wp2
                go_roundw
                case rel => first | exact ⟨k + 1, hlt2, by go_num, by rw [← rowAt_set zs a s k _ HS.out]; exact hB2.int_set _ _, by (repeat (first | exact Below.refl _ _ | assumption | refine Below.alloc ?_ (by first | omega | (simp; done) | (simp; omega)) _ | refine Below.drew ?_ | refine bdN ?_ _ | refine Below.setCell ?_ (by first | omega | (simp; done) | (simp; omega)) _))⟩ | ((repeat apply Exists.intro); exact ⟨⟨k + 1, hlt2, by go_num, by rw [← rowAt_set zs a s k _ HS.out]; exact hB2.int_set _ _, by (repeat (first | exact Below.refl _ _ | assumption | refine Below.alloc ?_ (by first | omega | (simp; done) | (simp; omega)) _ | refine Below.drew ?_ | refine bdN ?_ _ | refine Below.setCell ?_ (by first | omega | (simp; done) | (simp; omega)) _))⟩, rfl⟩)
                case measure => simp [intOf]; omega
              · have hb0b : decide (B < 0) = false := by simpa using hB0
                by_cases hTB : T + 1 < B
                · have HS : Hid (T + 1 = bestTo zs (tabTo zs s) (s + 1) (k + 1)) := by
                    show _ = _
                    rw [hs1, if_pos ⟨by omega, hT, .inr hTB⟩]
                  clear hs1
                  have htb : decide (T + 1 < B) = true := by simpa using hTB
                  go_wp2
                  go_quiet (fail)
                  clear e8 e9
                  go_wp2
                  go_roundw
                  case rel => first | exact ⟨k + 1, hlt2, by go_num, by rw [← rowAt_set zs a s k _ HS.out]; exact hB2.int_set _ _, by (repeat (first | exact Below.refl _ _ | assumption | refine Below.alloc ?_ (by first | omega | (simp; done) | (simp; omega)) _ | refine Below.drew ?_ | refine bdN ?_ _ | refine Below.setCell ?_ (by first | omega | (simp; done) | (simp; omega)) _))⟩ | ((repeat apply Exists.intro); exact ⟨⟨k + 1, hlt2, by go_num, by rw [← rowAt_set zs a s k _ HS.out]; exact hB2.int_set _ _, by (repeat (first | exact Below.refl _ _ | assumption | refine Below.alloc ?_ (by first | omega | (simp; done) | (simp; omega)) _ | refine Below.drew ?_ | refine bdN ?_ _ | refine Below.setCell ?_ (by first | omega | (simp; done) | (simp; omega)) _))⟩, rfl⟩)
                  case measure => simp [intOf]; omega
                · have HS : Hid (bestTo zs (tabTo zs s) (s + 1) (k + 1) = B) := by
                    show _ = _
                    rw [hs1, if_neg]
                    rintro ⟨_, _, g | g⟩ <;> omega
                  clear hs1
                  have htb : decide (T + 1 < B) = false := by simpa using hTB
                  go_wp2
                  go_quiet (fail)
                  clear e8 e9
                  go_wp2
                  go_roundw
                  case rel => first | exact ⟨k + 1, hlt2, by go_num, by rw [← rowAt_keep zs a s k HS.out HBe.out]; exact hB2, by (repeat (first | exact Below.refl _ _ | assumption | refine Below.alloc ?_ (by first | omega | (simp; done) | (simp; omega)) _ | refine Below.drew ?_ | refine bdN ?_ _ | refine Below.setCell ?_ (by first | omega | (simp; done) | (simp; omega)) _))⟩ | ((repeat apply Exists.intro); exact ⟨⟨k + 1, hlt2, by go_num, by rw [← rowAt_keep zs a s k HS.out HBe.out]; exact hB2, by (repeat (first | exact Below.refl _ _ | assumption | refine Below.alloc ?_ (by first | omega | (simp; done) | (simp; omega)) _ | refine Below.drew ?_ | refine bdN ?_ _ | refine Below.setCell ?_ (by first | omega | (simp; done) | (simp; omega)) _))⟩, rfl⟩)
                  case measure => simp [intOf]; omega
            · have hTb : decide (0 ≤ T) = false := by simpa using hT
              have HS : Hid (bestTo zs (tabTo zs s) (s + 1) (k + 1) = B) := by
                show _ = _
                rw [hs1, if_neg]
                rintro ⟨_, g, _⟩; omega
              clear hs1
              go_wp2
              go_quiet (fail)
              clear e8 e9
              go_wp2
              go_roundw
              case rel => first | exact ⟨k + 1, hlt2, by go_num, by rw [← rowAt_keep zs a s k HS.out HBe.out]; exact hB2, by (repeat (first | exact Below.refl _ _ | assumption | refine Below.alloc ?_ (by first | omega | (simp; done) | (simp; omega)) _ | refine Below.drew ?_ | refine bdN ?_ _ | refine Below.setCell ?_ (by first | omega | (simp; done) | (simp; omega)) _))⟩ | ((repeat apply Exists.intro); exact ⟨⟨k + 1, hlt2, by go_num, by rw [← rowAt_keep zs a s k HS.out HBe.out]; exact hB2, by (repeat (first | exact Below.refl _ _ | assumption | refine Below.alloc ?_ (by first | omega | (simp; done) | (simp; omega)) _ | refine Below.drew ?_ | refine bdN ?_ _ | refine Below.setCell ?_ (by first | omega | (simp; done) | (simp; omega)) _))⟩, rfl⟩)
              case measure => simp [intOf]; omega
          · have HS : Hid (bestTo zs (tabTo zs s) (s + 1) (k + 1) = B) := by
              show _ = _
              rw [hs1, lstep, if_neg]
              rintro ⟨g, _⟩; omega
            clear hs1
            have hlb : decide (Z ≤ (s : Int) + 1) = false := by simpa using hle
            go_wp2
            go_quiet (fail)
            clear hlb
            go_wp2
            go_roundw
            case rel => first | exact ⟨k + 1, hlt2, by go_num, by rw [← rowAt_keep zs a s k HS.out HBe.out]; exact hB2, by (repeat (first | exact Below.refl _ _ | assumption | refine Below.alloc ?_ (by first | omega | (simp; done) | (simp; omega)) _ | refine Below.drew ?_ | refine bdN ?_ _ | refine Below.setCell ?_ (by first | omega | (simp; done) | (simp; omega)) _))⟩ | ((repeat apply Exists.intro); exact ⟨⟨k + 1, hlt2, by go_num, by rw [← rowAt_keep zs a s k HS.out HBe.out]; exact hB2, by (repeat (first | exact Below.refl _ _ | assumption | refine Below.alloc ?_ (by first | omega | (simp; done) | (simp; omega)) _ | refine Below.drew ?_ | refine bdN ?_ _ | refine Below.setCell ?_ (by first | omega | (simp; done) | (simp; omega)) _))⟩, rfl⟩)
            case measure => simp [intOf]; omega
        · obtain rfl : k = n := by omega
          have hB3 : Blk wr w1.heap.size 3 (ints (tabTo zs (s + 1) ++ List.replicate (a - (s + 1)) 0)) := by
            rw [← rowAt_last zs a s, h.1]; exact hB2
          clear hB2
          go_wp2
          go_roundw
          case rel => exact ⟨s + 1, hlt, by go_num, hB3, hb⟩
          case measure => simp [intOf]; omega
    · obtain rfl : s = a := by omega
      have c0 := hB.int_cell (k := s) (by simp [tabTo_len])
      have e0 : (tabTo zs s ++ List.replicate (s - s) 0).getD s 0 = (tabTo zs s)[s]?.getD 0 := by simp
      rw [e0] at c0
      clear e0
      have hT : Below w.heap.size w wo := bt hb1 hb
      go_wp2
      go_ret
      exact ⟨rfl, hT⟩
theorem CoinsLeast_i (A : Option Addr) (n cap : Nat) (zs : List Int) (m : Int) (w : World) (h : Ints w A n zs) (hn : n ≤ 1048576) :
    Calls Tryd.prog 22 #[.slice A n cap, .int .i64 m] w fun e w' => e = .returned (.int .i64 (leastV zs m)) ∧ Below w.heap.size w w' := by
  by_cases hx : cv zs = true ∧ 0 ≤ m ∧ m ≤ 300
  · rw [leastV, if_pos hx]
    have := CoinsLeast_i_yes A n cap m.toNat zs w h hx.1 (by omega)
    rwa [show ((m.toNat : Nat) : Int) = m by omega] at this
  · rw [leastV, if_neg hx]; exact CoinsLeast_i_no A n cap zs m w h hn hx

theorem tab_vals (zs : List Int) (s : Nat) : ((tabTo zs s).map (Value.int .i64)).length = s + 1 := by simp [tabTo_len]
theorem own_form {w : World} {base n e : Nat} {v : Value} {xs : List Value} (h : w.ownsRow base e 1 v n xs) (hn : 0 < n) : ∃ g cap, v = .slice (some ⟨g, 0, none⟩) n cap ∧ base ≤ g ∧ g < w.heap.size ∧ n ≤ cap := by
  rcases h.2 with ⟨_, h0⟩ | ⟨g, cap, cur, rfl, hb, hg, hc, _⟩
  · omega
  · refine ⟨g, cap, rfl, hb, ?_, hc⟩
    rcases Nat.lt_or_ge g w.heap.size with h1 | h1
    · exact h1
    · rw [Array.getElem?_eq_none h1] at hg; cases hg
theorem own_new (w : World) (base e : Nat) (x : Value) (hb : base ≤ w.heap.size) : (w.alloc (.cells #[x] e)).ownsRow base e 1 (.slice (some ⟨w.heap.size, 0, none⟩) 1 1) 1 [x] :=
  ⟨rfl, .inr ⟨w.heap.size, 1, #[x], rfl, hb, heap_alloc_new w _, Nat.le_refl _, by simp [maxLen], rfl, rfl⟩⟩
def MadeTab (w : World) (a : Nat) (zs : List Int) (e : Ending) (w' : World) : Prop :=
  ∃ g c, e = .returned (.slice (some ⟨g, 0, none⟩) (a + 1) c) ∧ Ints w' (some ⟨g, 0, none⟩) (a + 1) (tabTo zs a) ∧ Below w.heap.size w w'
theorem own_ints {w : World} {base n e g cap : Nat} {zs : List Int} (h : w.ownsRow base e 1 (.slice (some ⟨g, 0, none⟩) n cap) n (zs.map (Value.int .i64))) (hz : zs.length = n) : Ints w (some ⟨g, 0, none⟩) n zs := by
  refine ⟨hz, fun hn => ⟨g, 0, rfl, ?_, fun k hk => ?_⟩⟩
  · obtain ⟨g', c', e1, _, h2, _⟩ := own_form h hn
    simp only [Value.slice.injEq, Option.some.injEq, Addr.mk.injEq, and_true, true_and] at e1
    rw [e1.1]; exact h2
  · have := h.cellAt k (by omega)
    rw [Nat.zero_add, this, List.getElem?_map, List.getElem?_eq_getElem (by omega)]
    simp [hz, hk]
end Go.Proofs.YtoiaggjjfahabaaDoor
