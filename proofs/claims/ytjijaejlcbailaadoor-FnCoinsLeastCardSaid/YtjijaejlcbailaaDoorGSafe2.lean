/- GreedySafe: what it computes, of the program and of the reference. No condition but the length. -/
import Derived.Test.YtjijaejlcbailaaDoorMark
import Derived.Test.YtjijaejlcbailaaDoorLeast
namespace Go.Proofs.YtjijaejlcbailaaDoor
open Go.RowKit

def sumTo (xs : List Int) : Nat → Int
  | 0 => 0
  | k + 1 => sumTo xs k + xs[k]?.getD 0
def gSum (zs : List Int) (a : Int) : Int := sumTo (gV zs a) (gV zs a).length
def gsEnd (zs : List Int) : Int := zs[zs.length - 1]?.getD 0 + zs[zs.length - 2]?.getD 0
def gsAt (zs : List Int) (a : Nat) : Prop := gSum zs a = leastV zs a
instance (zs : List Int) (a : Nat) : Decidable (gsAt zs a) := by unfold gsAt; infer_instance
def gsV (zs : List Int) : Bool := decide (cv zs = true ∧ zs[0]?.getD 0 = 1 ∧ ∀ a, a < (gsEnd zs).toNat → gsAt zs a)
theorem gV_at (zs : List Int) (a : Int) (i : Nat) : 0 ≤ (gV zs a)[i]?.getD 0 ∧ (gV zs a)[i]?.getD 0 ≤ 300 := by
  unfold gV
  split
  · rename_i h
    unfold gOk at h
    rw [decide_eq_true_iff] at h
    obtain ⟨v1, v2, v3⟩ := cv_at h.1
    by_cases hi : i < zs.length
    · rw [gm_at zs a i hi, Option.getD_some]
      have b1 := gl_bd zs a h.2.1 h.2.2.1 v3 (zs.length - 1 - i) (by omega)
      have b2 := v3 i hi
      exact ⟨Int.ediv_nonneg b1.1 (by omega), Int.le_trans (Int.ediv_le_self _ b1.1) b1.2⟩
    · rw [List.getElem?_eq_none (by rw [gm_len]; omega)]; simp
  · simp
theorem sumTo_bd (xs : List Int) (h : ∀ i : Nat, 0 ≤ xs[i]?.getD 0 ∧ xs[i]?.getD 0 ≤ 300) (k : Nat) : 0 ≤ sumTo xs k ∧ sumTo xs k ≤ 300 * k := by
  induction k with
  | zero => simp [sumTo]
  | succ k ih => have := h k; unfold sumTo; omega
theorem gV_len5 (zs : List Int) (a : Int) : (gV zs a).length ≤ 5 := by
  unfold gV
  split
  · rename_i h
    unfold gOk at h
    rw [decide_eq_true_iff] at h
    rw [gm_len]; exact (cv_at h.1).2.1
  · simp
theorem gsV_no {zs : List Int} (a : Nat) (ha : (a : Int) < gsEnd zs) (h : ¬ gSum zs a = leastV zs a) : gsV zs = false := by
  unfold gsV; rw [decide_eq_false_iff_not]; rintro ⟨_, _, g⟩; exact h (g a (by omega))
theorem GreedySafe_i_no (A : Option Addr) (n cap : Nat) (zs : List Int) (w : World) (h : Ints w A n zs) (hn : n ≤ 1048576) (hx : ¬ (cv zs = true ∧ zs[0]?.getD 0 = 1)) :
    Calls Tryd.prog 42 #[.slice A n cap] w fun e w' => e = .returned (.bool false) ∧ Below w.heap.size w w' := by
  by_cases hv : cv zs = true
  · have hz : ¬ zs[0]?.getD 0 = 1 := fun g => hx ⟨hv, g⟩
    obtain ⟨v1, v2, v3⟩ := cv_at hv
    rw [h.1] at v1 v2
    go_enter Tryd.func42, Tryd.ntmps42
    go_wp2_with fail
    refine (CoinsValid_i _ _ _ _ _ h (by omega)).mono ?_
    rintro e w1 ⟨rfl, hb1⟩
    obtain ⟨b, off, rfl, hbl, hc⟩ := (h.below hb1).2 (by omega)
    have c0 := hc 0 (by omega)
    rw [List.getD_eq_getElem?_getD, Nat.add_zero] at c0
    have hzb : (zs[0]?.getD 0 != 1) = true := by simpa using hz
    generalize zs[0]?.getD 0 = Z at *
    have hn0 : (0 : Int) < (n : Int) := by omega
    have hn1 : 0 < n := by omega
    clear hc hx hz v3
    go_wp2
    go_ret
    exact ⟨rfl, hb1⟩
  · have hv' : cv zs = false := by simpa using hv
    clear hv hx
    go_enter Tryd.func42, Tryd.ntmps42
    go_wp2_with fail
    refine (CoinsValid_i _ _ _ _ _ h (by omega)).mono ?_
    rintro e w1 ⟨rfl, hb1⟩
    go_wp2
    go_ret
    exact ⟨rfl, hb1⟩
theorem GreedySafe_s_no (A : Option Addr) (n cap : Nat) (zs : List Int) (w : World) (h : Ints w A n zs) (hn : n ≤ 1048576) (hx : ¬ (cv zs = true ∧ zs[0]?.getD 0 = 1)) :
    Calls Tryd.prog 43 #[.slice A n cap] w fun e w' => e = .returned (.bool false) ∧ Below w.heap.size w w' := by
  by_cases hv : cv zs = true
  · have hz : ¬ zs[0]?.getD 0 = 1 := fun g => hx ⟨hv, g⟩
    obtain ⟨v1, v2, v3⟩ := cv_at hv
    rw [h.1] at v1 v2
    go_enter Tryd.func43, Tryd.ntmps43
    go_wp2_with fail
    refine (CoinsValid_s _ _ _ _ _ h (by omega)).mono ?_
    rintro e w1 ⟨rfl, hb1⟩
    obtain ⟨b, off, rfl, hbl, hc⟩ := (h.below hb1).2 (by omega)
    have c0 := hc 0 (by omega)
    rw [List.getD_eq_getElem?_getD, Nat.add_zero] at c0
    have hzb : (zs[0]?.getD 0 != 1) = true := by simpa using hz
    generalize zs[0]?.getD 0 = Z at *
    have hn0 : (0 : Int) < (n : Int) := by omega
    have hn1 : 0 < n := by omega
    clear hc hx hz v3
    go_wp2
    go_ret
    exact ⟨rfl, hb1⟩
  · have hv' : cv zs = false := by simpa using hv
    clear hv hx
    go_enter Tryd.func43, Tryd.ntmps43
    go_wp2_with fail
    refine (CoinsValid_s _ _ _ _ _ h (by omega)).mono ?_
    rintro e w1 ⟨rfl, hb1⟩
    go_wp2
    go_ret
    exact ⟨rfl, hb1⟩
set_option maxHeartbeats 4000000 in
theorem GreedySafe_i_yes (A : Option Addr) (n cap : Nat) (zs : List Int) (w : World) (h : Ints w A n zs) (hn : n ≤ 1048576) (hv : cv zs = true) (hz1 : zs[0]?.getD 0 = 1) :
    Calls Tryd.prog 42 #[.slice A n cap] w fun e w' => e = .returned (.bool (gsV zs)) ∧ Below w.heap.size w w' := by
  obtain ⟨v1, v2, v3⟩ := cv_at hv
  rw [h.1] at v1 v2
  have he := show gsEnd zs = zs[zs.length - 1]?.getD 0 + zs[zs.length - 2]?.getD 0 from rfl
  rw [h.1] at he
  have z1 := v3 (n - 1) (by rw [h.1]; omega)
  have z2 := v3 (n - 2) (by rw [h.1]; omega)
  have hXY : n = 1 → zs[n - 2]?.getD 0 = zs[n - 1]?.getD 0 := fun e => by subst e; rfl
  have hZY : n = 1 → zs[0]?.getD 0 = zs[n - 2]?.getD 0 := fun e => by subst e; rfl
  clear v3
  go_enter Tryd.func42, Tryd.ntmps42
  go_wp2_with fail
  refine (CoinsValid_i _ _ _ _ _ h (by omega)).mono ?_
  rintro e w1 ⟨rfl, hb1⟩
  replace h := h.below hb1
  obtain ⟨b, off, rfl, hbl, hc⟩ := h.2 (by omega)
  have c0 := hc 0 (by omega)
  have c1 := hc (n - 1) (by omega)
  have c2 := hc (n - 2) (by omega)
  rw [List.getD_eq_getElem?_getD, Nat.add_zero] at c0
  rw [List.getD_eq_getElem?_getD] at c1 c2
  have hzb : (zs[0]?.getD 0 != 1) = false := by simpa using hz1
  have HY : Hid ((∀ j : Nat, (j : Int) < gsEnd zs → gsAt zs j) → gsV zs = true) := by
    intro g
    unfold gsV
    rw [decide_eq_true_iff]
    exact ⟨hv, hz1, fun j hj => g j (by omega)⟩
  generalize zs[0]?.getD 0 = Z at *
  have hn0 : (0 : Int) < (n : Int) := by omega
  have hn1 : 0 < n := by omega
  have i1 : ((n : Int) - 1).toNat = n - 1 := by omega
  obtain ⟨E, hE⟩ : ∃ E : Int, E = gsEnd zs := ⟨_, rfl⟩
  rw [← hE] at he
  have HE := Lib.hid hE
  generalize zs[n - 1]?.getD 0 = X at *
  generalize zs[n - 2]?.getD 0 = Y at *
  have hE1 : 0 ≤ E := by omega
  have hE2 : E ≤ 198 := by omega
  clear hc hz1 hE
  by_cases h1 : n = 1
  · have hy := hXY h1
    have h2 : ¬ (1 : Int) < (n : Int) := by omega
    have e2 : 2 * X = E := by omega
    have hEe : Hid (E = X + Y) := he
    clear h1 hXY hZY he hy
    go_wp2
    clear c0 c1 c2
    go_loopw [5] (fun i wr => ∃ a : Nat, (a : Int) ≤ E ∧ i = .int .i64 a ∧ (∀ j, j < a → gsAt zs j) ∧ Below w1.heap.size w1 wr) (fun i _ => E.toNat - (intOf i).toNat)
    case atStart => exact ⟨0, by simp; omega, rfl, (fun j hj => absurd hj (by omega)), Below.refl _ _⟩
    case round =>
      obtain ⟨a, ha, rfl, ho, hb⟩ := hrel
      have Ho := Lib.hid ho
      clear ho
      by_cases hlt : (a : Int) < E
      · have h300 : decide ((a : Int) ≤ 300) = true := by simp; omega
        have hltb : decide ((a : Int) < E) = true := by simpa using hlt
        go_wp2_with fail
        refine (CoinsGreedy_i _ _ _ zs _ _ (h.below hb) hn).mono ?_
        intro e v r
        obtain ⟨A1, d1, rfl, hG, hbG⟩ := r.own
        clear r
        have hb2 := bt hb hbG
        have hGi := hG.ints
        have gat := Lib.hid (gV_at zs a)
        have gln := gV_len5 zs a
        have sb := Lib.hid (sumTo_bd (gV zs a) (gV_at zs a))
        have hgs := show gSum zs a = sumTo (gV zs a) (gV zs a).length from rfl
        have hno := gsV_no (zs := zs) a (by rw [← HE.out]; exact hlt)
        have hat := show gsAt zs a = (gSum zs a = leastV zs a) from rfl
        generalize gV zs a = xs at *
        clear hb hbG hG
        generalize hxl : xs.length = len at *
        have Hxl := Lib.hid hxl
        have Hno := Lib.hid hno
        have Hat := Lib.hid hat
        have Hgs := Lib.hid hgs
        clear hxl hno hat hgs
        go_wp2
        go_loopw [8, 52] (fun s i wi => ∃ k : Nat, k ≤ len ∧ i = .int .i64 k ∧ s = .int .i64 (sumTo xs k) ∧ v = wi) (fun _ i _ => len - (intOf i).toNat)
        case atStart => exact ⟨0, by omega, rfl, rfl, rfl⟩
        case round =>
          obtain ⟨k, hk, rfl, rfl, rfl⟩ := hrel
          have sb1 := sb.out k
          by_cases hk2 : k < len
          · obtain ⟨b1, off1, rfl, hbl1, hc1⟩ := hGi.2 (by omega)
            have cc := hc1 k hk2
            rw [List.getD_eq_getElem?_getD] at cc
            have g1 := gat.out k
            have hs1 := show sumTo xs (k + 1) = sumTo xs k + xs[k]?.getD 0 from rfl
            have HS := Lib.hid hs1
            generalize xs[k]?.getD 0 = Q at *
            clear hc1 hs1
            go_wp2
            go_roundw
            case rel => exact ⟨k + 1, hk2, by go_num, by rw [HS.out], by simp⟩
            case measure => simp [intOf]; omega
          · obtain rfl : k = len := by omega
            by_cases heq : sumTo xs k = leastV zs a
            · have hne : (sumTo xs k != leastV zs a) = false := by simp [heq]
              have Heq := Lib.hid heq
              clear heq
              go_wp2_with fail
              refine (CoinsLeast_i _ _ _ zs _ _ (h.below hb2) hn).mono ?_
              rintro e v2 ⟨rfl, hb3⟩
              go_wp2
              go_roundw
              case rel => exact ⟨a + 1, by omega, by go_num, (fun j hj => by rcases Nat.lt_or_ge j a with g | g; exact Ho.out j g; obtain rfl : j = a := (by omega); rw [Hat.out, Hgs.out]; exact Heq.out), bt hb2 hb3⟩
              case measure => simp [intOf]; omega
            · have hne : (sumTo xs k != leastV zs a) = true := by simp [heq]
              have Heq := Lib.hid heq
              clear heq
              go_wp2_with fail
              refine (CoinsLeast_i _ _ _ zs _ _ (h.below hb2) hn).mono ?_
              rintro e v2 ⟨rfl, hb3⟩
              go_wp2
              go_ret
              exact ⟨ret_bool (by rw [Hno.out (by rw [Hgs.out]; exact Heq.out)]), bt hb1 (bt hb2 hb3)⟩
      · have hltb : decide ((a : Int) < E) = false := by simpa using hlt
        have hfin : Hid (gsV zs = true) := HY.out (fun j hj => Ho.out j (by rw [← HE.out] at hj; omega))
        go_wp2
        go_ret
        exact ⟨ret_bool hfin.out.symm, bt hb1 hb⟩
  · have h2 : (1 : Int) < (n : Int) := by omega
    have i2 : ((n : Int) - 2).toNat = n - 2 := by omega
    have i3 : 0 ≤ (n : Int) - 2 := by omega
    have e2 : X + Y = E := by omega
    clear hXY hZY he h1
    go_wp2
    clear c0 c1 c2
    go_loopw [5] (fun i wr => ∃ a : Nat, (a : Int) ≤ E ∧ i = .int .i64 a ∧ (∀ j, j < a → gsAt zs j) ∧ Below w1.heap.size w1 wr) (fun i _ => E.toNat - (intOf i).toNat)
    case atStart => exact ⟨0, by simp; omega, rfl, (fun j hj => absurd hj (by omega)), Below.refl _ _⟩
    case round =>
      obtain ⟨a, ha, rfl, ho, hb⟩ := hrel
      have Ho := Lib.hid ho
      clear ho
      by_cases hlt : (a : Int) < E
      · have h300 : decide ((a : Int) ≤ 300) = true := by simp; omega
        have hltb : decide ((a : Int) < E) = true := by simpa using hlt
        go_wp2_with fail
        refine (CoinsGreedy_i _ _ _ zs _ _ (h.below hb) hn).mono ?_
        intro e v r
        obtain ⟨A1, d1, rfl, hG, hbG⟩ := r.own
        clear r
        have hb2 := bt hb hbG
        have hGi := hG.ints
        have gat := Lib.hid (gV_at zs a)
        have gln := gV_len5 zs a
        have sb := Lib.hid (sumTo_bd (gV zs a) (gV_at zs a))
        have hgs := show gSum zs a = sumTo (gV zs a) (gV zs a).length from rfl
        have hno := gsV_no (zs := zs) a (by rw [← HE.out]; exact hlt)
        have hat := show gsAt zs a = (gSum zs a = leastV zs a) from rfl
        generalize gV zs a = xs at *
        clear hb hbG hG
        generalize hxl : xs.length = len at *
        have Hxl := Lib.hid hxl
        have Hno := Lib.hid hno
        have Hat := Lib.hid hat
        have Hgs := Lib.hid hgs
        clear hxl hno hat hgs
        go_wp2
        go_loopw [8, 52] (fun s i wi => ∃ k : Nat, k ≤ len ∧ i = .int .i64 k ∧ s = .int .i64 (sumTo xs k) ∧ v = wi) (fun _ i _ => len - (intOf i).toNat)
        case atStart => exact ⟨0, by omega, rfl, rfl, rfl⟩
        case round =>
          obtain ⟨k, hk, rfl, rfl, rfl⟩ := hrel
          have sb1 := sb.out k
          by_cases hk2 : k < len
          · obtain ⟨b1, off1, rfl, hbl1, hc1⟩ := hGi.2 (by omega)
            have cc := hc1 k hk2
            rw [List.getD_eq_getElem?_getD] at cc
            have g1 := gat.out k
            have hs1 := show sumTo xs (k + 1) = sumTo xs k + xs[k]?.getD 0 from rfl
            have HS := Lib.hid hs1
            generalize xs[k]?.getD 0 = Q at *
            clear hc1 hs1
            go_wp2
            go_roundw
            case rel => exact ⟨k + 1, hk2, by go_num, by rw [HS.out], by simp⟩
            case measure => simp [intOf]; omega
          · obtain rfl : k = len := by omega
            by_cases heq : sumTo xs k = leastV zs a
            · have hne : (sumTo xs k != leastV zs a) = false := by simp [heq]
              have Heq := Lib.hid heq
              clear heq
              go_wp2_with fail
              refine (CoinsLeast_i _ _ _ zs _ _ (h.below hb2) hn).mono ?_
              rintro e v2 ⟨rfl, hb3⟩
              go_wp2
              go_roundw
              case rel => exact ⟨a + 1, by omega, by go_num, (fun j hj => by rcases Nat.lt_or_ge j a with g | g; exact Ho.out j g; obtain rfl : j = a := (by omega); rw [Hat.out, Hgs.out]; exact Heq.out), bt hb2 hb3⟩
              case measure => simp [intOf]; omega
            · have hne : (sumTo xs k != leastV zs a) = true := by simp [heq]
              have Heq := Lib.hid heq
              clear heq
              go_wp2_with fail
              refine (CoinsLeast_i _ _ _ zs _ _ (h.below hb2) hn).mono ?_
              rintro e v2 ⟨rfl, hb3⟩
              go_wp2
              go_ret
              exact ⟨ret_bool (by rw [Hno.out (by rw [Hgs.out]; exact Heq.out)]), bt hb1 (bt hb2 hb3)⟩
      · have hltb : decide ((a : Int) < E) = false := by simpa using hlt
        have hfin : Hid (gsV zs = true) := HY.out (fun j hj => Ho.out j (by rw [← HE.out] at hj; omega))
        go_wp2
        go_ret
        exact ⟨ret_bool hfin.out.symm, bt hb1 hb⟩
set_option maxHeartbeats 4000000 in
theorem GreedySafe_s_yes (A : Option Addr) (n cap : Nat) (zs : List Int) (w : World) (h : Ints w A n zs) (hn : n ≤ 1048576) (hv : cv zs = true) (hz1 : zs[0]?.getD 0 = 1) :
    Calls Tryd.prog 43 #[.slice A n cap] w fun e w' => e = .returned (.bool (gsV zs)) ∧ Below w.heap.size w w' := by
  obtain ⟨v1, v2, v3⟩ := cv_at hv
  rw [h.1] at v1 v2
  have he := show gsEnd zs = zs[zs.length - 1]?.getD 0 + zs[zs.length - 2]?.getD 0 from rfl
  rw [h.1] at he
  have z1 := v3 (n - 1) (by rw [h.1]; omega)
  have z2 := v3 (n - 2) (by rw [h.1]; omega)
  have hXY : n = 1 → zs[n - 2]?.getD 0 = zs[n - 1]?.getD 0 := fun e => by subst e; rfl
  have hZY : n = 1 → zs[0]?.getD 0 = zs[n - 2]?.getD 0 := fun e => by subst e; rfl
  clear v3
  go_enter Tryd.func43, Tryd.ntmps43
  go_wp2_with fail
  refine (CoinsValid_s _ _ _ _ _ h (by omega)).mono ?_
  rintro e w1 ⟨rfl, hb1⟩
  replace h := h.below hb1
  obtain ⟨b, off, rfl, hbl, hc⟩ := h.2 (by omega)
  have c0 := hc 0 (by omega)
  have c1 := hc (n - 1) (by omega)
  have c2 := hc (n - 2) (by omega)
  rw [List.getD_eq_getElem?_getD, Nat.add_zero] at c0
  rw [List.getD_eq_getElem?_getD] at c1 c2
  have hzb : (zs[0]?.getD 0 != 1) = false := by simpa using hz1
  have HY : Hid ((∀ j : Nat, (j : Int) < gsEnd zs → gsAt zs j) → gsV zs = true) := by
    intro g
    unfold gsV
    rw [decide_eq_true_iff]
    exact ⟨hv, hz1, fun j hj => g j (by omega)⟩
  generalize zs[0]?.getD 0 = Z at *
  have hn0 : (0 : Int) < (n : Int) := by omega
  have hn1 : 0 < n := by omega
  have i1 : ((n : Int) - 1).toNat = n - 1 := by omega
  obtain ⟨E, hE⟩ : ∃ E : Int, E = gsEnd zs := ⟨_, rfl⟩
  rw [← hE] at he
  have HE := Lib.hid hE
  generalize zs[n - 1]?.getD 0 = X at *
  generalize zs[n - 2]?.getD 0 = Y at *
  have hE1 : 0 ≤ E := by omega
  have hE2 : E ≤ 198 := by omega
  clear hc hz1 hE
  have e2 : X + Y = E := by omega
  by_cases h1 : n = 1
  · have hm : ((n : Int) - 2 < 0) := by omega
    have i2 : n - 2 = 0 := by omega
    have e3 : X + Z = E := by have := hZY h1; omega
    clear hXY hZY he h1 i2 e2
    go_wp2
    clear c0 c1 c2
    go_loopw [5] (fun i wr => ∃ a : Nat, (a : Int) ≤ E ∧ i = .int .i64 a ∧ (∀ j, j < a → gsAt zs j) ∧ Below w1.heap.size w1 wr) (fun i _ => E.toNat - (intOf i).toNat)
    case atStart => exact ⟨0, by simp; omega, rfl, (fun j hj => absurd hj (by omega)), Below.refl _ _⟩
    case round =>
      obtain ⟨a, ha, rfl, ho, hb⟩ := hrel
      have Ho := Lib.hid ho
      clear ho
      by_cases hlt : (a : Int) < E
      · have h300 : decide ((a : Int) ≤ 300) = true := by simp; omega
        have hltb : decide ((a : Int) < E) = true := by simpa using hlt
        go_wp2_with fail
        refine (CoinsGreedy_s _ _ _ zs _ _ (h.below hb) hn).mono ?_
        intro e v r
        obtain ⟨A1, d1, rfl, hG, hbG⟩ := r.own
        clear r
        have hb2 := bt hb hbG
        have hGi := hG.ints
        have gat := Lib.hid (gV_at zs a)
        have gln := gV_len5 zs a
        have sb := Lib.hid (sumTo_bd (gV zs a) (gV_at zs a))
        have hgs := show gSum zs a = sumTo (gV zs a) (gV zs a).length from rfl
        have hno := gsV_no (zs := zs) a (by rw [← HE.out]; exact hlt)
        have hat := show gsAt zs a = (gSum zs a = leastV zs a) from rfl
        generalize gV zs a = xs at *
        clear hb hbG hG
        generalize hxl : xs.length = len at *
        have Hxl := Lib.hid hxl
        have Hno := Lib.hid hno
        have Hat := Lib.hid hat
        have Hgs := Lib.hid hgs
        clear hxl hno hat hgs
        go_wp2
        go_loopw [8, 9] (fun s i wi => ∃ k : Nat, k ≤ len ∧ i = .int .i64 k ∧ s = .int .i64 (sumTo xs k) ∧ v = wi) (fun _ i _ => len - (intOf i).toNat)
        case atStart => exact ⟨0, by omega, rfl, rfl, rfl⟩
        case round =>
          obtain ⟨k, hk, rfl, rfl, rfl⟩ := hrel
          have sb1 := sb.out k
          by_cases hk2 : k < len
          · obtain ⟨b1, off1, rfl, hbl1, hc1⟩ := hGi.2 (by omega)
            have cc := hc1 k hk2
            rw [List.getD_eq_getElem?_getD] at cc
            have g1 := gat.out k
            have hs1 := show sumTo xs (k + 1) = sumTo xs k + xs[k]?.getD 0 from rfl
            have HS := Lib.hid hs1
            generalize xs[k]?.getD 0 = Q at *
            clear hc1 hs1
            go_wp2
            go_roundw
            case rel => exact ⟨k + 1, hk2, by go_num, by rw [HS.out], by simp⟩
            case measure => simp [intOf]; omega
          · obtain rfl : k = len := by omega
            by_cases heq : sumTo xs k = leastV zs a
            · have hne : (sumTo xs k != leastV zs a) = false := by simp [heq]
              have Heq := Lib.hid heq
              clear heq
              go_wp2_with fail
              refine (CoinsLeast_s _ _ _ zs _ _ (h.below hb2) hn).mono ?_
              rintro e v2 ⟨rfl, hb3⟩
              go_wp2
              go_roundw
              case rel => exact ⟨a + 1, by omega, by go_num, (fun j hj => by rcases Nat.lt_or_ge j a with g | g; exact Ho.out j g; obtain rfl : j = a := (by omega); rw [Hat.out, Hgs.out]; exact Heq.out), bt hb2 hb3⟩
              case measure => simp [intOf]; omega
            · have hne : (sumTo xs k != leastV zs a) = true := by simp [heq]
              have Heq := Lib.hid heq
              clear heq
              go_wp2_with fail
              refine (CoinsLeast_s _ _ _ zs _ _ (h.below hb2) hn).mono ?_
              rintro e v2 ⟨rfl, hb3⟩
              go_wp2
              go_ret
              exact ⟨ret_bool (by rw [Hno.out (by rw [Hgs.out]; exact Heq.out)]), bt hb1 (bt hb2 hb3)⟩
      · have hltb : decide ((a : Int) < E) = false := by simpa using hlt
        have hfin : Hid (gsV zs = true) := HY.out (fun j hj => Ho.out j (by rw [← HE.out] at hj; omega))
        go_wp2
        go_ret
        exact ⟨ret_bool hfin.out.symm, bt hb1 hb⟩
  · have i2 : ((n : Int) - 2).toNat = n - 2 := by omega
    have i3 : 0 ≤ (n : Int) - 2 := by omega
    clear hXY hZY he h1
    go_wp2
    clear c0 c1 c2
    go_loopw [5] (fun i wr => ∃ a : Nat, (a : Int) ≤ E ∧ i = .int .i64 a ∧ (∀ j, j < a → gsAt zs j) ∧ Below w1.heap.size w1 wr) (fun i _ => E.toNat - (intOf i).toNat)
    case atStart => exact ⟨0, by simp; omega, rfl, (fun j hj => absurd hj (by omega)), Below.refl _ _⟩
    case round =>
      obtain ⟨a, ha, rfl, ho, hb⟩ := hrel
      have Ho := Lib.hid ho
      clear ho
      by_cases hlt : (a : Int) < E
      · have h300 : decide ((a : Int) ≤ 300) = true := by simp; omega
        have hltb : decide ((a : Int) < E) = true := by simpa using hlt
        go_wp2_with fail
        refine (CoinsGreedy_s _ _ _ zs _ _ (h.below hb) hn).mono ?_
        intro e v r
        obtain ⟨A1, d1, rfl, hG, hbG⟩ := r.own
        clear r
        have hb2 := bt hb hbG
        have hGi := hG.ints
        have gat := Lib.hid (gV_at zs a)
        have gln := gV_len5 zs a
        have sb := Lib.hid (sumTo_bd (gV zs a) (gV_at zs a))
        have hgs := show gSum zs a = sumTo (gV zs a) (gV zs a).length from rfl
        have hno := gsV_no (zs := zs) a (by rw [← HE.out]; exact hlt)
        have hat := show gsAt zs a = (gSum zs a = leastV zs a) from rfl
        generalize gV zs a = xs at *
        clear hb hbG hG
        generalize hxl : xs.length = len at *
        have Hxl := Lib.hid hxl
        have Hno := Lib.hid hno
        have Hat := Lib.hid hat
        have Hgs := Lib.hid hgs
        clear hxl hno hat hgs
        go_wp2
        go_loopw [8, 9] (fun s i wi => ∃ k : Nat, k ≤ len ∧ i = .int .i64 k ∧ s = .int .i64 (sumTo xs k) ∧ v = wi) (fun _ i _ => len - (intOf i).toNat)
        case atStart => exact ⟨0, by omega, rfl, rfl, rfl⟩
        case round =>
          obtain ⟨k, hk, rfl, rfl, rfl⟩ := hrel
          have sb1 := sb.out k
          by_cases hk2 : k < len
          · obtain ⟨b1, off1, rfl, hbl1, hc1⟩ := hGi.2 (by omega)
            have cc := hc1 k hk2
            rw [List.getD_eq_getElem?_getD] at cc
            have g1 := gat.out k
            have hs1 := show sumTo xs (k + 1) = sumTo xs k + xs[k]?.getD 0 from rfl
            have HS := Lib.hid hs1
            generalize xs[k]?.getD 0 = Q at *
            clear hc1 hs1
            go_wp2
            go_roundw
            case rel => exact ⟨k + 1, hk2, by go_num, by rw [HS.out], by simp⟩
            case measure => simp [intOf]; omega
          · obtain rfl : k = len := by omega
            by_cases heq : sumTo xs k = leastV zs a
            · have hne : (sumTo xs k != leastV zs a) = false := by simp [heq]
              have Heq := Lib.hid heq
              clear heq
              go_wp2_with fail
              refine (CoinsLeast_s _ _ _ zs _ _ (h.below hb2) hn).mono ?_
              rintro e v2 ⟨rfl, hb3⟩
              go_wp2
              go_roundw
              case rel => exact ⟨a + 1, by omega, by go_num, (fun j hj => by rcases Nat.lt_or_ge j a with g | g; exact Ho.out j g; obtain rfl : j = a := (by omega); rw [Hat.out, Hgs.out]; exact Heq.out), bt hb2 hb3⟩
              case measure => simp [intOf]; omega
            · have hne : (sumTo xs k != leastV zs a) = true := by simp [heq]
              have Heq := Lib.hid heq
              clear heq
              go_wp2_with fail
              refine (CoinsLeast_s _ _ _ zs _ _ (h.below hb2) hn).mono ?_
              rintro e v2 ⟨rfl, hb3⟩
              go_wp2
              go_ret
              exact ⟨ret_bool (by rw [Hno.out (by rw [Hgs.out]; exact Heq.out)]), bt hb1 (bt hb2 hb3)⟩
      · have hltb : decide ((a : Int) < E) = false := by simpa using hlt
        have hfin : Hid (gsV zs = true) := HY.out (fun j hj => Ho.out j (by rw [← HE.out] at hj; omega))
        go_wp2
        go_ret
        exact ⟨ret_bool hfin.out.symm, bt hb1 hb⟩
theorem GreedySafe_i (A : Option Addr) (n cap : Nat) (zs : List Int) (w : World) (h : Ints w A n zs) (hn : n ≤ 1048576) :
    Calls Tryd.prog 42 #[.slice A n cap] w fun e w' => e = .returned (.bool (gsV zs)) ∧ Below w.heap.size w w' := by
  by_cases hx : cv zs = true ∧ zs[0]?.getD 0 = 1
  · exact GreedySafe_i_yes A n cap zs w h hn hx.1 hx.2
  · have e : gsV zs = false := by unfold gsV; rw [decide_eq_false_iff_not]; rintro ⟨g1, g2, _⟩; exact hx ⟨g1, g2⟩
    rw [e]; exact GreedySafe_i_no A n cap zs w h hn hx
theorem GreedySafe_s (A : Option Addr) (n cap : Nat) (zs : List Int) (w : World) (h : Ints w A n zs) (hn : n ≤ 1048576) :
    Calls Tryd.prog 43 #[.slice A n cap] w fun e w' => e = .returned (.bool (gsV zs)) ∧ Below w.heap.size w w' := by
  by_cases hx : cv zs = true ∧ zs[0]?.getD 0 = 1
  · exact GreedySafe_s_yes A n cap zs w h hn hx.1 hx.2
  · have e : gsV zs = false := by unfold gsV; rw [decide_eq_false_iff_not]; rintro ⟨g1, g2, _⟩; exact hx ⟨g1, g2⟩
    rw [e]; exact GreedySafe_s_no A n cap zs w h hn hx
end Go.Proofs.YtjijaejlcbailaaDoor
