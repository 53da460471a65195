/- The walk of laws.FnCoinsFor. No condition. -/
import Derived.Test.YtghfdkalblipgaaDoorLGreed
import Derived.Test.YtghfdkalblipgaaDoorLCSum
import Derived.Test.YtghfdkalblipgaaDoorCSpec2
import Derived.Deep.RegionLaw
namespace Go.Proofs.YtghfdkalblipgaaDoor
open Go.RowKit
set_option linter.unusedVariables false
theorem dot_congr (ms zs zs' : List Int) (n : Nat) (h : ∀ j, j < n → zs[j]?.getD 0 = zs'[j]?.getD 0) : dotTo ms zs n = dotTo ms zs' n := by
  induction n with
  | zero => rfl
  | succ n ih => unfold dotTo; rw [ih fun j hj => h j (by omega), h n (by omega)]
theorem cw_msOk {z q : Nat → Nat} {n a : Nat} (hq : ∀ j, j < n → q j ≤ 300) : msOk (cwV z q n a) n := fun i hi => cw_bd hq i
theorem cw_dot {zs : List Int} (hv : cv zs = true) {q : Nat → Nat} {a : Nat} (hc : 0 ≤ cost (fz zs) q zs.length a) : dotTo (cwV (fz zs) q zs.length a) zs zs.length = (a : Int) ∧ suT (cwV (fz zs) q zs.length a) zs.length = cost (fz zs) q zs.length a := by
  have h := way_sum (fz zs) q zs.length a (fun j hj => (fz_at hv j hj).2.1) hc
  have e : cwV (fz zs) q zs.length a = (way (fz zs) q zs.length a).map Int.ofNat := by unfold cwV; rw [if_pos hc]
  rw [e]
  refine ⟨?_, h.2⟩
  rw [← h.1]
  refine dot_congr _ _ _ _ fun j hj => ?_
  have := (fz_at hv j hj).1
  rw [List.getD_eq_getElem?_getD] at this
  rw [this, List.getElem?_map, List.getElem?_range hj]; rfl
theorem cw_length {z q : Nat → Nat} {n a : Nat} (hc : 0 ≤ cost z q n a) : (cwV z q n a).length = n := by unfold cwV; rw [if_pos hc, List.length_map, way_len]
theorem cf_yes {qs : List Int} {m : Int} (h : cfO qs m = true) : cv qs = true ∧ 0 ≤ m ∧ m ≤ 300 ∧ csV qs (cfV qs m) = m ∧ totL (cfV qs m) (cfV qs m).length = leastV qs m ∧ (cfV qs m).length = qs.length := by
  unfold cfO at h
  split at h
  · rename_i hx
    have e := cf_case hx
    obtain ⟨hv, h0, h1⟩ := hx
    unfold cwO at h
    rw [decide_eq_true_iff] at h
    have ev : cfV qs m = cwV (fz qs) s300 qs.length m.toNat := by unfold cfV; rw [if_pos ⟨hv, h0, h1⟩]
    have hl := cw_length h
    have hd := cw_dot hv h
    rw [← ev] at hl hd
    have ho : msOk (cfV qs m) qs.length := by rw [ev]; exact cw_msOk fun j _ => Nat.le_refl _
    refine ⟨hv, h0, h1, ?_, ?_, hl⟩
    · unfold csV; rw [if_pos ⟨hv, hl, ho⟩, hd.1]; omega
    · rw [tot_suT, hl, hd.2, e]
  · cases h
theorem cf_no {qs : List Int} {m : Int} (h : cfO qs m = false) : cfV qs m = [] ∧ leastV qs m = -1 := by
  unfold cfO at h
  split at h
  · rename_i hx
    have e := cf_case hx
    unfold cwO at h
    rw [decide_eq_false_iff_not] at h
    refine ⟨by unfold cfV; rw [if_pos hx]; unfold cwV; rw [if_neg h], ?_⟩
    have := cost_bd (fz qs) s300 qs.length m.toNat
    omega
  · rename_i hx
    refine ⟨by unfold cfV; rw [if_neg hx], ?_⟩
    unfold leastV
    rw [if_neg (show ¬ (cv qs = true ∧ 0 ≤ m ∧ m ≤ 300) from hx)]
theorem cf_sm (qs : List Int) (m : Int) (i : Nat) : -1000000 ≤ (cfV qs m).getD i 0 ∧ (cfV qs m).getD i 0 ≤ 1000000 := by
  unfold cfV
  split
  · have := cw_bd (z := fz qs) (q := s300) (i := qs.length) (s := m.toNat) (fun j _ => Nat.le_refl _) i
    rw [List.getD_eq_getElem?_getD]; omega
  · simp
set_option maxRecDepth 100000 in
set_option maxHeartbeats 4000000 in
theorem FnCoinsFor_walk (w : World) (A : Option Addr) (n cap : Nat) (zs : List Int) (h : Nums .u8 w A n cap zs) :
    Calls Tryd.prog 3 #[.slice A n cap] w fun e w' => e = .returned (.bool true) ∧ Below w.heap.size w w' := by
  go_enter Tryd.func3, Tryd.ntmps3
  by_cases hn : 1048576 < n
  · have hnb : decide (1048576 < n) = true := by simpa using hn
    clear h
    go_wp2
    go_ret
    exact ⟨rfl, by (repeat (first | exact Below.refl _ _ | assumption | refine Below.alloc ?_ (by first | omega | (simp; done) | (simp; omega)) _ | refine Below.drew ?_ | refine bdN ?_ _ | refine Below.setCell ?_ (by first | omega | (simp; done) | (simp; omega)) _))⟩
  · have hnb : decide (1048576 < n) = false := by simpa using hn
    go_upto_region 4 with (go_at_call 7; refine (drawCoinsFor_ok A n cap zs _ h (by omega)).mono ?_; rintro E w1 ⟨G, k, c, qs, m, rfl, hC, k9, kc, cm, hq, hm, hw⟩; clear h)
    clear hn hnb
    obtain ⟨xs, hxs⟩ : ∃ xs, cfV qs m = xs := ⟨_, rfl⟩
    obtain ⟨V, hV⟩ : ∃ V, cfO qs m = V := ⟨_, rfl⟩
    have hsm : ∀ i : Nat, -1000000 ≤ xs.getD i 0 ∧ xs.getD i 0 ≤ 1000000 := fun i => by rw [← hxs]; exact cf_sm qs m i
    have F_i : ∀ w, Ints w G k qs → Calls Tryd.prog 8 #[.slice G k c, .int .i64 m] w (ResI w xs V) := fun w h => by have := CoinsFor_i G k c qs m w h (by omega); rw [hxs, hV] at this; exact this
    have F_s : ∀ w, Ints w G k qs → Calls Tryd.prog 9 #[.slice G k c, .int .i64 m] w (ResW w xs V) := fun w h => by have := CoinsFor_s G k c qs m w h (by omega); rw [hxs, hV] at this; exact this
    obtain ⟨L, hL⟩ : ∃ L, leastV qs m = L := ⟨_, rfl⟩
    have L0 : ∀ w, Ints w G k qs → Calls Tryd.prog 11 #[.slice G k c, .int .i64 m] w fun E w' => E = .returned (.int .i64 L) ∧ Below w.heap.size w w' := fun w h => by have := CoinsLeast_i G k c qs m w h (by omega); rw [hL] at this; exact this
    have hkl := hC.1
    have hlen : xs.length ≤ 9 := by
      cases V
      · have := (cf_no hV).1; rw [hxs] at this; rw [this]; simp
      · have := (cf_yes hV).2.2.2.2.2; rw [hxs] at this; omega
    have E0 := eqL_self xs
    have HX := Lib.hid hxs
    have HV := Lib.hid hV
    have HL := Lib.hid hL
    clear hV hxs hL
    go_upto_if 37 with (first
      | (go_at_call 8; ((with_reducible refine (F_i _ hC).mono ?_); rintro E wk ⟨A2, c2, rfl, hI2, _, hb⟩; replace hC := hC.below hb; replace hw := bt hw hb; clear hb))
      | (go_at_call 9; ((with_reducible refine (F_s _ hC).mono ?_); intro E wk r3; obtain ⟨A3, c3, rfl, hO3, hb⟩ := r3.own; have hI3 := hO3.ints; clear hO3 r3; replace hC := hC.below hb; replace hI2 := hI2.below hb; replace hw := bt hw hb; clear hb))
      | (go_at_call 10; ((with_reducible refine (sameInts_any _ _ _ _ _ _ xs xs _ hI2 hI3 ?_).mono ?_); (omega); rw [E0]; rintro E wk ⟨rfl, hb⟩; replace hC := hC.below hb; replace hI2 := hI2.below hb; replace hw := bt hw hb; clear hb hI3)))
    clear F_i F_s E0
    cases V
    · have hno := cf_no HV.out
      rw [HX.out, HL.out] at hno
      obtain ⟨rfl, rfl⟩ := hno
      simp only [List.length_nil] at *
      clear HX HV HL
      go_wp2_with (first
        | (go_at_call 11; ((with_reducible refine (L0 _ hC).mono ?_); rintro E wk ⟨rfl, hb⟩; replace hw := bt hw hb; clear hb L0))
        | (go_at_call 12; ((with_reducible refine (alive_ok _).mono ?_); rintro E wk ⟨rfl, hb⟩; replace hw := bt hw hb; clear hb)))
      all_goals (go_ret; exact ⟨rfl, hw⟩)
    · obtain ⟨hv, hm0, hm3, hcs, htl, hxl⟩ := cf_yes HV.out
      rw [HX.out] at hcs htl hxl
      rw [HL.out] at htl
      have S0 : ∀ w, Ints w G k qs → Ints w A2 xs.length xs → Calls Tryd.prog 13 #[.slice G k c, .slice A2 xs.length c2] w fun E w' => E = .returned (.int .i64 m) ∧ Below w.heap.size w w' := fun w h h' => by have := CoinSum_i G A2 k xs.length c c2 qs xs w h h' (by omega) (by omega); rw [hcs] at this; exact this
      have U0 : ∀ w, Ints w A2 xs.length xs → Calls Tryd.prog 14 #[.slice A2 xs.length c2] w fun E w' => E = .returned (.int .i64 L) ∧ Below w.heap.size w w' := fun w h => by have := sumOf_any A2 xs.length c2 xs w h (by omega) hsm; rw [htl] at this; exact this
      clear hv hcs htl hxl HX HV HL hsm
      go_wp2_with (first
        | (go_at_call 13; ((with_reducible refine (S0 _ hC hI2).mono ?_); rintro E wk ⟨rfl, hb⟩; replace hC := hC.below hb; replace hI2 := hI2.below hb; replace hw := bt hw hb; clear hb S0))
        | (go_at_call 14; ((with_reducible refine (U0 _ hI2).mono ?_); rintro E wk ⟨rfl, hb⟩; replace hC := hC.below hb; replace hI2 := hI2.below hb; replace hw := bt hw hb; clear hb U0))
        | (go_at_call 11; ((with_reducible refine (L0 _ hC).mono ?_); rintro E wk ⟨rfl, hb⟩; replace hC := hC.below hb; replace hI2 := hI2.below hb; replace hw := bt hw hb; clear hb L0)))
      all_goals (go_ret; exact ⟨ret_bool (by simp), hw⟩)
end Go.Proofs.YtghfdkalblipgaaDoor
