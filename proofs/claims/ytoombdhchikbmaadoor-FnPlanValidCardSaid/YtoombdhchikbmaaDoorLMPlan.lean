/- The walk of laws.FnMostPlan. No condition. -/
import Derived.Test.YtoombdhchikbmaaDoorLMostU
import Derived.Test.YtoombdhchikbmaaDoorChg15
import Derived.Test.YtoombdhchikbmaaDoorChg19
namespace Go.Proofs.YtoombdhchikbmaaDoor
open Go.RowKit
set_option linter.unusedVariables false
theorem mp_len {qs : List Quad} {cs : List Int} (k : Nat) : ((mpV qs cs).getD k []).length ≤ 1000 := by
  by_cases h : nsV qs = true ∧ fvV cs = true
  · obtain ⟨P, pl, ps, p6, pa⟩ := mp_good h.1 h.2
    rcases Nat.lt_or_ge k qs.length with g | g
    · rw [p6 k g]; omega
    · rw [getD_hi _ _ _ (by rw [pl]; exact g)]; simp
  · unfold mpV; rw [if_neg h]; simp
theorem mp_le {qs : List Quad} {cs : List Int} : (mpV qs cs).length ≤ 5 := by
  by_cases h : nsV qs = true ∧ fvV cs = true
  · rw [mpV_len h.1 h.2]; exact (ns_at h.1).1
  · unfold mpV; rw [if_neg h]; simp
set_option maxRecDepth 100000 in
set_option maxHeartbeats 4000000 in
theorem FnMostPlan_walk (w : World) (A : Option Addr) (n cap : Nat) (zs : List Int) (h : Nums .u8 w A n cap zs) :
    Calls Tryd.prog 11 #[.slice A n cap] w fun e w' => e = .returned (.bool true) ∧ Below w.heap.size w w' := by
  go_enter Tryd.func11, Tryd.ntmps11
  by_cases hn : 1048576 < n
  · have hnb : decide (1048576 < n) = true := by simpa using hn
    clear h
    go_wp2
    go_ret
    exact ⟨rfl, by (repeat (first | exact Below.refl _ _ | assumption | refine Below.alloc ?_ (by first | omega | (simp; done) | (simp; omega)) _ | refine Below.drew ?_ | refine bdN ?_ _ | refine Below.setCell ?_ (by first | omega | (simp; done) | (simp; omega)) _))⟩
  · have hnb : decide (1048576 < n) = false := by simpa using hn
    go_upto_region 4 with (go_at_call 44; refine (drawMostPlan_ok A n cap zs _ h (by omega)).mono ?_; rintro E w1 ⟨G, k, c, qs, M, m, d, ys, rfl, hA, hC, k9, kc, cm, m7, md, dm, hq, hy, sa, hw⟩; clear h)
    clear hn hnb hq hy
    have hkl := hA.1
    have hlen := @mp_len qs ys
    have hle := @mp_le qs ys
    have hval : nsV qs = true → fvV ys = true → (mpV qs ys).length = k := fun h1 h2 => by rw [mpV_len h1 h2, hkl]
    obtain ⟨rows, hrows⟩ : ∃ rows, mpV qs ys = rows := ⟨_, rfl⟩
    obtain ⟨N, hN⟩ : ∃ N, rows.length = N := ⟨_, rfl⟩
    have P_i : ∀ w, Books w G k qs → Ints w M m ys → Calls Tryd.prog 27 #[.slice G k c, .slice M m d] w (MP w rows) := fun w h h' => by have := MostPlan_i G M k c d m qs ys w h h' (by omega) (by omega); rw [hrows] at this; exact this
    have P_s : ∀ w, Books w G k qs → Ints w M m ys → Calls Tryd.prog 46 #[.slice G k c, .slice M m d] w (MQ w rows) := fun w h h' => by have := MostPlan_s G M k c d m qs ys w h h' (by omega) (by omega) sa; rw [hrows] at this; exact this
    rw [hrows] at hlen hle hval
    rw [hN] at hle hval
    have S := fun (Q R : Option Addr) (c1 c2 : Nat) w (h1 : Tabs w Q N rows) (h2 : Tabs w R N rows) => sameLists_yes Q R N c1 c2 rows w h1 h2 (by omega) hlen
    have N_s : ∀ w, Books w G k qs → Calls Tryd.prog 25 #[.slice G k c] w fun e w' => e = .returned (.bool (nsV qs)) ∧ Below w.heap.size w w' := fun w h => NeedsValid_s G k c qs w h (by omega) sa
    have F_s : ∀ w, Ints w M m ys → Calls Tryd.prog 26 #[.slice M m d] w fun e w' => e = .returned (.bool (fvV ys)) ∧ Below w.heap.size w w' := fun w h => FeedValid_s M m d ys w h (by omega)
    have HR := Lib.hid hrows
    have HN := Lib.hid hN
    have HV := Lib.hid hval
    clear hrows hlen hval sa hN
    go_upto_region 7 with (first
      | (go_at_call 27; ((with_reducible refine (P_i _ hA hC).mono ?_); rintro E wk ⟨Q, rfl, hQ, hx, hb⟩; replace hA := hA.below hb; replace hC := hC.below hb; replace hw := bt hw hb; rw [HN.out] at hQ; rw [HN.out]; clear hb hx))
      | (go_at_call 46; ((with_reducible refine (P_s _ hA hC).mono ?_); rintro E wk ⟨g, c', ob, L', rfl, hO, hx, hb⟩; replace hA := hA.below hb; replace hC := hC.below hb; replace hw := bt hw hb; replace hQ := hQ.below hb; have hT := hO.tabs; rw [HN.out] at hT; rw [HN.out]; clear hb hx hO))
      | (go_at_call 45; ((with_reducible refine (S _ _ _ _ _ hQ hT).mono ?_); rintro E wk ⟨rfl, hb⟩; replace hA := hA.below hb; replace hC := hC.below hb; replace hw := bt hw hb; replace hQ := hQ.below hb; clear hb hT)))
    clear P_i P_s S
    cases v1 : nsV qs
    · rw [v1] at N_s
      have hN0 : N = 0 := by rw [← HN.out, ← HR.out]; unfold mpV; rw [if_neg (by rw [v1]; simp)]; rfl
      subst hN0
      clear v1 HR HN HV F_s
      go_wp2_with (first
        | (go_at_call 25; ((with_reducible refine (N_s _ hA).mono ?_); rintro E wk ⟨rfl, hb⟩; replace hw := bt hw hb; clear hb))
        | (go_at_call 20; ((with_reducible refine (alive_ok _).mono ?_); rintro E wk ⟨rfl, hb⟩; replace hw := bt hw hb; clear hb)))
      go_ret
      exact ⟨rfl, hw⟩
    · rw [v1] at N_s
      cases v2 : fvV ys
      · rw [v2] at F_s
        have hN0 : N = 0 := by rw [← HN.out, ← HR.out]; unfold mpV; rw [if_neg (by rw [v2]; simp)]; rfl
        subst hN0
        clear v1 v2 HR HN HV
        go_wp2_with (first
          | (go_at_call 25; ((with_reducible refine (N_s _ hA).mono ?_); rintro E wk ⟨rfl, hb⟩; replace hw := bt hw hb; replace hC := hC.below hb; clear hb))
          | (go_at_call 26; ((with_reducible refine (F_s _ hC).mono ?_); rintro E wk ⟨rfl, hb⟩; replace hw := bt hw hb; clear hb))
          | (go_at_call 20; ((with_reducible refine (alive_ok _).mono ?_); rintro E wk ⟨rfl, hb⟩; replace hw := bt hw hb; clear hb)))
        go_ret
        exact ⟨rfl, hw⟩
      · rw [v2] at F_s
        obtain rfl : N = k := HV.out v1 v2
        have hm6 : m = 6 := by rw [← hC.1]; exact (fv_at v2).1
        subst hm6
        obtain ⟨P, pl, ps, p6, pa⟩ := mp_good v1 v2
        have hpv := mp_pv v1 v2
        have hmu := (muV_nn v1 v2).1
        rw [← hmu] at pa
        obtain ⟨L, hL⟩ : ∃ L, muV qs ys = L := ⟨_, rfl⟩
        rw [hL] at pa
        rw [hkl] at pl p6 pa
        rw [HR.out] at pl ps p6 pa hpv
        have V_i : ∀ (Q : Option Addr) (w : World), Books w G N qs → Ints w M 6 ys → Tabs w Q N rows → Calls Tryd.prog 42 #[.slice G N c, .slice M 6 d, .slice Q N N] w fun E w' => E = .returned (.bool true) ∧ Below w.heap.size w w' := fun Q w h h' h2 => by
          have := PlanValid_i G M Q N c 6 d N N qs ys rows w h h' h2 (by omega) (by omega) (by omega) ps (fun j => by
            rcases Nat.lt_or_ge j N with g | g
            · rw [p6 j g]; omega
            · rw [getD_hi _ _ _ (by rw [pl]; exact g)]; simp)
          rw [hpv] at this; exact this
        have A_i : ∀ (Q : Option Addr) (w : World), Tabs w Q N rows → Calls Tryd.prog 43 #[.slice Q N N] w fun E w' => E = .returned (.int .i64 L) ∧ Below w.heap.size w w' := fun Q w h2 => by
          have := PlanAll_i Q N N rows w h2 (by omega) ps p6
          rw [pa] at this; exact this
        have M_i : ∀ (w : World), Books w G N qs → Ints w M 6 ys → Calls Tryd.prog 32 #[.slice G N c, .slice M 6 d] w fun E w' => E = .returned (.int .i64 L) ∧ Below w.heap.size w w' := fun w h h' => by
          have := MostUnits_i G M N c d 6 qs ys w h h' (by omega) (by omega)
          rw [hL] at this; exact this
        clear v1 v2 HR HN HV P pl ps p6 pa hpv hmu hL
        go_wp2_with (first
          | (go_at_call 25; ((with_reducible refine (N_s _ hA).mono ?_); rintro E wk ⟨rfl, hb⟩; replace hw := bt hw hb; replace hA := hA.below hb; replace hC := hC.below hb; replace hQ := hQ.below hb; clear hb))
          | (go_at_call 26; ((with_reducible refine (F_s _ hC).mono ?_); rintro E wk ⟨rfl, hb⟩; replace hw := bt hw hb; replace hA := hA.below hb; replace hC := hC.below hb; replace hQ := hQ.below hb; clear hb))
          | (go_at_call 42; ((with_reducible refine (V_i _ _ hA hC hQ).mono ?_); rintro E wk ⟨rfl, hb⟩; replace hw := bt hw hb; replace hA := hA.below hb; replace hC := hC.below hb; replace hQ := hQ.below hb; clear hb))
          | (go_at_call 43; ((with_reducible refine (A_i _ _ hQ).mono ?_); rintro E wk ⟨rfl, hb⟩; replace hw := bt hw hb; replace hA := hA.below hb; replace hC := hC.below hb; replace hQ := hQ.below hb; clear hb))
          | (go_at_call 32; ((with_reducible refine (M_i _ hA hC).mono ?_); rintro E wk ⟨rfl, hb⟩; replace hw := bt hw hb; clear hb)))
        go_ret
        exact ⟨ret_bool (by simp), hw⟩
end Go.Proofs.YtoombdhchikbmaaDoor
