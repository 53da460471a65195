/- CheapLoads of the reference at every argument; the draws of needs, a feed and prices. Conditions: short lists, small numbers in the needs. -/
import Derived.Test.YtoiaggjjfahabaaDoorChg22
import Derived.Test.YtoiaggjjfahabaaDoorDFed
namespace Go.Proofs.YtoiaggjjfahabaaDoor
open Go.RowKit
set_option linter.unusedVariables false
set_option maxHeartbeats 1000000 in
theorem CheapLoads_s (A C Q : Option Addr) (n c1 m c2 k c3 : Nat) (qs : List Quad) (cs ps : List Int) (w : World) (h : Books w A n qs) (hC : Ints w C m cs) (hQ : Ints w Q k ps) (hn : n ≤ 1048576) (hm : m ≤ 1048576) (hk : k ≤ 1048576) (sa : SmA qs) :
    Calls Tryd.prog 25 #[.slice A n c1, .slice C m c2, .slice Q k c3] w (CLs w (clO qs cs ps)) := by
  obtain ⟨V1, hV1⟩ : ∃ V, nsV qs = V := ⟨_, rfl⟩
  obtain ⟨V2, hV2⟩ : ∃ V, fvV cs = V := ⟨_, rfl⟩
  obtain ⟨V3, hV3⟩ : ∃ V, fvV ps = V := ⟨_, rfl⟩
  have K1 : ∀ w, Books w A n qs → Calls Tryd.prog 59 #[.slice A n c1] w fun e w' => e = .returned (.bool V1) ∧ Below w.heap.size w w' := fun w h => by have := NeedsValid_s A n c1 qs w h hn sa; rw [hV1] at this; exact this
  have K2 : ∀ w, Ints w C m cs → Calls Tryd.prog 60 #[.slice C m c2] w fun e w' => e = .returned (.bool V2) ∧ Below w.heap.size w w' := fun w h => by have := FeedValid_s C m c2 cs w h hm; rw [hV2] at this; exact this
  have K3 : ∀ w, Ints w Q k ps → Calls Tryd.prog 60 #[.slice Q k c3] w fun e w' => e = .returned (.bool V3) ∧ Below w.heap.size w w' := fun w h => by have := FeedValid_s Q k c3 ps w h hk; rw [hV3] at this; exact this
  have go : ¬ (V1 = true ∧ V2 = true ∧ V3 = true) → Calls Tryd.prog 25 #[.slice A n c1, .slice C m c2, .slice Q k c3] w (CLs w []) := by
    intro hno
    clear hV1 hV2 hV3
    cases V1
    · clear hno
      go_enter Tryd.func25, Tryd.ntmps25
      go_wp2_with (go_at_call 59; ((with_reducible refine (K1 _ h).mono ?_); rintro e w1 ⟨rfl, hb1⟩))
      all_goals (go_ret; exact CLs.nil _ _ _ _ (hb1.alloc hb1.size _))
    · cases V2
      · clear hno
        go_enter Tryd.func25, Tryd.ntmps25
        go_wp2_with (first
          | (go_at_call 59; ((with_reducible refine (K1 _ h).mono ?_); rintro e w1 ⟨rfl, hb1⟩))
          | (go_at_call 60; ((with_reducible refine (K2 _ (hC.below hb1)).mono ?_); rintro e w2 ⟨rfl, hb2⟩; have hb3 := bt hb1 hb2)))
        all_goals (go_ret; exact CLs.nil _ _ _ _ (hb3.alloc hb3.size _))
      · cases V3
        · clear hno
          go_enter Tryd.func25, Tryd.ntmps25
          go_wp2_with (first
            | (go_at_call 59; ((with_reducible refine (K1 _ h).mono ?_); rintro e w1 ⟨rfl, hb1⟩))
            | (go_at_call 60; ((with_reducible refine (K2 _ (hC.below hb1)).mono ?_); rintro e w2 ⟨rfl, hb2⟩; have hb3 := bt hb1 hb2; clear K2))
            | (go_at_call 60; ((with_reducible refine (K3 _ (hQ.below hb3)).mono ?_); rintro e w3 ⟨rfl, hb4⟩; have hb5 := bt hb3 hb4)))
          all_goals (go_ret; exact CLs.nil _ _ _ _ (hb5.alloc hb5.size _))
        · exact absurd ⟨rfl, rfl, rfl⟩ hno
  by_cases hv : nsV qs = true ∧ fvV cs = true ∧ fvV ps = true
  · obtain ⟨v1, v2, v3⟩ := hv
    rw [clO_yes v1 v2 v3]
    obtain rfl : m = 6 := by rw [← hC.1]; exact (fv_at v2).1
    obtain rfl : k = 6 := by rw [← hQ.1]; exact (fv_at v3).1
    exact CheapLoads_s_yes A C Q n c1 c2 c3 qs cs ps w h hC hQ hn v1 v2 v3
  · rw [clO_no hv]
    exact go (by rw [← hV1, ← hV2, ← hV3]; exact hv)
/-- drawn needs, a feed and prices -/
def DPr (w : World) (r B' : Nat) (e : Ending) (w' : World) : Prop :=
  ∃ A k c qs G m d zs H l f ys, e = .returned (.tuple #[.slice A k c, .slice G m d, .slice H l f]) ∧ (∀ w2, Stp r w' w2 → Books w2 A k qs) ∧ (∀ w2, Stp r w' w2 → Ints w2 G m zs) ∧ (∀ w2, Stp r w' w2 → Ints w2 H l ys) ∧ k ≤ 9 ∧ k ≤ c ∧ c ≤ maxLen ∧ m ≤ 7 ∧ m ≤ d ∧ d ≤ maxLen ∧ l ≤ 7 ∧ l ≤ f ∧ f ≤ maxLen ∧ (∀ q ∈ qs, SmQ q) ∧ (∀ z ∈ zs, Sm z) ∧ (∀ z ∈ ys, Sm z) ∧ RB w' r B' ∧ Stp r w w'
set_option maxRecDepth 100000 in
theorem priced_ok (r : Nat) (B : Nat) (w : World) (h : RB w r B) (hB : B ≤ 600000000) :
    Calls Tryd.prog 56 #[.pointer (some ⟨r, 0, none⟩)] w (DPr w r (B + 1000)) := by
  go_enter Tryd.func56, Tryd.ntmps56
  go_wp2_with (first
    | (go_at_call 93; ((with_reducible refine (needs_ok r 12 _ _ h ?_ ?_ ?_).mono ?_); (omega); (omega); (omega); rintro e w2 ⟨G, k, c, qs, rfl, hB1, k1, k2, k3, k4, hr2, hs⟩; have HB1 := Lib.hid hB1; clear h hB1))
    | (go_at_call 94; ((with_reducible refine (feed_ok r 12 _ _ hr2 ?_ ?_ ?_).mono ?_); (omega); (omega); (omega); rintro e w3 ⟨G', m, d, zs, rfl, hI, m1, m2, m3, m4, hr3, hs3⟩; have HI := Lib.hid hI; clear hI hr2))
    | (go_at_call 94; ((with_reducible refine (feed_ok r 12 _ _ hr3 ?_ ?_ ?_).mono ?_); (omega); (omega); (omega); rintro e w4 ⟨H', l, f, ys, rfl, hJ, l1, l2, l3, l4, hr4, hs4⟩; have HJ := Lib.hid hJ; clear hJ)))
  refine bodyPost_ret (v := .tuple #[.slice (some ⟨G, 0, none⟩) k c, .slice G' m d, .slice H' l f]) (by simp [results, Tryd.results56, go_sem]) rfl ?_
  exact ⟨some ⟨G, 0, none⟩, k, c, qs, G', m, d, zs, H', l, f, ys, rfl, fun w2 h2 => HB1.out _ (hs3.trans (hs4.trans h2)), fun w2 h2 => HI.out _ (hs4.trans h2), fun w2 h2 => HJ.out _ h2, k1, k2, k3, m1, m2, m3, l1, l2, l3, k4, m4, l4, hr4.le (by omega), hs.trans (hs3.trans hs4)⟩
/-- drawn needs, a feed and prices, without the reader -/
def DPA (w : World) (A : Option Addr) (k c : Nat) (qs : List Quad) (G : Option Addr) (m d : Nat) (zs : List Int) (H : Option Addr) (l f : Nat) (ys : List Int) (w' : World) : Prop :=
  Books w' A k qs ∧ Ints w' G m zs ∧ Ints w' H l ys ∧ k ≤ 9 ∧ k ≤ c ∧ c ≤ maxLen ∧ m ≤ 7 ∧ m ≤ d ∧ d ≤ maxLen ∧ l ≤ 7 ∧ l ≤ f ∧ f ≤ maxLen ∧ SmA qs ∧ Below w.heap.size w w'
set_option maxRecDepth 100000 in
theorem drawCheapLoads_ok (A : Option Addr) (n cap : Nat) (zs : List Int) (w : World) (h : Nums .u8 w A n cap zs) (hn : n ≤ 1048576) :
    Calls Tryd.prog 23 #[.slice A n cap] w fun e w' => ∃ B k c qs G m d ys H l f us, e = .returned (.tuple #[.slice B k c, .slice G m d, .slice H l f]) ∧ DPA w B k c qs G m d ys H l f us w' := by
  go_enter Tryd.func23, Tryd.ntmps23
  go_wp2_with (first
    | (go_at_call 48; ((with_reducible refine (opN A n cap zs _ h hn).mono ?_); rintro e w1 ⟨rfl, hr, hb, hlt⟩; clear h))
    | (go_at_call 56; ((with_reducible refine (priced_ok w.heap.size _ _ hr ?_).mono ?_); (omega); rintro e w2 ⟨B, k, c, qs, G, m, d, ys, H, l, f, us, rfl, hB, hI, hJ, k1, k2, k3, m1, m2, m3, l1, l2, l3, q1, q2, q3, hr2, hs⟩; have hw := hb.trans hs.1; have hB2 := Lib.hid (hB _ (Stp.refl _ _)); have hI2 := Lib.hid (hI _ (Stp.refl _ _)); have hJ2 := Lib.hid (hJ _ (Stp.refl _ _)); clear hr hs hb hB hI hJ)))
  refine bodyPost_ret (v := .tuple #[.slice B k c, .slice G m d, .slice H l f]) (by simp [results, Tryd.results23, go_sem]) rfl ?_
  exact ⟨_, _, _, qs, _, _, _, ys, _, _, _, us, rfl, hB2.out, hI2.out, hJ2.out, k1, k2, k3, m1, m2, m3, l1, l2, l3, smA_all q1, hw⟩
set_option maxRecDepth 100000 in
theorem drawCheapCost_ok (A : Option Addr) (n cap : Nat) (zs : List Int) (w : World) (h : Nums .u8 w A n cap zs) (hn : n ≤ 1048576) :
    Calls Tryd.prog 27 #[.slice A n cap] w fun e w' => ∃ B k c qs G m d ys H l f us, e = .returned (.tuple #[.slice B k c, .slice G m d, .slice H l f]) ∧ DPA w B k c qs G m d ys H l f us w' := by
  go_enter Tryd.func27, Tryd.ntmps27
  go_wp2_with (first
    | (go_at_call 48; ((with_reducible refine (opN A n cap zs _ h hn).mono ?_); rintro e w1 ⟨rfl, hr, hb, hlt⟩; clear h))
    | (go_at_call 56; ((with_reducible refine (priced_ok w.heap.size _ _ hr ?_).mono ?_); (omega); rintro e w2 ⟨B, k, c, qs, G, m, d, ys, H, l, f, us, rfl, hB, hI, hJ, k1, k2, k3, m1, m2, m3, l1, l2, l3, q1, q2, q3, hr2, hs⟩; have hw := hb.trans hs.1; have hB2 := Lib.hid (hB _ (Stp.refl _ _)); have hI2 := Lib.hid (hI _ (Stp.refl _ _)); have hJ2 := Lib.hid (hJ _ (Stp.refl _ _)); clear hr hs hb hB hI hJ)))
  refine bodyPost_ret (v := .tuple #[.slice B k c, .slice G m d, .slice H l f]) (by simp [results, Tryd.results27, go_sem]) rfl ?_
  exact ⟨_, _, _, qs, _, _, _, ys, _, _, _, us, rfl, hB2.out, hI2.out, hJ2.out, k1, k2, k3, m1, m2, m3, l1, l2, l3, smA_all q1, hw⟩
end Go.Proofs.YtoiaggjjfahabaaDoor
