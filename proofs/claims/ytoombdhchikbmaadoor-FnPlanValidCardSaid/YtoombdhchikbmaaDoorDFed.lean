/- l20Fed and the draws of needs and a feed. No condition. -/
import Derived.Test.YtoombdhchikbmaaDoorDNeeds
import Derived.Test.YtoombdhchikbmaaDoorDFeed
import Derived.Test.YtoombdhchikbmaaDoorChg1
namespace Go.Proofs.YtoombdhchikbmaaDoor
open Go.RowKit
set_option linter.unusedVariables false
/-- drawn needs and a feed -/
def DFd (w : World) (r B' : Nat) (e : Ending) (w' : World) : Prop :=
  ∃ A k c qs G m d zs, e = .returned (.tuple #[.slice A k c, .slice G m d]) ∧ (∀ w2, Stp r w' w2 → Books w2 A k qs) ∧ (∀ w2, Stp r w' w2 → Ints w2 G m zs) ∧ k ≤ 9 ∧ k ≤ c ∧ c ≤ maxLen ∧ m ≤ 7 ∧ m ≤ d ∧ d ≤ maxLen ∧ (∀ q ∈ qs, SmQ q) ∧ (∀ z ∈ zs, Sm z) ∧ RB w' r B' ∧ Stp r w w'
set_option maxRecDepth 100000 in
theorem fed_ok (r : Nat) (B : Nat) (w : World) (h : RB w r B) (hB : B ≤ 600000000) :
    Calls Tryd.prog 66 #[.pointer (some ⟨r, 0, none⟩)] w (DFd w r (B + 160)) := by
  go_enter Tryd.func66, Tryd.ntmps66
  go_wp2_with (first
    | (go_at_call 102; ((with_reducible refine (needs_ok r 9 _ _ h ?_ ?_ ?_).mono ?_); (omega); (omega); (omega); rintro e w2 ⟨G, k, c, qs, rfl, hB1, k1, k2, k3, k4, hr2, hs⟩; have HB1 := Lib.hid hB1; clear h hB1))
    | (go_at_call 103; ((with_reducible refine (feed_ok r 9 _ _ hr2 ?_ ?_ ?_).mono ?_); (omega); (omega); (omega); rintro e w3 ⟨G', m, d, zs, rfl, hI, m1, m2, m3, m4, hr3, hs3⟩; have HI := Lib.hid hI; clear hI)))
  refine bodyPost_ret (v := .tuple #[.slice (some ⟨G, 0, none⟩) k c, .slice G' m d]) (by simp [results, Tryd.results66, go_sem]) rfl ?_
  exact ⟨some ⟨G, 0, none⟩, k, c, qs, G', m, d, zs, rfl, fun w2 h2 => HB1.out _ (hs3.trans h2), fun w2 h2 => HI.out _ h2, k1, k2, k3, m1, m2, m3, k4, m4, hr3.le (by omega), hs.trans hs3⟩
/-- drawn needs and a feed, without the reader -/
def DFA (w : World) (A : Option Addr) (k c : Nat) (qs : List Quad) (G : Option Addr) (m d : Nat) (zs : List Int) (w' : World) : Prop :=
  Books w' A k qs ∧ Ints w' G m zs ∧ k ≤ 9 ∧ k ≤ c ∧ c ≤ maxLen ∧ m ≤ 7 ∧ m ≤ d ∧ d ≤ maxLen ∧ (∀ q ∈ qs, SmQ q) ∧ (∀ z ∈ zs, Sm z) ∧ SmA qs ∧ Below w.heap.size w w'
theorem smA_all {qs : List Quad} (h : ∀ q ∈ qs, SmQ q) : SmA qs := by
  intro i
  rcases Nat.lt_or_ge i qs.length with g | g
  · have e : qs.getD i q0 = qs[i] := by rw [List.getD_eq_getElem?_getD, List.getElem?_eq_getElem g]; rfl
    rw [e]
    exact (h _ (List.getElem_mem g)).1
  · have e : qs.getD i q0 = q0 := by rw [List.getD_eq_getElem?_getD, List.getElem?_eq_none g]; rfl
    rw [e]; simp [q0]
set_option maxRecDepth 100000 in
theorem drawMostUnits_ok (A : Option Addr) (n cap : Nat) (zs : List Int) (w : World) (h : Nums .u8 w A n cap zs) (hn : n ≤ 1048576) :
    Calls Tryd.prog 40 #[.slice A n cap] w fun e w' => ∃ B k c qs G m d ys, e = .returned (.tuple #[.slice B k c, .slice G m d]) ∧ DFA w B k c qs G m d ys w' := by
  go_enter Tryd.func40, Tryd.ntmps40
  go_wp2_with (first
    | (go_at_call 63; ((with_reducible refine (opN A n cap zs _ h hn).mono ?_); rintro e w1 ⟨rfl, hr, hb, hlt⟩; clear h))
    | (go_at_call 66; ((with_reducible refine (fed_ok w.heap.size _ _ hr ?_).mono ?_); (omega); rintro e w2 ⟨B, k, c, qs, G, m, d, ys, rfl, hB, hI, k1, k2, k3, m1, m2, m3, q1, q2, hr2, hs⟩; have hw := hb.trans hs.1; have hB2 := Lib.hid (hB _ (Stp.refl _ _)); have hI2 := Lib.hid (hI _ (Stp.refl _ _)); clear hr hs hb hB hI)))
  refine bodyPost_ret (v := .tuple #[.slice B k c, .slice G m d]) (by simp [results, Tryd.results40, go_sem]) rfl ?_
  exact ⟨_, _, _, qs, _, _, _, ys, rfl, hB2.out, hI2.out, k1, k2, k3, m1, m2, m3, q1, q2, smA_all q1, hw⟩
set_option maxRecDepth 100000 in
theorem drawTightHours_ok (A : Option Addr) (n cap : Nat) (zs : List Int) (w : World) (h : Nums .u8 w A n cap zs) (hn : n ≤ 1048576) :
    Calls Tryd.prog 29 #[.slice A n cap] w fun e w' => ∃ B k c qs G m d ys, e = .returned (.tuple #[.slice B k c, .slice G m d]) ∧ DFA w B k c qs G m d ys w' := by
  go_enter Tryd.func29, Tryd.ntmps29
  go_wp2_with (first
    | (go_at_call 63; ((with_reducible refine (opN A n cap zs _ h hn).mono ?_); rintro e w1 ⟨rfl, hr, hb, hlt⟩; clear h))
    | (go_at_call 66; ((with_reducible refine (fed_ok w.heap.size _ _ hr ?_).mono ?_); (omega); rintro e w2 ⟨B, k, c, qs, G, m, d, ys, rfl, hB, hI, k1, k2, k3, m1, m2, m3, q1, q2, hr2, hs⟩; have hw := hb.trans hs.1; have hB2 := Lib.hid (hB _ (Stp.refl _ _)); have hI2 := Lib.hid (hI _ (Stp.refl _ _)); clear hr hs hb hB hI)))
  refine bodyPost_ret (v := .tuple #[.slice B k c, .slice G m d]) (by simp [results, Tryd.results29, go_sem]) rfl ?_
  exact ⟨_, _, _, qs, _, _, _, ys, rfl, hB2.out, hI2.out, k1, k2, k3, m1, m2, m3, q1, q2, smA_all q1, hw⟩
set_option maxRecDepth 100000 in
theorem drawEnough_ok (A : Option Addr) (n cap : Nat) (zs : List Int) (w : World) (h : Nums .u8 w A n cap zs) (hn : n ≤ 1048576) :
    Calls Tryd.prog 22 #[.slice A n cap] w fun e w' => ∃ B k c qs G m d ys, e = .returned (.tuple #[.slice B k c, .slice G m d]) ∧ DFA w B k c qs G m d ys w' := by
  go_enter Tryd.func22, Tryd.ntmps22
  go_wp2_with (first
    | (go_at_call 63; ((with_reducible refine (opN A n cap zs _ h hn).mono ?_); rintro e w1 ⟨rfl, hr, hb, hlt⟩; clear h))
    | (go_at_call 66; ((with_reducible refine (fed_ok w.heap.size _ _ hr ?_).mono ?_); (omega); rintro e w2 ⟨B, k, c, qs, G, m, d, ys, rfl, hB, hI, k1, k2, k3, m1, m2, m3, q1, q2, hr2, hs⟩; have hw := hb.trans hs.1; have hB2 := Lib.hid (hB _ (Stp.refl _ _)); have hI2 := Lib.hid (hI _ (Stp.refl _ _)); clear hr hs hb hB hI)))
  refine bodyPost_ret (v := .tuple #[.slice B k c, .slice G m d]) (by simp [results, Tryd.results22, go_sem]) rfl ?_
  exact ⟨_, _, _, qs, _, _, _, ys, rfl, hB2.out, hI2.out, k1, k2, k3, m1, m2, m3, q1, q2, smA_all q1, hw⟩
set_option maxRecDepth 100000 in
theorem drawMostPlan_ok (A : Option Addr) (n cap : Nat) (zs : List Int) (w : World) (h : Nums .u8 w A n cap zs) (hn : n ≤ 1048576) :
    Calls Tryd.prog 44 #[.slice A n cap] w fun e w' => ∃ B k c qs G m d ys, e = .returned (.tuple #[.slice B k c, .slice G m d]) ∧ DFA w B k c qs G m d ys w' := by
  go_enter Tryd.func44, Tryd.ntmps44
  go_wp2_with (first
    | (go_at_call 63; ((with_reducible refine (opN A n cap zs _ h hn).mono ?_); rintro e w1 ⟨rfl, hr, hb, hlt⟩; clear h))
    | (go_at_call 66; ((with_reducible refine (fed_ok w.heap.size _ _ hr ?_).mono ?_); (omega); rintro e w2 ⟨B, k, c, qs, G, m, d, ys, rfl, hB, hI, k1, k2, k3, m1, m2, m3, q1, q2, hr2, hs⟩; have hw := hb.trans hs.1; have hB2 := Lib.hid (hB _ (Stp.refl _ _)); have hI2 := Lib.hid (hI _ (Stp.refl _ _)); clear hr hs hb hB hI)))
  refine bodyPost_ret (v := .tuple #[.slice B k c, .slice G m d]) (by simp [results, Tryd.results44, go_sem]) rfl ?_
  exact ⟨_, _, _, qs, _, _, _, ys, rfl, hB2.out, hI2.out, k1, k2, k3, m1, m2, m3, q1, q2, smA_all q1, hw⟩
end Go.Proofs.YtoombdhchikbmaaDoor
