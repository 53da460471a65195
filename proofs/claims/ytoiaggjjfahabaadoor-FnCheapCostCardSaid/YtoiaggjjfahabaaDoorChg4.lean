/- CutUnits, MostUnits, TightHours, Enough of the program: what they compute. Condition: small numbers in the needs. -/
import Derived.Test.YtoiaggjjfahabaaDoorChg3
namespace Go.Proofs.YtoiaggjjfahabaaDoor
open Go.RowKit
set_option linter.unusedVariables false
theorem ns_at {qs : List Quad} (h : nsV qs = true) : qs.length ≤ 5 ∧ ∀ i, i < qs.length → 0 ≤ (qs.getD i q0).a ∧ (qs.getD i q0).a ≤ 5 ∧ (qs.getD i q0).a < (qs.getD i q0).b ∧ (qs.getD i q0).b ≤ 6 ∧ 1 ≤ (qs.getD i q0).c ∧ (qs.getD i q0).c ≤ 30 ∧ 1 ≤ (qs.getD i q0).d ∧ (qs.getD i q0).d ≤ 30 := by
  unfold nsV at h
  rw [decide_eq_true_iff] at h
  refine ⟨h.1, fun i hi => ?_⟩
  have := h.2 i hi
  unfold nvq nv at this
  rw [decide_eq_true_iff] at this
  exact this
theorem getD_big {α : Type} (l : List α) (d : α) (k : Nat) (h : l.length ≤ k) : l.getD k d = d := by
  rw [List.getD_eq_getElem?_getD, List.getElem?_eq_none h]; rfl
theorem us_bd {qs : List Quad} (h : nsV qs = true) (k : Nat) : 0 ≤ (usL qs).getD k 0 ∧ (usL qs).getD k 0 ≤ 30 := by
  by_cases hk : k < qs.length
  · rw [usL_at hk]; have := (ns_at h).2 k hk; omega
  · rw [getD_big _ _ _ (by simp [usL]; omega)]; omega
theorem rs_bd {qs : List Quad} (h : nsV qs = true) (k j : Nat) : 0 ≤ ((rssL qs).getD k []).getD j 0 ∧ ((rssL qs).getD k []).getD j 0 ≤ 30 := by
  by_cases hk : k < qs.length
  · rw [rssL_at hk]
    by_cases hj : j < 6
    · rw [rsL_at _ hj]
      have := (ns_at h).2 k hk
      unfold rin
      split
      · split <;> omega
      · rename_i g
        refine absurd ?_ g
        unfold nv; rw [decide_eq_true_iff]; exact this
    · rw [getD_big _ _ _ (by rw [rsL_len]; omega)]; omega
  · rw [getD_big (rssL qs) _ _ (by simp [rssL]; omega)]
    simp
theorem us_Bd {qs : List Quad} (h : nsV qs = true) : Bd (usL qs) := fun k => by have := us_bd h k; omega
theorem rs_Bd {qs : List Quad} (h : nsV qs = true) (k : Nat) : Bd ((rssL qs).getD k []) := fun j => by have := rs_bd h k j; omega
theorem fv_at {cs : List Int} (h : fvV cs = true) : cs.length = 6 ∧ ∀ k, 0 ≤ cs.getD k 0 ∧ cs.getD k 0 ≤ 30 := by
  unfold fvV at h
  rw [decide_eq_true_iff] at h
  refine ⟨h.1, fun k => ?_⟩
  by_cases hk : k < cs.length
  · exact h.2 k hk
  · rw [getD_big _ _ _ (by omega)]; omega
theorem fv_Bd {cs : List Int} (h : fvV cs = true) : Bd cs := fun k => by have := (fv_at h).2 k; omega
/-- MostUnits -/
def muV (qs : List Quad) (cs : List Int) : Int := if nsV qs = true ∧ fvV cs = true then lcV (usL qs) (rssL qs) cs else -1
/-- CutUnits -/
def cuV (qs : List Quad) (cs : List Int) (s : Int) : Int := if nsV qs = true ∧ fvV cs = true ∧ 0 ≤ s ∧ s < 64 then cutV (usL qs) (rssL qs) cs s.toNat else -1
theorem NL.open {w w' : World} {qs : List Quad} {e : Ending} (h : NL w qs e w') : ∃ g G, e = .returned (.tuple #[.slice (some ⟨g, 0, none⟩) qs.length qs.length, .slice (some ⟨G, 0, none⟩) qs.length qs.length]) ∧ Ints w' (some ⟨g, 0, none⟩) qs.length (usL qs) ∧ Tabs w' (some ⟨G, 0, none⟩) qs.length (rssL qs) ∧ Below w.heap.size w w' := by
  obtain ⟨g, bls, G, rfl, h1, h2, h3, h4, h5, h6⟩ := h
  exact ⟨g, G, rfl, Ints.of_blk' h3 (by simp [usL]), h4.tabs h5, h6⟩
set_option maxHeartbeats 1000000 in
theorem MostUnits_i (A C : Option Addr) (n c1 c2 m : Nat) (qs : List Quad) (cs : List Int) (w : World) (h : Books w A n qs) (hC : Ints w C m cs) (hn : n ≤ 1048576) (hm : m ≤ 1048576) :
    Calls Tryd.prog 26 #[.slice A n c1, .slice C m c2] w fun e w' => e = .returned (.int .i64 (muV qs cs)) ∧ Below w.heap.size w w' := by
  obtain ⟨V1, hV1⟩ : ∃ V, nsV qs = V := ⟨_, rfl⟩
  obtain ⟨V2, hV2⟩ : ∃ V, fvV cs = V := ⟨_, rfl⟩
  have C1 : ∀ w, Books w A n qs → Calls Tryd.prog 57 #[.slice A n c1] w fun e w' => e = .returned (.bool V1) ∧ Below w.heap.size w w' := fun w h => by have := NeedsValid_i A n c1 qs w h hn; rw [hV1] at this; exact this
  have C2 : ∀ w, Ints w C m cs → Calls Tryd.prog 58 #[.slice C m c2] w fun e w' => e = .returned (.bool V2) ∧ Below w.heap.size w w' := fun w h => by have := FeedValid_i C m c2 cs w h hm; rw [hV2] at this; exact this
  have HV1 := Lib.hid hV1
  have HV2 := Lib.hid hV2
  go_enter Tryd.func26, Tryd.ntmps26
  cases V1
  · have hr : Hid (muV qs cs = -1) := by show _ = _; unfold muV; rw [if_neg (by rw [hV1]; simp)]
    clear hV1 hV2
    go_wp2_with (go_at_call 57; refine (C1 _ h).mono ?_; rintro e w1 ⟨rfl, hb1⟩)
    all_goals (go_ret; exact ⟨ret_int hr.out.symm, hb1⟩)
  · cases V2
    · have hr : Hid (muV qs cs = -1) := by show _ = _; unfold muV; rw [if_neg (by rw [hV2]; simp)]
      clear hV1 hV2
      go_wp2_with (first
        | (go_at_call 57; refine (C1 _ h).mono ?_; rintro e w1 ⟨rfl, hb1⟩)
        | (go_at_call 58; refine (C2 _ (hC.below hb1)).mono ?_; rintro e w2 ⟨rfl, hb2⟩))
      all_goals (go_ret; exact ⟨ret_int hr.out.symm, bt hb1 hb2⟩)
    · have hr : Hid (muV qs cs = lcV (usL qs) (rssL qs) cs) := by show _ = _; unfold muV; rw [if_pos ⟨hV1, hV2⟩]
      have hm6 : m = 6 := by rw [← hC.1]; exact (fv_at hV2).1
      subst hm6
      clear hV1 hV2
      go_wp2_with (first
        | (go_at_call 57; refine (C1 _ h).mono ?_; rintro e w1 ⟨rfl, hb1⟩)
        | (go_at_call 58; refine (C2 _ (hC.below hb1)).mono ?_; rintro e w2 ⟨rfl, hb2⟩)
        | (go_at_call 63; refine (needLists_i A n c1 qs _ ((h.below hb1).below hb2) HV1.out).mono ?_; rintro e w3 hNL; obtain ⟨g, G, rfl, hI, hT, hb3⟩ := hNL.open)
        | (go_at_call 64; refine (leastCut_i _ _ C _ _ _ _ (usL qs) (rssL qs) cs _ hI hT (((hC.below hb1).below hb2).below hb3) (by have := (ns_at HV1.out).1; omega) (fun k hk => by rw [rssL_at hk, rsL_len]) (us_Bd HV1.out) (rs_Bd HV1.out) (fv_Bd HV2.out)).mono ?_; rintro e w4 ⟨rfl, hb4⟩))
      all_goals (go_ret; exact ⟨ret_int hr.out.symm, bt (bt (bt hb1 hb2) hb3) hb4⟩)
end Go.Proofs.YtoiaggjjfahabaaDoor
