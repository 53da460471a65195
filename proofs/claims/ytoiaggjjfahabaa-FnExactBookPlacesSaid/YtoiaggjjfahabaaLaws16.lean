/- The walk of the law on BookPlaces: the program returns what the reference returns, in new memory. No condition. -/
import Derived.Test.YtoiaggjjfahabaaIPlc
import Derived.Test.YtoiaggjjfahabaaMarkB
namespace Go.Proofs.Ytoiaggjjfahabaa
open Go.RowKit
set_option linter.unusedVariables false
theorem ResB.own {w w' : World} {xs : List Int} {e : Ending} (r : ResB w xs e w') : ∃ A c, e = .returned (.slice A xs.length c) ∧ OwnI w' w.heap.size w'.heap.size A xs.length xs ∧ Below w.heap.size w w' := by
  obtain ⟨A, c, e1, h1, h2, h3⟩ := r
  refine ⟨A, c, e1, ⟨rfl, fun hn => ?_⟩, h3⟩
  obtain ⟨g, e2, h4, h5⟩ := h2 hn
  exact ⟨g, e2, h4, h5.lt, h5⟩
theorem plV_len (qs : List Quad) : (plV qs).length ≤ qs.length := by unfold plV; split; (rw [pl_len]; exact Nat.le_refl _); simp
/-- the slice (A, n) reads as xs, and where it has elements it begins a block between lo and hi -/
def OwnR (w : World) (lo hi : Nat) (A : Option Addr) (n : Nat) (xs : List Int) : Prop := xs.length = n ∧ (0 < n → ∃ g, A = some ⟨g, 0, none⟩ ∧ lo ≤ g ∧ g < hi ∧ Rw w g n xs)
section
variable {w w' : World} {lo hi l h n : Nat} {A : Option Addr} {xs : List Int}
theorem OwnR.ints (a : OwnR w lo hi A n xs) : Ints w A n xs :=
  ⟨a.1, fun hn => by
    obtain ⟨g, e, _, _, hB⟩ := a.2 hn
    obtain ⟨b, off, e1, h1, h2⟩ := hB.ints.2 hn
    exact ⟨b, off, e.trans e1, h1, h2⟩⟩
theorem OwnR.below (a : OwnR w lo hi A n xs) (hb : Below w.heap.size w w') : OwnR w' lo hi A n xs :=
  ⟨a.1, fun hn => by
    obtain ⟨g, e, h1, h2, hB⟩ := a.2 hn
    exact ⟨g, e, h1, h2, hB.below hb hB.lt⟩⟩
theorem OwnR.chg (a : OwnR w l h A n xs) (c : Chg lo hi w w') (hd : h ≤ lo ∨ hi ≤ l) : OwnR w' l h A n xs :=
  ⟨a.1, fun hn => by
    obtain ⟨g, e, h1, h2, hB⟩ := a.2 hn
    exact ⟨g, e, h1, h2, hB.keep (c.block g hB.lt (by omega))⟩⟩
theorem ResP.own {e : Ending} (r : ResP w xs e w') : ∃ A c, e = .returned (.slice A xs.length c) ∧ OwnR w' w.heap.size w'.heap.size A xs.length xs ∧ Below w.heap.size w w' := by
  obtain ⟨A, c, e1, h2, h3⟩ := r
  refine ⟨A, c, e1, ⟨rfl, fun hn => ?_⟩, h3⟩
  obtain ⟨g, e2, h4, h5⟩ := h2 hn
  exact ⟨g, e2, h4, h5.lt, h5⟩
end
set_option maxHeartbeats 4000000 in
theorem FnExactBookPlaces_walk (w : World) (a0 : Option Addr) (n0 c0 : Nat) (z0 : List Quad) (w0 : Quads w a0 n0 c0 z0) :
    Calls Try.prog 3 #[.slice a0 n0 c0] w fun e w' => e = .returned (.bool true) ∧ Below w.heap.size w w' := by
  have hA0 := w0.books
  have hm0 := w0.len
  clear w0
  by_cases l0 : n0 ≤ 1048576
  case neg =>
    go_enter Try.func3, Try.ntmps3
    go_wp2_with fail
    refine (szBookS_big _ _ _ _ _ hm0 (by omega) (by omega)).mono ?_
    rintro e w' ⟨rfl, rfl⟩
    go_wp2_with fail
    go_ret
    exact ⟨rfl, Below.refl _ _⟩
  have hE0 : eqQ z0 z0 = true := by simp [eqQ]
  have hl0 := hA0.1
  have hEX : eqB (plV z0) (plV z0) = true := by simp [eqB]
  have hlX : (plV z0).length ≤ 1048576 := by have := plV_len z0; omega
  clear hl0
  obtain ⟨xs, hxs⟩ : ∃ xs, plV z0 = xs := ⟨_, rfl⟩
  have C_s : ∀ A n c w, Books w A n z0 → n ≤ 1048576 → Calls Try.prog 7 #[.slice A n c] w (ResP w xs) := fun A n c w h hn => by have := BookPlaces_s A n c z0 w h hn; rw [hxs] at this; exact this
  have C_i : ∀ A n c w, Books w A n z0 → n ≤ 1048576 → n ≤ c → Calls Try.prog 9 #[.slice A n c] w (ResB w xs) := fun A n c w h hn hc => by have := BookPlaces_i A n c z0 w h hn hc; rw [hxs] at this; exact this
  rw [hxs] at hEX hlX
  clear hxs
  go_enter Try.func3, Try.ntmps3
  go_wp2_with fail
  refine (szBookS_any _ _ _ _ _ hm0 (by omega) (by omega)).mono ?_
  rintro e w' ⟨rfl, rfl⟩
  have hT : Below w.heap.size w w := Below.refl _ _
  go_wp2_with fail
  refine (toBookS_any _ _ _ z0 _ (hA0.below hT) l0).mono ?_
  rintro e v1 ⟨ghS, rfl, _, hS, hB, hb⟩
  clear hB
  replace hT := bt hT hb
  have hz1 := hb.size
  clear hb
  go_wp2_with fail
  refine (C_s _ _ _ _ hS l0).mono ?_
  intro e v2 r
  obtain ⟨AhW, chW, rfl, hW, hb⟩ := r.own
  clear r
  replace hS := hS.below hb
  replace hT := bt hT hb
  have hz2 := hb.size
  clear hb
  clear hS
  go_wp2_with fail
  refine (toBookS_own _ _ _ z0 _ (hA0.below hT) l0).mono ?_
  rintro e v3 ⟨AhX, rfl, hX, hb⟩
  replace hW := hW.below hb
  replace hT := bt hT hb
  have hz3 := hb.size
  clear hb
  go_wp2_with fail
  refine (C_i _ _ _ _ hX.books l0 (Nat.le_refl _)).mono ?_
  intro e v4 r
  obtain ⟨AhG, chG, rfl, hG, hb⟩ := r.own
  clear r
  replace hW := hW.below hb
  replace hX := hX.below hb
  replace hT := bt hT hb
  have hz4 := hb.size
  clear hb
  go_wp2_with fail
  refine (eqIntS_any _ _ _ _ _ _ xs xs _ hG.ints hW.ints (by omega)).mono ?_
  rintro e v5 ⟨rfl, hb⟩
  replace hW := hW.below hb
  replace hX := hX.below hb
  replace hG := hG.below hb
  replace hT := bt hT hb
  have hz5 := hb.size
  clear hb
  go_wp2_with fail
  refine (toBookS_any _ _ _ z0 _ (hA0.below hT) l0).mono ?_
  rintro e v6 ⟨ghS, rfl, _, hS, hB, hb⟩
  clear hB
  replace hW := hW.below hb
  replace hX := hX.below hb
  replace hG := hG.below hb
  replace hT := bt hT hb
  have hz6 := hb.size
  clear hb
  go_wp2_with fail
  refine (eqBookS_any _ _ _ _ _ _ z0 z0 _ hX.books hS (by omega)).mono ?_
  rintro e v7 ⟨rfl, hb⟩
  replace hW := hW.below hb
  replace hX := hX.below hb
  replace hG := hG.below hb
  replace hS := hS.below hb
  replace hT := bt hT hb
  have hz7 := hb.size
  clear hb
  clear hS
  go_wp2_with fail
  refine (markBookS_any _ _ _ _ _ z0 1 _ hX (by omega) (by omega) (by omega)).mono ?_
  rintro e v8 ⟨rfl, hN, hc⟩
  clear hX
  have hX := hN
  clear hN
  replace hW := hW.chg hc (by omega)
  replace hG := hG.chg hc (by omega)
  replace hT := hT.trans (hc.below (by omega) (by omega))
  have hz8 := hc.size
  clear hc
  clear hX
  go_wp2_with fail
  refine (eqIntS_any _ _ _ _ _ _ xs xs _ hG.ints hW.ints (by omega)).mono ?_
  rintro e v9 ⟨rfl, hb⟩
  replace hW := hW.below hb
  replace hG := hG.below hb
  replace hT := bt hT hb
  have hz9 := hb.size
  clear hb
  go_wp2_with fail
  refine (markIntS_any _ _ _ _ _ xs 1 _ hG (by omega) (by omega) (by omega)).mono ?_
  rintro e v10 ⟨rfl, hN, hc⟩
  clear hG
  have hG := hN
  clear hN
  replace hW := hW.chg hc (by omega)
  replace hT := hT.trans (hc.below (by omega) (by omega))
  have hz10 := hc.size
  clear hc
  go_wp2_with fail
  refine (heldIntS_any _ _ _ 1 _ hG.ints (by omega) (by omega) (by omega)).mono ?_
  rintro e v11 ⟨rfl, hb⟩
  replace hW := hW.below hb
  replace hG := hG.below hb
  replace hT := bt hT hb
  have hz11 := hb.size
  clear hb
  go_wp2_with fail
  refine (toBookS_any _ _ _ z0 _ (hA0.below hT) l0).mono ?_
  rintro e v12 ⟨ghS, rfl, _, hS, hB, hb⟩
  clear hB
  replace hW := hW.below hb
  replace hG := hG.below hb
  replace hT := bt hT hb
  have hz12 := hb.size
  clear hb
  go_wp2_with fail
  refine (C_i _ _ _ _ hS l0 (Nat.le_refl _)).mono ?_
  intro e v13 r
  obtain ⟨AhH, chH, rfl, hH, hb⟩ := r.own
  clear r
  replace hW := hW.below hb
  replace hG := hG.below hb
  replace hS := hS.below hb
  replace hT := bt hT hb
  have hz13 := hb.size
  clear hb
  clear hS
  go_wp2_with fail
  refine (eqIntS_any _ _ _ _ _ _ xs xs _ hH.ints hW.ints (by omega)).mono ?_
  rintro e v14 ⟨rfl, hb⟩
  replace hW := hW.below hb
  replace hG := hG.below hb
  replace hH := hH.below hb
  replace hT := bt hT hb
  have hz14 := hb.size
  clear hb
  go_wp2_with fail
  refine (heldIntS_any _ _ _ 1 _ hG.ints (by omega) (by omega) (by omega)).mono ?_
  rintro e v15 ⟨rfl, hb⟩
  replace hW := hW.below hb
  replace hG := hG.below hb
  replace hH := hH.below hb
  replace hT := bt hT hb
  have hz15 := hb.size
  clear hb
  go_wp2_with fail
  go_ret
  exact ⟨rfl, hT⟩
end Go.Proofs.Ytoiaggjjfahabaa
