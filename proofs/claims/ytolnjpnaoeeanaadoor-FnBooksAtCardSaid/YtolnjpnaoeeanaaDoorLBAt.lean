/- The draw of bookings and an hour, and the walk of laws.FnBooksAt. No condition. -/
import Derived.Test.YtolnjpnaoeeanaaDoorDBooks
import Derived.Test.YtolnjpnaoeeanaaDoorPBk
import Derived.Test.YtolnjpnaoeeanaaDoorAliveL
namespace Go.Proofs.YtolnjpnaoeeanaaDoor
open Go.RowKit
set_option linter.unusedVariables false
theorem op0 (A : Option Addr) (n cap : Nat) (zs : List Int) (w : World) (h : Nums .u8 w A n cap zs) (hn : n ≤ 1048576) :
    Calls Tryd.prog 53 #[.slice A n cap] w fun e w' => e = .returned (.pointer (some ⟨w.heap.size, 0, none⟩)) ∧ RB w' w.heap.size 0 ∧ Below w.heap.size w w' ∧ w.heap.size < w'.heap.size := op w.heap.size A n cap zs w h hn rfl
def DB (w : World) (A : Option Addr) (k c : Nat) (qs : List Quad) (w' : World) : Prop := Books w' A k qs ∧ k ≤ 9 ∧ k ≤ c ∧ c ≤ maxLen ∧ (∀ q ∈ qs, SmQ q) ∧ Below w.heap.size w w'
set_option maxRecDepth 100000 in
theorem drawBooksAt_ok (A : Option Addr) (n cap : Nat) (zs : List Int) (w : World) (h : Nums .u8 w A n cap zs) (hn : n ≤ 1048576) :
    Calls Tryd.prog 38 #[.slice A n cap] w fun e w' => ∃ g k c qs m, e = .returned (.tuple #[.slice (some ⟨g, 0, none⟩) k c, .int .i64 m]) ∧ DB w (some ⟨g, 0, none⟩) k c qs w' := by
  go_enter Tryd.func38, Tryd.ntmps38
  go_wp2_with (first
    | (go_at_call 53; ((with_reducible refine (op0 A n cap zs _ h hn).mono ?_); rintro e w1 ⟨rfl, hr, hb, hlt⟩; clear h))
    | (go_at_call 61; ((with_reducible refine (books_ok w.heap.size 9 _ _ hr ?_ ?_ ?_).mono ?_); (omega); (omega); (omega); rintro e w2 ⟨g, k, c, qs, rfl, hB, k1, k2, k3, k4, hr2, hs⟩; have hw := hb.trans hs.1; clear hr hs hb))
    | (go_at_call 58; ((with_reducible refine (pk w.heap.size _ _ _ hr2 ?_ ?_ ?_).mono ?_); (omega); (omega); (omega); rintro e w3 ⟨x, rfl, x1, x2, hr3, hs⟩; have hw2 := hw.trans hs.1; have hB2 := Lib.hid (hB _ hs); clear hr2 hs hB)))
  go_ret2
  exact ⟨_, _, _, qs, _, rfl, hB2.out, k1, k2, k3, k4, hw2⟩
set_option maxRecDepth 100000 in
set_option maxHeartbeats 2000000 in
theorem FnBooksAt_walk (w : World) (A : Option Addr) (n cap : Nat) (zs : List Int) (h : Nums .u8 w A n cap zs) :
    Calls Tryd.prog 10 #[.slice A n cap] w fun e w' => e = .returned (.bool true) ∧ Below w.heap.size w w' := by
  go_enter Tryd.func10, Tryd.ntmps10
  by_cases hn : 1048576 < n
  · have hnb : decide (1048576 < n) = true := by simpa using hn
    clear h
    go_wp2
    go_ret
    exact ⟨rfl, by (repeat (first | exact Below.refl _ _ | assumption | refine Below.alloc ?_ (by first | omega | (simp; done) | (simp; omega)) _ | refine Below.drew ?_ | refine bdN ?_ _ | refine Below.setCell ?_ (by first | omega | (simp; done) | (simp; omega)) _))⟩
  · have hnb : decide (1048576 < n) = false := by simpa using hn
    go_wp2_with (go_at_call 38; refine (drawBooksAt_ok A n cap zs _ h (by omega)).mono ?_; rintro E w1 ⟨g, k, c, qs, m, rfl, hB, h9, hkc, hcm, hq, hw⟩; clear h)
    clear hn hnb
    unfold maxLen at hcm
    have hl := hB.1
    obtain ⟨V, eV⟩ : ∃ V, baV qs m = V := ⟨_, rfl⟩
    have bV := baV_bd qs m
    rw [eV] at bV
    have F_i : ∀ w, Books w (some ⟨g, 0, none⟩) k qs → Calls Tryd.prog 28 #[.slice (some ⟨g, 0, none⟩) k c, .int .i64 m] w fun E w' => E = .returned (.int .i64 V) ∧ Below w.heap.size w w' := fun w h => by have := BooksAt_i _ k c qs m w h (by omega); rw [eV] at this; exact this
    have F_s : ∀ w, Books w (some ⟨g, 0, none⟩) k qs → Calls Tryd.prog 39 #[.slice (some ⟨g, 0, none⟩) k c, .int .i64 m] w fun E w' => E = .returned (.int .i64 V) ∧ Below w.heap.size w w' := fun w h => by have := BooksAt_s _ k c qs m w h (by omega); rw [eV] at this; exact this
    go_upto_region 8 with (first | (go_at_call 28; ((with_reducible refine (F_i _ hB).mono ?_); rintro E wk ⟨rfl, hb⟩; replace hB := hB.below hb; replace hw := bt hw hb; clear hb)) | (go_at_call 39; ((with_reducible refine (F_s _ hB).mono ?_); rintro E wk ⟨rfl, hb⟩; replace hB := hB.below hb; replace hw := bt hw hb; clear hb)))
    obtain ⟨hf, eh, hh⟩ : ∃ hf : Nat, (k : Int) / 2 = hf ∧ hf = k / 2 := ⟨k / 2, by omega, rfl⟩
    rw [eh]
    have hs := baV_split qs m hf
    have b1 := baV_bd (qs.take hf) m
    have b2 := baV_bd (qs.drop hf) m
    obtain ⟨V1, e1⟩ : ∃ V1, baV (qs.take hf) m = V1 := ⟨_, rfl⟩
    obtain ⟨V2, e2⟩ : ∃ V2, baV (qs.drop hf) m = V2 := ⟨_, rfl⟩
    rw [e1, e2, eV] at hs
    rw [e1] at b1
    rw [e2] at b2
    have hd1 : (qs.take hf).length ≤ 9 := by rw [List.length_take]; omega
    have hd2 : (qs.drop hf).length ≤ 9 := by rw [List.length_drop]; omega
    have F_1 : ∀ w, Books w (some ⟨g, 0, none⟩) k qs → Calls Tryd.prog 28 #[.slice (some ⟨g, 0, none⟩) hf c, .int .i64 m] w fun E w' => E = .returned (.int .i64 V1) ∧ Below w.heap.size w w' := fun w h => by have := BooksAt_i _ hf c (qs.take hf) m w (h.pre (by omega)) (by omega); rw [e1] at this; exact this
    have F_2 : ∀ w, Books w (some ⟨g, 0, none⟩) k qs → Calls Tryd.prog 28 #[.slice (some ⟨g, hf * 4, none⟩) (k - hf) (c - hf), .int .i64 m] w fun E w' => E = .returned (.int .i64 V2) ∧ Below w.heap.size w w' := fun w h => by have := BooksAt_i _ (k - hf) (c - hf) (qs.drop hf) m w (by have := h.drop (k := hf) (by omega); rwa [Nat.zero_add] at this) (by omega); rw [e2] at this; exact this
    have u1 : IntKind.i64.wrap (V1 + V2) = V := by rw [hs]; exact IntWalk.i64_in _ (by omega)
    have U1 := Lib.hid u1
    clear u1 e1 e2 hs eh F_i F_s eV
    go_cut [42] (fun v wx => v = .bool false ∧ Books wx (some ⟨g, 0, none⟩) k qs ∧ Below w.heap.size w wx)
    case first =>
      have i1 : (0 : Int) ≤ (hf : Int) := by omega
      have i2 : (hf : Int) ≤ (k : Int) := by omega
      have i3 : (hf : Int) ≤ (c : Int) := by omega
      have hBd : Books wk.drew (some ⟨g, 0, none⟩) k qs := hB.below (Below.refl _ _).drew
      have hwd : Below w.heap.size w wk.drew := hw.drew
      have hc0 : (c = 0 ∧ hf = 0 ∧ k = 0) ∨ ¬ c = hf ∧ ¬ hf = c := by omega
      clear hh
      have u1 := U1.out
      rcases hc0 with ⟨rfl, rfl, rfl⟩ | ⟨q1, q2⟩
      · clear i1 i2 i3 hd1 hd2 h9 hkc hcm
        go_region_held3 (fun _ => True) (trivial) (first
          | (go_at_call 28; ((with_reducible refine (F_1 _ hBd).mono ?_); rintro E wx ⟨rfl, hb⟩; have hB2 := hBd.below hb; have hw2 := bt hwd hb; clear hb))
          | (go_at_call 28; ((refine (F_2 _ hB2).mono ?_); rintro E wy ⟨rfl, hb⟩; have hB3 := hB2.below hb; have hw3 := bt hw2 hb; clear hb)))
        all_goals (go_wp2_with fail; go_meet; exact ⟨rfl, hB3, hw3⟩)
      · go_region_held3 (fun _ => True) (trivial) (first
          | (go_at_call 28; ((with_reducible refine (F_1 _ hBd).mono ?_); rintro E wx ⟨rfl, hb⟩; have hB2 := hBd.below hb; have hw2 := bt hwd hb; clear hb))
          | (go_at_call 28; ((with_reducible refine (F_2 _ hB2).mono ?_); rintro E wy ⟨rfl, hb⟩; have hB3 := hB2.below hb; have hw3 := bt hw2 hb; clear hb)))
        all_goals (go_wp2_with fail; go_meet; exact ⟨rfl, hB3, hw3⟩)
    case rest =>
      clear hB hw F_1 F_2
      obtain ⟨rfl, hB, hw⟩ := hcut
      clear hd1 hd2 hh U1 b1 b2 bV
      by_cases hv : bsV qs = true
      · obtain ⟨h7, hmem⟩ := bs_mem hv
        have hmem' : ∀ q ∈ qs, 0 ≤ q.b ∧ q.b < q.c ∧ q.c ≤ 30 := fun q hq => by have := hmem q hq; omega
        have hsd := sum_dur qs hmem'
        rw [hB.1] at h7
        have S_v : ∀ w, Books w (some ⟨g, 0, none⟩) k qs → Calls Tryd.prog 40 #[.slice (some ⟨g, 0, none⟩) k c] w fun E w' => E = .returned (.bool true) ∧ Below w.heap.size w w' := fun w h => by have := BooksValid_s _ k c qs w h (by omega); rw [hv] at this; exact this
        clear hv hmem
        have HM := Lib.hid hmem'
        have HD := Lib.hid hsd
        clear hmem' hsd hq
        go_wp2_with (go_at_call 40; ((with_reducible refine (S_v _ hB).mono ?_); rintro E wk ⟨rfl, hb⟩; replace hB := hB.below hb; replace hw := bt hw hb; clear hb))
        clear S_v
        go_loopw [7, 9] (fun s i wr => ∃ j : Nat, j ≤ 30 ∧ i = .int .i64 j ∧ s = .int .i64 (sumH qs j) ∧ Books wr (some ⟨g, 0, none⟩) k qs ∧ Below w.heap.size w wr) (fun _ i _ => 30 - (intOf i).toNat)
        case atStart => exact ⟨0, by omega, rfl, rfl, hB, hw⟩
        case round =>
          clear hB hw
          obtain ⟨j, hj, rfl, rfl, hB, hw⟩ := hrel
          have sb := sumH_bd qs j
          have vb := baV_bd qs (j : Int)
          rw [hl] at sb vb
          have sb2 : sumH qs j ≤ 270 := by
            have := Int.mul_le_mul (show (j : Int) ≤ 30 by omega) (show (k : Int) ≤ 9 by omega) (by omega) (by omega)
            omega
          have HL := Lib.hid hl
          by_cases hlt : j < 30
          · have HS : Hid (sumH qs (j + 1) = sumH qs j + baV qs j) := by show _ = _; rfl
            obtain ⟨X, eX⟩ : ∃ X, sumH qs j = X := ⟨_, rfl⟩
            obtain ⟨Y, eY⟩ : ∃ Y, baV qs (j : Int) = Y := ⟨_, rfl⟩
            have F_j : ∀ w, Books w (some ⟨g, 0, none⟩) k qs → Calls Tryd.prog 28 #[.slice (some ⟨g, 0, none⟩) k c, .int .i64 (j : Int)] w fun E w' => E = .returned (.int .i64 Y) ∧ Below w.heap.size w w' := fun w h => by have := BooksAt_i _ k c qs (j : Int) w h (by omega); rw [eY] at this; exact this
            rw [eX] at sb sb2 ⊢
            rw [eY] at vb
            have HX := Lib.hid eX
            have HY := Lib.hid eY
            clear eX eY hl sb
            have sb1 : 0 ≤ X := by have := (sumH_bd qs j).1; rw [HX.out] at this; exact this
            go_wp2_with (go_at_call 28; ((with_reducible refine (F_j _ hB).mono ?_); rintro E wk ⟨rfl, hb⟩; replace hB := hB.below hb; replace hw := bt hw hb; clear hb))
            go_roundw
            case rel => exact ⟨j + 1, by omega, by go_num, by rw [HS.out, HX.out, HY.out], hB, hw⟩
            case measure => simp [intOf]; omega
          · obtain rfl : j = 30 := by omega
            rw [HD.out]
            have db := durTo_bd HM.out qs.length (Nat.le_refl _)
            rw [hl] at db ⊢
            clear sb vb sb2 hl hlt
            go_wp2_with fail
            go_loopw [8, 10] (fun s i wr => ∃ j : Nat, j ≤ k ∧ i = .int .i64 j ∧ s = .int .i64 (durTo qs j) ∧ Books wr (some ⟨g, 0, none⟩) k qs ∧ Below w.heap.size w wr) (fun _ i _ => k - (intOf i).toNat)
            case atStart => exact ⟨0, by omega, rfl, rfl, hB, hw⟩
            case round =>
              clear hB hw
              obtain ⟨j, hj, rfl, rfl, hB, hw⟩ := hrel
              by_cases hlt : j < k
              · obtain ⟨b', off', ea, hbl, hcell⟩ := hB.2 (by omega)
                simp only [Option.some.injEq, Addr.mk.injEq, and_true] at ea
                obtain ⟨rfl, rfl⟩ := ea
                obtain ⟨_, c1, c2, _⟩ := hcell j hlt
                rw [Nat.zero_add] at c1 c2
                have hqm := HM.out _ (List.getElem_mem (show j < qs.length by rw [HL.out]; exact hlt))
                have e : qs.getD j q0 = qs[j]'(by rw [HL.out]; exact hlt) := by rw [List.getD_eq_getElem?_getD, List.getElem?_eq_getElem]; rfl
                rw [← e] at hqm
                have dbj := durTo_bd HM.out j (by rw [HL.out]; omega)
                have HS : Hid (durTo qs (j + 1) = durTo qs j + (qs.getD j q0).c - (qs.getD j q0).b) := by show _ = _; rfl
                obtain ⟨X, eX⟩ : ∃ X, durTo qs j = X := ⟨_, rfl⟩
                obtain ⟨Y, eY⟩ : ∃ Y, (qs.getD j q0).c = Y := ⟨_, rfl⟩
                obtain ⟨Z, eZ⟩ : ∃ Z, (qs.getD j q0).b = Z := ⟨_, rfl⟩
                rw [eX, eY, eZ] at HS
                rw [eX] at dbj ⊢
                rw [eY, eZ] at hqm
                rw [eZ] at c1
                rw [eY] at c2
                have HS' := HS
                clear eX eY eZ e hcell HS
                have dj : (j : Int) ≤ 9 := by omega
                have dj2 : X ≤ 270 := by omega
                have dj1 : 0 ≤ X := dbj.1
                clear dbj
                have u1 : IntKind.i64.wrap (X + Y) = X + Y := IntWalk.i64_in _ (by omega)
                have u2 : IntKind.i64.wrap (X + Y - Z) = X + Y - Z := IntWalk.i64_in _ (by omega)
                have j1 : (0 : Int) ≤ (j : Int) := by omega
                have j2 : (j : Int) < (k : Int) := by omega
                go_wp2_with fail
                go_quiet (fail)
                clear u1 u2
                go_wp2_with fail
                go_roundw
                case rel => exact ⟨j + 1, by omega, by go_num, by rw [HS'.out], hB.below (bdN (Below.refl _ _) _), bdN hw _⟩
                case measure => simp [intOf]; omega
              · obtain rfl : j = k := by omega
                go_wp2_with fail
                go_ret
                exact ⟨rfl, hw⟩
      · replace hv : bsV qs = false := by simpa using hv
        have S_v : ∀ w, Books w (some ⟨g, 0, none⟩) k qs → Calls Tryd.prog 40 #[.slice (some ⟨g, 0, none⟩) k c] w fun E w' => E = .returned (.bool false) ∧ Below w.heap.size w w' := fun w h => by have := BooksValid_s _ k c qs w h (by omega); rw [hv] at this; exact this
        clear hv
        go_wp2_with (first | (go_at_call 40; ((with_reducible refine (S_v _ hB).mono ?_); rintro E wk ⟨rfl, hb⟩; replace hB := hB.below hb; replace hw := bt hw hb; clear hb)) | (go_at_call 18; ((with_reducible refine (alive_ok _).mono ?_); rintro E wk ⟨rfl, hb⟩; replace hw := bt hw hb; clear hb)))
        all_goals (go_ret; exact ⟨rfl, hw⟩)
end Go.Proofs.YtolnjpnaoeeanaaDoor
