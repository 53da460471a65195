/- The walk of laws.FnBooksValue. No condition. -/
import Derived.Test.YtjijaejlcbailaaDoorDSome
import Derived.Test.YtjijaejlcbailaaDoorLBVal
namespace Go.Proofs.YtjijaejlcbailaaDoor
open Go.RowKit
set_option linter.unusedVariables false
theorem vsum_bd {xs : List Quad} (h : ∀ q ∈ xs, 0 ≤ q.d ∧ q.d ≤ 99) : 0 ≤ vsum xs ∧ vsum xs ≤ 99 * xs.length := by
  induction xs with
  | nil => simp [vsum]
  | cons q xs ih =>
    have := ih (fun q hq => h q (List.mem_cons_of_mem _ hq))
    have hq := h q (List.mem_cons_self ..)
    show 0 ≤ q.d + vsum xs ∧ q.d + vsum xs ≤ _
    simp only [List.length_cons]
    omega
theorem vsum_take (xs : List Quad) (j : Nat) (hj : j < xs.length) : vsum (xs.take (j + 1)) = vsum (xs.take j) + (xs.getD j q0).d := by
  rw [List.take_succ_eq_append_getElem hj, vsum_append, List.getD_eq_getElem?_getD, List.getElem?_eq_getElem hj]
  simp [vsum]
theorem sub_val {qs : List Quad} (h : bsV qs = true) (s : Nat) : ∀ q ∈ subV qs s, 0 ≤ q.d ∧ q.d ≤ 99 := fun q hq => by
  obtain ⟨k, hk, e⟩ := mem_getD ((subV_sub qs s).subset hq)
  have := bs_at h k hk
  rw [e] at this; omega
theorem vEnd_bd {qs : List Quad} (h : bsV qs = true) : 0 ≤ vEnd qs ∧ vEnd qs ≤ 693 := by
  obtain ⟨s, _, _, e⟩ := value_some h
  have a := vsum_bd (sub_val h s)
  have b := subTo_len qs s qs.length
  have c := ((bsV_pw qs).1 h).1
  rw [← e]
  have : (subV qs s).length ≤ 7 := Nat.le_trans b c
  omega
set_option maxRecDepth 100000 in
theorem drawBooksValue_ok (A : Option Addr) (n cap : Nat) (zs : List Int) (w : World) (h : Nums .u8 w A n cap zs) (hn : n ≤ 1048576) :
    Calls Tryd.prog 50 #[.slice A n cap] w fun e w' => ∃ g k c qs, e = .returned (.slice (some ⟨g, 0, none⟩) k c) ∧ DB w (some ⟨g, 0, none⟩) k c qs w' := by
  go_enter Tryd.func50, Tryd.ntmps50
  go_wp2_with (first
    | (go_at_call 58; ((with_reducible refine (opN A n cap zs _ h hn).mono ?_); rintro e w1 ⟨rfl, hr, hb, hlt⟩; clear h))
    | (go_at_call 57; ((with_reducible refine (books_ok w.heap.size 9 _ _ hr ?_ ?_ ?_).mono ?_); (omega); (omega); (omega); rintro e w2 ⟨g, k, c, qs, rfl, hB, k1, k2, k3, k4, hr2, hs⟩; have hw := hb.trans hs.1; have hB2 := Lib.hid (hB _ (Stp.refl _ _)); clear hr hs hb hB)))
  go_ret
  exact ⟨_, _, _, qs, rfl, hB2.out, k1, k2, k3, k4, hw⟩
set_option maxRecDepth 100000 in
set_option maxHeartbeats 8000000 in
theorem FnBooksValue_walk (w : World) (A : Option Addr) (n cap : Nat) (zs : List Int) (h : Nums .u8 w A n cap zs) :
    Calls Tryd.prog 13 #[.slice A n cap] w fun e w' => e = .returned (.bool true) ∧ Below w.heap.size w w' := by
  go_enter Tryd.func13, Tryd.ntmps13
  by_cases hn : 1048576 < n
  · have hnb : decide (1048576 < n) = true := by simpa using hn
    clear h
    go_wp2
    go_ret
    exact ⟨rfl, by (repeat (first | exact Below.refl _ _ | assumption | refine Below.alloc ?_ (by first | omega | (simp; done) | (simp; omega)) _ | refine Below.drew ?_ | refine bdN ?_ _ | refine Below.setCell ?_ (by first | omega | (simp; done) | (simp; omega)) _))⟩
  · have hnb : decide (1048576 < n) = false := by simpa using hn
    go_upto_region 4 with (go_at_call 50; refine (drawBooksValue_ok A n cap zs _ h (by omega)).mono ?_; rintro E w1 ⟨g, k, c, qs, rfl, hB, h9, hkc, hcm, hq, hw⟩; clear h)
    clear hn hnb hq
    have hkl := hB.1
    obtain ⟨L, hL⟩ : ∃ L, bvalV qs = L := ⟨_, rfl⟩
    have F_i : ∀ w, Books w (some ⟨g, 0, none⟩) k qs → Calls Tryd.prog 51 #[.slice (some ⟨g, 0, none⟩) k c] w fun E w' => E = .returned (.int .i64 L) ∧ Below w.heap.size w w' := fun w h => by have := BooksValue_i _ k c qs w h (by omega) hkc; rw [hL] at this; exact this
    have F_s : ∀ w, Books w (some ⟨g, 0, none⟩) k qs → Calls Tryd.prog 52 #[.slice (some ⟨g, 0, none⟩) k c] w fun E w' => E = .returned (.int .i64 L) ∧ Below w.heap.size w w' := fun w h => by have := BooksValue_s _ k c qs w h (by omega); rw [hL] at this; exact this
    have HL := Lib.hid hL
    clear hL
    go_upto_if 20 with (first
      | (go_at_call 51; ((with_reducible refine (F_i _ hB).mono ?_); rintro E wk ⟨rfl, hb⟩; replace hB := hB.below hb; replace hw := bt hw hb; clear hb))
      | (go_at_call 52; ((with_reducible refine (F_s _ hB).mono ?_); rintro E wk ⟨rfl, hb⟩; replace hB := hB.below hb; replace hw := bt hw hb; clear hb)))
    clear F_i F_s
    cases hv : bsV qs
    · have e := HL.out
      unfold bvalV at e
      rw [if_neg (by rw [hv]; simp)] at e
      subst e
      clear HL hv
      go_wp2_with (go_at_call 18; ((with_reducible refine (alive_ok _).mono ?_); rintro E wk ⟨rfl, hb⟩; replace hw := bt hw hb; clear hb))
      go_ret
      exact ⟨rfl, hw⟩
    · have e := HL.out
      unfold bvalV at e
      rw [if_pos hv] at e
      have hLb := vEnd_bd hv
      have hle := value_le hv
      have hend := svTo_end hv
      have hk7 := ((bsV_pw qs).1 hv).1
      have hsv : Hid (∀ s, ∀ q ∈ subV qs s, 0 ≤ q.d ∧ q.d ≤ 99) := sub_val hv
      rw [e] at hLb hle hend
      rw [hkl] at hend hk7
      have hlb : decide (L < 0) = false := by simp; omega
      have HLE := Lib.hid hle
      have HEND := Lib.hid hend
      have HSV : Hid (∀ s, subTo qs s k = subV qs s) := fun s => by unfold subV; rw [hkl]
      clear HL hv e hle hend
      obtain ⟨P, hP⟩ : ∃ P : Nat, 2 ^ k = P := ⟨_, rfl⟩
      have hP1 : P ≤ 128 := by rw [← hP]; exact Nat.pow_le_pow_right (by omega) hk7
      rw [hP] at HEND
      have hsh : Hid (((2 : Int) ^ k) = (P : Int)) := by show _ = _; rw [← hP]; simp
      go_wp2
      go_loopw [5, 6] (fun f i wr => ∃ s : Nat, s ≤ P ∧ i = .int .i64 s ∧ f = .bool (svTo qs L s) ∧ Books wr (some ⟨g, 0, none⟩) k qs ∧ Below w.heap.size w wr) (fun _ i _ => P - (intOf i).toNat)
      case atStart => exact ⟨0, by omega, rfl, rfl, hB, hw⟩
      case round =>
        clear hB hw
        obtain ⟨s, hs, rfl, rfl, hB, hw⟩ := hrel
        by_cases hlt : s < P
        · have t0 : decide ((s : Int) < wrap64 (2 ^ k)) = true := by
            rw [hsh.out, show wrap64 (P : Int) = (P : Int) by unfold wrap64; omega]; simp; omega
          have hnx := show svTo qs L (s + 1) = (svTo qs L s || (decide (bmV (subV qs s) ≤ 1) && decide (vsum (subV qs s) = L))) from rfl
          have hle := HLE.out s
          have SB := fun w h => someBooks_ok (some ⟨g, 0, none⟩) k c qs s w h h9
          rw [HSV.out s] at SB
          have hd := hsv.out s
          obtain ⟨xs, hxs⟩ : ∃ xs, subV qs s = xs := ⟨_, rfl⟩
          rw [hxs] at SB hnx hle hd
          obtain ⟨F, hF⟩ : ∃ F, svTo qs L s = F := ⟨_, rfl⟩
          rw [hF] at hnx ⊢
          have HN := Lib.hid hnx
          have HLE2 := Lib.hid hle
          have HD := Lib.hid hd
          clear hxs hF hnx hle hd
          go_upto_region 14 with (go_at_call 53; ((with_reducible refine (SB _ hB).mono ?_); rintro E wk ⟨g2, m, c2, rfl, hX, hmk, hmc, hcm2, hb⟩; replace hB := hB.below hb; replace hw := bt hw hb; clear hb SB))
          have hml := hX.1
          go_wp2
          go_loopw [8, 9] (fun v i wx => ∃ j : Nat, j ≤ m ∧ i = .int .i64 j ∧ v = .int .i64 (vsum (xs.take j)) ∧ Books wx (some ⟨g, 0, none⟩) k qs ∧ Books wx (some ⟨g2, 0, none⟩) m xs ∧ Below w.heap.size w wx) (fun _ i _ => m - (intOf i).toNat)
          case atStart => exact ⟨0, by omega, rfl, rfl, hB, hX, hw⟩
          case round =>
            clear hB hX hw
            obtain ⟨j, hj, rfl, rfl, hB, hX, hw⟩ := hrel
            by_cases hlt2 : j < m
            · obtain ⟨nb, no, e, hnl, hnc⟩ := hX.2 (by omega)
              simp only [Option.some.injEq, Addr.mk.injEq, and_true] at e
              obtain ⟨rfl, rfl⟩ := e
              obtain ⟨r0, r1, r2, r3⟩ := hnc j hlt2
              rw [Nat.zero_add] at r0 r1 r2 r3
              have hs1 := vsum_take xs j (by omega)
              have vb := vsum_bd (xs := xs.take j) (fun q hq => HD.out q (List.mem_of_mem_take hq))
              have tl : (xs.take j).length ≤ 9 := by rw [List.length_take]; omega
              have qb := HD.out _ (getD_mem (k := j) (by omega))
              obtain ⟨q, hq⟩ : ∃ q, xs.getD j q0 = q := ⟨_, rfl⟩
              rw [hq] at r0 r1 r2 r3 hs1 qb
              obtain ⟨V, hV⟩ : ∃ V, vsum (xs.take j) = V := ⟨_, rfl⟩
              rw [hV] at hs1 vb ⊢
              have HS := Lib.hid hs1
              have i1 : (0 : Int) ≤ (j : Int) := by omega
              have i2 : (j : Int) < (m : Int) := by omega
              have vb2 : 0 ≤ V ∧ V ≤ 891 := by omega
              clear hs1 hq hV hnc vb tl
              go_wp2
              go_roundw
              case rel => exact ⟨j + 1, hlt2, by go_num, by rw [HS.out], hB, hX, hw⟩
              case measure => simp [intOf]; omega
            · obtain rfl : j = m := by omega
              have et : xs.take j = xs := List.take_of_length_le (by omega)
              rw [et]
              have B_i := fun w h => BooksMost_i (some ⟨g2, 0, none⟩) j c2 xs w h (by omega) hmc
              obtain ⟨B, hBm⟩ : ∃ B, bmV xs = B := ⟨_, rfl⟩
              obtain ⟨V, hV⟩ : ∃ V, vsum xs = V := ⟨_, rfl⟩
              have hN := HN.out
              have hl := HLE2.out
              rw [hBm] at B_i hN hl
              rw [hV] at hN hl ⊢
              have HN2 := Lib.hid hN
              clear hN HN HLE2 HD et hBm hV
              by_cases b1 : B ≤ 1
              · have tb : decide (B ≤ 1) = true := by simpa using b1
                have hl2 := hl b1
                have tg : decide (L < V) = false := by simp; omega
                cases F
                · by_cases ve : V = L
                  · have te : (V == L) = true := by simpa using ve
                    have te2 : decide (V = L) = true := by simpa using ve
                    clear hl hl2 ve
                    go_wp2_with (go_at_call 30; ((with_reducible refine (B_i _ hX).mono ?_); rintro E wk ⟨rfl, hb⟩; replace hB := hB.below hb; replace hX := hX.below hb; replace hw := bt hw hb; clear hb))
                    go_roundw
                    case rel => exact ⟨s + 1, hlt, by go_num, by rw [HN2.out, tb, te2]; rfl, hB, hw⟩
                    case measure => simp [intOf]; omega
                  · have te : (V == L) = false := by simpa using ve
                    have te2 : decide (V = L) = false := by simpa using ve
                    clear hl hl2 ve
                    go_wp2_with (go_at_call 30; ((with_reducible refine (B_i _ hX).mono ?_); rintro E wk ⟨rfl, hb⟩; replace hB := hB.below hb; replace hX := hX.below hb; replace hw := bt hw hb; clear hb))
                    go_roundw
                    case rel => exact ⟨s + 1, hlt, by go_num, by rw [HN2.out, tb, te2]; rfl, hB, hw⟩
                    case measure => simp [intOf]; omega
                · clear hl hl2
                  go_wp2_with (go_at_call 30; ((with_reducible refine (B_i _ hX).mono ?_); rintro E wk ⟨rfl, hb⟩; replace hB := hB.below hb; replace hX := hX.below hb; replace hw := bt hw hb; clear hb))
                  go_roundw
                  case rel => exact ⟨s + 1, hlt, by go_num, by rw [HN2.out, Bool.true_or], hB, hw⟩
                  case measure => simp [intOf]; omega
              · have tb : decide (B ≤ 1) = false := by simpa using b1
                clear hl
                cases F
                · go_wp2_with (go_at_call 30; ((with_reducible refine (B_i _ hX).mono ?_); rintro E wk ⟨rfl, hb⟩; replace hB := hB.below hb; replace hX := hX.below hb; replace hw := bt hw hb; clear hb))
                  go_roundw
                  case rel => exact ⟨s + 1, hlt, by go_num, by rw [HN2.out, tb]; rfl, hB, hw⟩
                  case measure => simp [intOf]; omega
                · go_wp2_with (go_at_call 30; ((with_reducible refine (B_i _ hX).mono ?_); rintro E wk ⟨rfl, hb⟩; replace hB := hB.below hb; replace hX := hX.below hb; replace hw := bt hw hb; clear hb))
                  go_roundw
                  case rel => exact ⟨s + 1, hlt, by go_num, by rw [HN2.out, Bool.true_or], hB, hw⟩
                  case measure => simp [intOf]; omega
        · obtain rfl : s = P := by omega
          have t0 : decide ((s : Int) < wrap64 (2 ^ k)) = false := by
            rw [hsh.out, show wrap64 (s : Int) = (s : Int) by unfold wrap64; omega]; simp
          rw [HEND.out]
          go_wp2
          go_ret
          exact ⟨rfl, hw⟩
end Go.Proofs.YtjijaejlcbailaaDoor
