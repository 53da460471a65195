/- The walk of laws.FnBooksMost. No condition. -/
import Derived.Test.YtjijaejlcbailaaDoorLBVal
import Derived.Test.YtjijaejlcbailaaDoorPSub
import Derived.Test.YtjijaejlcbailaaDoorBMost
import Derived.Test.YtjijaejlcbailaaDoorNews
import Derived.Test.YtjijaejlcbailaaDoorAliveL
import Derived.Deep.RegionLaw
namespace Go.Proofs.YtjijaejlcbailaaDoor
open Go.RowKit
set_option linter.unusedVariables false
theorem Books.takes {w : World} {A : Option Addr} {n j : Nat} {qs : List Quad} (h : Books w A n qs) (hj : j ≤ n) : Books w A j (qs.take j) := by
  refine ⟨by rw [List.length_take, h.1]; omega, fun hn => ?_⟩
  obtain ⟨b, off, e, hlt, hc⟩ := h.2 (by omega)
  refine ⟨b, off, e, hlt, fun i hi => ?_⟩
  have e2 : (qs.take j).getD i q0 = qs.getD i q0 := by rw [List.getD_eq_getElem?_getD, List.getD_eq_getElem?_getD, List.getElem?_take, if_pos hi]
  rw [e2]; exact hc i (by omega)
theorem own_slice {w : World} {base e n : Nat} {v : Value} {qs : List Quad} (h : w.ownsRow base e 4 v n (qs.flatMap Quad.cells)) (hq : qs.length = n) : ∃ A c, v = .slice A n c ∧ n ≤ c ∧ Books w A n qs := by
  rcases Nat.eq_zero_or_pos n with h0 | h0
  · subst h0
    rcases h.2 with ⟨e1, e2⟩ | ⟨g, cap, cur, e1, _, _, e2, _⟩
    · exact ⟨none, 0, e1, Nat.le_refl _, hq, fun g => absurd g (by omega)⟩
    · exact ⟨_, cap, e1, e2, hq, fun g => absurd g (by omega)⟩
  · obtain ⟨g, c, rfl, _, _, e3, _⟩ := own_at h h0
    exact ⟨_, c, rfl, e3, own_books h hq⟩
set_option maxRecDepth 100000 in
theorem drawBooksMost_ok (A : Option Addr) (n cap : Nat) (zs : List Int) (w : World) (h : Nums .u8 w A n cap zs) (hn : n ≤ 1048576) :
    Calls Tryd.prog 29 #[.slice A n cap] w fun e w' => ∃ g k c qs, e = .returned (.slice (some ⟨g, 0, none⟩) k c) ∧ DB w (some ⟨g, 0, none⟩) k c qs w' := by
  go_enter Tryd.func29, Tryd.ntmps29
  go_wp2_with (first
    | (go_at_call 58; ((with_reducible refine (opN A n cap zs _ h hn).mono ?_); rintro e w1 ⟨rfl, hr, hb, hlt⟩; clear h))
    | (go_at_call 57; ((with_reducible refine (books_ok w.heap.size 9 _ _ hr ?_ ?_ ?_).mono ?_); (omega); (omega); (omega); rintro e w2 ⟨g, k, c, qs, rfl, hB, k1, k2, k3, k4, hr2, hs⟩; have hw := hb.trans hs.1; have hB2 := Lib.hid (hB _ (Stp.refl _ _)); clear hr hs hb hB)))
  go_ret
  exact ⟨_, _, _, qs, rfl, hB2.out, k1, k2, k3, k4, hw⟩
theorem bm_neg {qs : List Quad} (h : bmV qs < 0) : bmV qs = -1 := by
  unfold bmV at h ⊢
  split at h
  · have := bmTo_bd qs 30; omega
  · rename_i g; rw [if_neg g]
theorem bm_yes {qs : List Quad} (h : 0 ≤ bmV qs) : bsV qs = true ∧ bmV qs = bmTo qs 30 := by
  unfold bmV at h ⊢
  split at h
  · rename_i g; exact ⟨g, by rw [if_pos g]⟩
  · omega
theorem ba_le {qs : List Quad} (h : Nat) (hh : h < 30) : baV qs h ≤ bmTo qs 30 := (bmTo_spec qs 30).1 h hh
set_option maxRecDepth 100000 in
set_option maxHeartbeats 8000000 in
theorem FnBooksMost_walk (w : World) (A : Option Addr) (n cap : Nat) (zs : List Int) (h : Nums .u8 w A n cap zs) :
    Calls Tryd.prog 7 #[.slice A n cap] w fun e w' => e = .returned (.bool true) ∧ Below w.heap.size w w' := by
  obtain ⟨i0, hi, ia, ib, ic⟩ := info_parts infoB
  go_enter Tryd.func7, Tryd.ntmps7
  by_cases hn : 1048576 < n
  · have hnb : decide (1048576 < n) = true := by simpa using hn
    clear h
    go_wp2
    go_ret
    exact ⟨rfl, by (repeat (first | exact Below.refl _ _ | assumption | refine Below.alloc ?_ (by first | omega | (simp; done) | (simp; omega)) _ | refine Below.drew ?_ | refine bdN ?_ _ | refine Below.setCell ?_ (by first | omega | (simp; done) | (simp; omega)) _))⟩
  · have hnb : decide (1048576 < n) = false := by simpa using hn
    go_upto_region 4 with (go_at_call 29; refine (drawBooksMost_ok A n cap zs _ h (by omega)).mono ?_; rintro E w1 ⟨g, k, c, qs, rfl, hB, h9, hkc, hcm, hq, hw⟩; clear h)
    clear hn hnb hq
    have hkl := hB.1
    obtain ⟨L, hL⟩ : ∃ L, bmV qs = L := ⟨_, rfl⟩
    have F_i : ∀ w, Books w (some ⟨g, 0, none⟩) k qs → Calls Tryd.prog 30 #[.slice (some ⟨g, 0, none⟩) k c] w fun E w' => E = .returned (.int .i64 L) ∧ Below w.heap.size w w' := fun w h => by have := BooksMost_i _ k c qs w h (by omega) hkc; rw [hL] at this; exact this
    have F_s : ∀ w, Books w (some ⟨g, 0, none⟩) k qs → Calls Tryd.prog 31 #[.slice (some ⟨g, 0, none⟩) k c] w fun E w' => E = .returned (.int .i64 L) ∧ Below w.heap.size w w' := fun w h => by have := BooksMost_s _ k c qs w h (by omega); rw [hL] at this; exact this
    have HL := Lib.hid hL
    clear hL
    go_upto_if 19 with (first
      | (go_at_call 30; ((with_reducible refine (F_i _ hB).mono ?_); rintro E wk ⟨rfl, hb⟩; replace hB := hB.below hb; replace hw := bt hw hb; clear hb))
      | (go_at_call 31; ((with_reducible refine (F_s _ hB).mono ?_); rintro E wk ⟨rfl, hb⟩; replace hB := hB.below hb; replace hw := bt hw hb; clear hb)))
    clear F_i F_s
    by_cases hl : L < 0
    · have e := bm_neg (qs := qs) (by rw [HL.out]; exact hl)
      rw [HL.out] at e
      subst e
      clear HL
      go_wp2_with (go_at_call 18; ((with_reducible refine (alive_ok _).mono ?_); rintro E wk ⟨rfl, hb⟩; replace hw := bt hw hb; clear hb))
      go_ret
      exact ⟨rfl, hw⟩
    · have hlb : decide (L < 0) = false := by simpa using hl
      obtain ⟨hv, hbm⟩ := bm_yes (qs := qs) (by rw [HL.out]; omega)
      rw [HL.out] at hbm
      have hbb := bmTo_bd qs 30
      have hend := someM_end qs
      have hle : Hid (∀ h : Nat, h < 30 → baV qs h ≤ L) := fun h hh => by rw [hbm]; exact ba_le h hh
      have hr : Hid (∀ j, j < k → bmV (rmv qs j) = L ∨ bmV (rmv qs j) = L - 1) := fun j hj => by have := bm_rmv hv j (by omega); rw [HL.out] at this; exact this
      rw [← hbm] at hbb hend
      have HEND := Lib.hid hend
      have hL9 : L ≤ 9 := by omega
      clear HL hv hbm hbb hend
      go_wp2
      go_loopw [5] (fun i wr => ∃ j : Nat, j ≤ k ∧ i = .int .i64 j ∧ Books wr (some ⟨g, 0, none⟩) k qs ∧ Below w.heap.size w wr) (fun i _ => k - (intOf i).toNat)
      case atStart => exact ⟨0, by omega, rfl, hB, hw⟩
      case round =>
        clear hB hw
        obtain ⟨j, hj, rfl, hB, hw⟩ := hrel
        by_cases hlt : j < k
        · have hrj := hr.out j hlt
          obtain ⟨Y, hY⟩ : ∃ Y, bmV (rmv qs j) = Y := ⟨_, rfl⟩
          have RM := fun A c' w h hc => BooksMost_i A (k - 1) c' (rmv qs j) w h (by omega) hc
          rw [hY] at hrj RM
          have hrl : (rmv qs j).length = k - 1 := by unfold rmv; rw [List.length_append, List.length_take, List.length_drop]; omega
          have hrc : (rmv qs j).flatMap Quad.cells = (qs.take j).flatMap Quad.cells ++ (qs.drop (j + 1)).flatMap Quad.cells := by unfold rmv; rw [List.flatMap_append]
          have hBd : Books wr.drew (some ⟨g, 0, none⟩) k qs := hB.below (Below.refl _ _).drew
          have hwd : Below w.heap.size w wr.drew := hw.drew
          have hTk := hBd.takes (j := j) (by omega)
          have hwz : w.heap.size ≤ wr.drew.heap.size := hwd.size
          have i1 : (0 : Int) ≤ (j : Int) := by omega
          have i2 : (j : Int) ≤ (c : Int) := by omega
          obtain ⟨j1, hj1⟩ : ∃ j1, j1 = j + 1 := ⟨_, rfl⟩
          have i3 : (0 : Int) ≤ (j1 : Int) := by omega
          have i4 : (j1 : Int) ≤ (k : Int) := by omega
          have u1 : IntKind.i64.wrap ((j : Int) + 1) = (j1 : Int) := by rw [show (j : Int) + 1 = (j1 : Int) by omega]; exact IntWalk.i64_in _ (by omega)
          have hjk : j1 ≤ k := by omega
          have i5 : (k : Int) ≤ (c : Int) := by omega
          have HRL := Lib.hid hrl
          have HRC := Lib.hid hrc
          have HY := Lib.hid hrj
          have HJ := Lib.hid hj1
          clear hrl hrc hY hrj hj1
          by_cases hcj : c = j1
          · subst hcj
            obtain rfl : k = c := by omega
            go_upto_region 12 with fail
            go_region_held3 (fun _ => True) (trivial) (first
              | (refine step_append_own (by rfl) (.tmp 33) (.tmp 36) 23 rfl wr.drew.heap.size 28 i0 (.agg #[.int .i64 0, .int .i64 0, .int .i64 0, .int .i64 0]) 4 32 Tryd.underlying23 hi ia ib ic rfl (by decide) _ _ _ (by rfl) (own_new0q wr.drew wr.drew.heap.size 28 4 (Nat.le_refl _)) ⟨g, 0, none⟩ j k ((qs.take j).flatMap Quad.cells) (by rfl) ?_ ?_ ?_ ?_ ?_ ?_ ?_; (rw [len_cells, hTk.1]); (exact books_news (hTk.below ((Below.refl _ _).alloc (Nat.le_refl _) _))); (exact one_cells _); (unfold maxLen; omega); (omega); (simp); (intro v1 w1 hown1 hgrow _; have HO := Lib.hid hown1; have b1 : Below wr.drew.heap.size wr.drew w1 := ((Below.refl _ _).alloc (Nat.le_refl _) _).grown hgrow (by simp) (fun q hq => by simp [Value.ownBlock] at hq ⊢; omega); have hB1 := hBd.below b1; clear hown1 hgrow))
              | (refine step_append_own (by rfl) (.tmp 37) (.tmp 41) 23 rfl wr.drew.heap.size 28 i0 (.agg #[.int .i64 0, .int .i64 0, .int .i64 0, .int .i64 0]) 4 32 Tryd.underlying23 hi ia ib ic rfl (by decide) _ _ _ (by rfl) HO.out ⟨g, 0, none⟩ 0 0 ((qs.drop k).flatMap Quad.cells) (by rfl) ?_ ?_ ?_ ?_ ?_ ?_ ?_; (rw [len_cells, List.length_drop, hkl]; omega); (intro a b hab; rw [List.drop_eq_nil_of_le (by omega)] at hab; simp at hab); (exact one_cells _); (unfold maxLen; omega); (omega); (exact b1.size); (intro v2 w2 hown2 hgrow _; have hR : w2.ownsRow wr.drew.heap.size 28 4 v2 (k - 1) ((rmv qs j).flatMap Quad.cells) := (by rw [HRC.out, ← HJ.out]; have := hown2; rw [show 0 + j + 0 = k - 1 by have := HJ.out; omega] at this; simpa using this); obtain ⟨A2, c2, rfl, hc2, hB2⟩ := own_slice hR HRL.out; have b2 : Below wr.drew.heap.size wr.drew w2 := b1.grown hgrow b1.size (fun q hq => (HO.out.lt q hq).1); have HB2 := Lib.hid hB2; have HC2 := Lib.hid hc2; clear hown2 hgrow hR))
              | (go_at_call 30; ((with_reducible refine (RM _ _ _ HB2.out HC2.out).mono ?_); rintro E w3 ⟨rfl, hb3⟩; have b3 := bt b2 hb3)))
            all_goals
              rcases HY.out with rfl | rfl
              · go_wp2_with fail
                go_roundw
                case rel => exact ⟨k, hjk, rfl, hBd.below b3, bt hwd b3⟩
                case measure => simp [intOf]; have := HJ.out; omega
              · have t1 : (L - 1 == L) = false := by simp <;> omega
                have t2 : IntKind.i64.wrap (L - 1) = L - 1 := IntWalk.i64_in _ (by omega)
                go_wp2_with fail
                go_roundw
                case rel => exact ⟨k, hjk, rfl, hBd.below b3, bt hwd b3⟩
                case measure => simp [intOf]; have := HJ.out; omega
          · go_upto_region 12 with fail
            go_region_held3 (fun _ => True) (trivial) (first
              | (refine step_append_own (by rfl) (.tmp 33) (.tmp 36) 23 rfl wr.drew.heap.size 28 i0 (.agg #[.int .i64 0, .int .i64 0, .int .i64 0, .int .i64 0]) 4 32 Tryd.underlying23 hi ia ib ic rfl (by decide) _ _ _ (by rfl) (own_new0q wr.drew wr.drew.heap.size 28 4 (Nat.le_refl _)) ⟨g, 0, none⟩ j c ((qs.take j).flatMap Quad.cells) (by rfl) ?_ ?_ ?_ ?_ ?_ ?_ ?_; (rw [len_cells, hTk.1]); (exact books_news (hTk.below ((Below.refl _ _).alloc (Nat.le_refl _) _))); (exact one_cells _); (unfold maxLen; omega); (omega); (simp); (intro v1 w1 hown1 hgrow _; have HO := Lib.hid hown1; have b1 : Below wr.drew.heap.size wr.drew w1 := ((Below.refl _ _).alloc (Nat.le_refl _) _).grown hgrow (by simp) (fun q hq => by simp [Value.ownBlock] at hq ⊢; omega); have hB1 := hBd.below b1; clear hown1 hgrow))
              | (refine step_append_own (by rfl) (.tmp 37) (.tmp 41) 23 rfl wr.drew.heap.size 28 i0 (.agg #[.int .i64 0, .int .i64 0, .int .i64 0, .int .i64 0]) 4 32 Tryd.underlying23 hi ia ib ic rfl (by decide) _ _ _ (by rfl) HO.out ⟨g, j1 * 4, none⟩ (k - j1) (c - j1) ((qs.drop j1).flatMap Quad.cells) (by rfl) ?_ ?_ ?_ ?_ ?_ ?_ ?_; (rw [len_cells, List.length_drop, hkl]); (exact books_news (by have := hB1.drop hjk; rwa [Nat.zero_add] at this)); (exact one_cells _); (unfold maxLen; omega); (omega); (exact b1.size); (intro v2 w2 hown2 hgrow _; have hR : w2.ownsRow wr.drew.heap.size 28 4 v2 (k - 1) ((rmv qs j).flatMap Quad.cells) := (by rw [HRC.out, ← HJ.out]; have := hown2; rw [show 0 + j + (k - j1) = k - 1 by have := HJ.out; omega] at this; simpa using this); obtain ⟨A2, c2, rfl, hc2, hB2⟩ := own_slice hR HRL.out; have b2 : Below wr.drew.heap.size wr.drew w2 := b1.grown hgrow b1.size (fun q hq => (HO.out.lt q hq).1); have HB2 := Lib.hid hB2; have HC2 := Lib.hid hc2; clear hown2 hgrow hR))
              | (go_at_call 30; ((with_reducible refine (RM _ _ _ HB2.out HC2.out).mono ?_); rintro E w3 ⟨rfl, hb3⟩; have b3 := bt b2 hb3)))
            all_goals
              rcases HY.out with rfl | rfl
              · go_wp2_with fail
                go_roundw
                case rel => exact ⟨j1, hjk, rfl, hBd.below b3, bt hwd b3⟩
                case measure => simp [intOf]; have := HJ.out; omega
              · have t1 : (L - 1 == L) = false := by simp <;> omega
                have t2 : IntKind.i64.wrap (L - 1) = L - 1 := IntWalk.i64_in _ (by omega)
                go_wp2_with fail
                go_roundw
                case rel => exact ⟨j1, hjk, rfl, hBd.below b3, bt hwd b3⟩
                case measure => simp [intOf]; have := HJ.out; omega
        · obtain rfl : j = k := by omega
          go_wp2
          go_loopw [7, 8] (fun f i wx => ∃ h : Nat, h ≤ 30 ∧ i = .int .i64 h ∧ f = .bool (someM qs L h) ∧ Books wx (some ⟨g, 0, none⟩) j qs ∧ Below w.heap.size w wx) (fun _ i _ => 30 - (intOf i).toNat)
          case atStart => exact ⟨0, by omega, rfl, by simp [someM, Bool.beq_eq_decide_eq], hB, hw⟩
          case round =>
            clear hB hw
            obtain ⟨h, hh, rfl, rfl, hB, hw⟩ := hrel
            by_cases hlt2 : h < 30
            · have hnx := show someM qs L (h + 1) = (someM qs L h || decide (baV qs h = L)) from rfl
              have hb0 := hle.out h hlt2
              have K := fun w hh => BooksAt_i (some ⟨g, 0, none⟩) j c qs (h : Int) w hh (by omega)
              obtain ⟨B, hBm⟩ : ∃ B, baV qs h = B := ⟨_, rfl⟩
              obtain ⟨F, hF⟩ : ∃ F, someM qs L h = F := ⟨_, rfl⟩
              rw [hBm] at hnx hb0 K
              rw [hF] at hnx ⊢
              have HN := Lib.hid hnx
              have tg : decide (L < B) = false := by simp; omega
              clear hnx hF hBm
              cases F
              · by_cases be : B = L
                · have te : (B == L) = true := by simpa using be
                  have te2 : decide (B = L) = true := by simpa using be
                  clear be hb0
                  go_wp2_with (go_at_call 32; ((with_reducible refine (K _ hB).mono ?_); rintro E wk ⟨rfl, hb⟩; replace hB := hB.below hb; replace hw := bt hw hb; clear hb))
                  go_roundw
                  case rel => exact ⟨h + 1, hlt2, by go_num, by rw [HN.out, te2]; rfl, hB, hw⟩
                  case measure => simp [intOf]; omega
                · have te : (B == L) = false := by simpa using be
                  have te2 : decide (B = L) = false := by simpa using be
                  clear be hb0
                  go_wp2_with (go_at_call 32; ((with_reducible refine (K _ hB).mono ?_); rintro E wk ⟨rfl, hb⟩; replace hB := hB.below hb; replace hw := bt hw hb; clear hb))
                  go_roundw
                  case rel => exact ⟨h + 1, hlt2, by go_num, by rw [HN.out, te2]; rfl, hB, hw⟩
                  case measure => simp [intOf]; omega
              · go_wp2_with (go_at_call 32; ((with_reducible refine (K _ hB).mono ?_); rintro E wk ⟨rfl, hb⟩; replace hB := hB.below hb; replace hw := bt hw hb; clear hb))
                go_roundw
                case rel => exact ⟨h + 1, hlt2, by go_num, by rw [HN.out, Bool.true_or], hB, hw⟩
                case measure => simp [intOf]; omega
            · obtain rfl : h = 30 := by omega
              rw [HEND.out]
              go_wp2
              go_ret
              exact ⟨rfl, hw⟩
end Go.Proofs.YtjijaejlcbailaaDoor
