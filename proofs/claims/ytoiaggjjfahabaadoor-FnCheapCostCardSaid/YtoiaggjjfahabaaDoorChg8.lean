/- RateIn, CutUnits, MostUnits, TightHours, Enough of the reference: what they compute. Conditions: short lists of small numbers. -/
import Derived.Test.YtoiaggjjfahabaaDoorChg5
namespace Go.Proofs.YtoiaggjjfahabaaDoor
open Go.RowKit
set_option linter.unusedVariables false
theorem test_shr (s k : Nat) : (Int.tmod ((s : Int) / 2 ^ k) 2 == 1) = s.testBit k ∧ (Int.tmod ((s : Int) / 2 ^ k) 2 == 0) = (!s.testBit k) ∧ ((s : Int) / 2 ^ k % 2 == 1) = s.testBit k ∧ ((s : Int) / 2 ^ k % 2 == 0) = (!s.testBit k) := by
  have e : (s : Int) / 2 ^ k = ((s / 2 ^ k : Nat) : Int) := by rw [Int.natCast_ediv, Int.natCast_pow]; rfl
  rw [e, Nat.testBit_eq_decide_div_mod_eq]
  generalize s / 2 ^ k = Q
  have h2 : Int.tmod (Q : Int) 2 = (Q : Int) % 2 := Int.tmod_eq_emod_of_nonneg (by omega)
  rw [h2]
  by_cases h : Q % 2 = 1
  · have h3 : (Q : Int) % 2 = 1 := by omega
    rw [h3]; simp [h]
  · have h3 : (Q : Int) % 2 = 0 := by omega
    rw [h3]; simp [h]
theorem RateIn_s (f t r u h : Int) (w : World) (hf : -1000000 ≤ f ∧ f ≤ 1000000) :
    Calls Tryd.prog 67 #[.agg #[.int .i64 f, .int .i64 t, .int .i64 r, .int .i64 u], .int .i64 h] w fun e w' => e = .returned (.int .i64 (rin f t r u h)) ∧ Below w.heap.size w w' := by
  obtain ⟨V, hV⟩ : ∃ V, nv f t r u = V := ⟨_, rfl⟩
  have C := fun w => NeedValid_s f t r u w (by omega)
  rw [hV] at C
  unfold rin
  rw [hV]
  clear hV
  go_enter Tryd.func67, Tryd.ntmps67
  cases V
  · go_wp2_with (go_at_call 96; refine (C _).mono ?_; rintro e w1 ⟨rfl, hb1⟩)
    go_ret
    exact ⟨rfl, bt (by (repeat (first | exact Below.refl _ _ | assumption | refine Below.alloc ?_ (by first | omega | (simp; done) | (simp; omega)) _ | refine Below.drew ?_ | refine bdN ?_ _ | refine Below.setCell ?_ (by first | omega | (simp; done) | (simp; omega)) _))) hb1⟩
  · go_wp2_with (go_at_call 96; refine (C _).mono ?_; rintro e w1 ⟨rfl, hb1⟩; have hB := (Blk.new w 84 #[.int .i64 f, .int .i64 t, .int .i64 r, .int .i64 u]).below hb1 (by simp); have c0 := hB.cell 0; have c1 := hB.cell 1; have c2 := hB.cell 2; simp at c0 c1 c2)
    all_goals
      go_ret
      refine ⟨ret_int ?_, bt (by (repeat (first | exact Below.refl _ _ | assumption | refine Below.alloc ?_ (by first | omega | (simp; done) | (simp; omega)) _ | refine Below.drew ?_ | refine bdN ?_ _ | refine Below.setCell ?_ (by first | omega | (simp; done) | (simp; omega)) _))) hb1⟩
      first
      | (simp; done)
      | (simp; omega)
/-- the first fields of needs are small -/
theorem smA_of {qs : List Quad} (h : nsV qs = true) : SmA qs := fun i => by
  by_cases hi : i < qs.length
  · have := (ns_at h).2 i hi; omega
  · rw [getD_big _ _ _ (by omega)]; simp [q0]
set_option maxHeartbeats 2000000 in
theorem CutUnits_s_yes (A C : Option Addr) (n c1 c2 : Nat) (qs : List Quad) (cs : List Int) (s : Nat) (w : World) (h : Books w A n qs) (hC : Ints w C 6 cs) (hv1 : nsV qs = true) (hv2 : fvV cs = true) (hs : s < 64) :
    Calls Tryd.prog 97 #[.slice A n c1, .slice C 6 c2, .int .i64 s] w fun e w' => e = .returned (.int .i64 (cutV (usL qs) (rssL qs) cs s)) ∧ Below w.heap.size w w' := by
  have hn5 := (ns_at hv1).1
  have hlen := h.1
  rw [hlen] at hn5
  have C1 : ∀ w, Books w A n qs → Calls Tryd.prog 59 #[.slice A n c1] w fun e w' => e = .returned (.bool true) ∧ Below w.heap.size w w' := fun w h => by have := NeedsValid_s A n c1 qs w h (by omega) (smA_of hv1); rw [hv1] at this; exact this
  have C2 : ∀ w, Ints w C 6 cs → Calls Tryd.prog 60 #[.slice C 6 c2] w fun e w' => e = .returned (.bool true) ∧ Below w.heap.size w w' := fun w h => by have := FeedValid_s C 6 c2 cs w h (by omega); rw [hv2] at this; exact this
  have hr : inR (s : Int) 0 63 = true := inR_yes (by omega)
  have HV1 := Lib.hid hv1
  have bc := fv_Bd hv2
  have bu := us_Bd hv1
  have br := rs_Bd hv1
  clear hv1 hv2
  go_enter Tryd.func97, Tryd.ntmps97
  go_wp2_with (first
    | (go_at_call 59; refine (C1 _ h).mono ?_; rintro e w1 ⟨rfl, hb1⟩; replace h := h.below hb1; replace hC := hC.below hb1; clear C1)
    | (go_at_call 60; refine (C2 _ hC).mono ?_; rintro e w2 ⟨rfl, hb2⟩; replace h := h.below hb2; replace hC := hC.below hb2; clear C2)
    | (go_at_call 44; refine (l1In_any _ _ _ _).mono ?_; rintro e w3 ⟨rfl, rfl⟩))
  have hw := bt hb1 hb2
  clear hr hb1 hb2
  go_loopw [7, 8] (fun v i wr => ∃ k : Nat, k ≤ 6 ∧ i = .int .i64 k ∧ v = .int .i64 (cFeed cs s k) ∧ Below w2.heap.size w2 wr) (fun _ i _ => 6 - (intOf i).toNat)
  case atStart => exact ⟨0, by omega, rfl, rfl, by (repeat (first | exact Below.refl _ _ | assumption | refine Below.alloc ?_ (by first | omega | (simp; done) | (simp; omega)) _ | refine Below.drew ?_ | refine bdN ?_ _ | refine Below.setCell ?_ (by first | omega | (simp; done) | (simp; omega)) _))⟩
  case round =>
    obtain ⟨k, hk, rfl, rfl, hb⟩ := hrel
    by_cases hlt : k < 6
    · obtain ⟨b, off, rfl, hbl, hc⟩ := hC.2 (by omega)
      have c1 : wr.cell? ⟨b, off + k, none⟩ = some (.int .i64 (cs.getD k 0)) := (hb.cell (p := ⟨b, off + k, none⟩) hbl).trans (hc k hlt)
      have bd := cFeed_bd bc s k
      have bk := bc k
      have hs1 := show cFeed cs s (k + 1) = cFeed cs s k + (if s.testBit k then cs.getD k 0 else 0) from rfl
      generalize cFeed cs s k = F at *
      generalize cs.getD k 0 = z at *
      have an := test_shr s k
      have HB := Lib.hid hb
      clear hc hb
      cases hbit : s.testBit k
      · rw [hbit] at hs1 an
        obtain ⟨an1, an2, an3, an4⟩ := an
        simp at hs1
        have HS := Lib.hid hs1
        clear hs1
        go_wp2
        go_roundw
        case rel => exact ⟨k + 1, hlt, by go_num, by rw [HS.out], HB.out⟩
        case measure => simp [intOf]; omega
      · rw [hbit] at hs1 an
        obtain ⟨an1, an2, an3, an4⟩ := an
        simp at hs1
        have HS := Lib.hid hs1
        clear hs1
        go_wp2
        go_roundw
        case rel => exact ⟨k + 1, hlt, by go_num, by rw [HS.out], HB.out⟩
        case measure => simp [intOf]; omega
    · obtain rfl : k = 6 := by omega
      replace hw := bt hw hb
      replace h := h.below hb
      clear hC hb
      obtain ⟨wo, rfl⟩ : ∃ wo : World, wo = wr := ⟨_, rfl⟩
      obtain ⟨F, hF⟩ : ∃ F, cFeed cs s 6 = F := ⟨_, rfl⟩
      have F6 := cFeed_bd bc s 6
      rw [hF] at F6 ⊢
      have HF := Lib.hid hF
      clear hF
      go_wp2
      go_loopw [7, 9] (fun v i wx => ∃ k : Nat, k ≤ n ∧ i = .int .i64 k ∧ v = .int .i64 (F + cCars (usL qs) (rssL qs) s k) ∧ Below wo.heap.size wo wx) (fun _ i _ => n - (intOf i).toNat)
      case atStart => exact ⟨0, by omega, rfl, by simp [cCars], by (repeat (first | exact Below.refl _ _ | assumption | refine Below.alloc ?_ (by first | omega | (simp; done) | (simp; omega)) _ | refine Below.drew ?_ | refine bdN ?_ _ | refine Below.setCell ?_ (by first | omega | (simp; done) | (simp; omega)) _))⟩
      case round =>
        obtain ⟨k, hk, rfl, rfl, hb⟩ := hrel
        by_cases hlt : k < n
        · have hB := h.below hb
          obtain ⟨b, off, rfl, hbl, hc⟩ := hB.2 (by omega)
          obtain ⟨r0, r1, r2, r3⟩ := hc k hlt
          have bd := cCars_bd bu br s k
          have bk := bu k
          have hs1 := show cCars (usL qs) (rssL qs) s (k + 1) = cCars (usL qs) (rssL qs) s k + min ((usL qs).getD k 0) (cRate ((rssL qs).getD k []) s 6) from rfl
          have brk := br k
          have nsk := (ns_at HV1.out).2 k (by omega)
          rw [usL_at (by omega)] at bk hs1
          rw [rssL_at (by omega)] at brk hs1
          obtain ⟨q, hq⟩ : ∃ q, qs.getD k q0 = q := ⟨_, rfl⟩
          rw [hq] at r0 r1 r2 r3 bk hs1 brk nsk
          obtain ⟨G, hG⟩ : ∃ G, cCars (usL qs) (rssL qs) s k = G := ⟨_, rfl⟩
          rw [hG] at bd hs1 ⊢
          have HS := Lib.hid hs1
          have HB := Lib.hid hb
          have i1 : (0 : Int) ≤ (k : Int) := by omega
          have i2 : (k : Int) < (n : Int) := by omega
          have hsz := hb.size
          clear hc hq hG hs1 hb hB
          go_wp2
          go_loopw [10, 11] (fun v i wx => ∃ j : Nat, j ≤ 6 ∧ i = .int .i64 j ∧ v = .int .i64 (cRate (rsL q) s j) ∧ Below wr.heap.size wr wx) (fun _ i _ => 6 - (intOf i).toNat)
          case atStart => exact ⟨0, by omega, rfl, rfl, by (repeat (first | exact Below.refl _ _ | assumption | refine Below.alloc ?_ (by first | omega | (simp; done) | (simp; omega)) _ | refine Below.drew ?_ | refine bdN ?_ _ | refine Below.setCell ?_ (by first | omega | (simp; done) | (simp; omega)) _))⟩
          case round =>
            obtain ⟨j, hj, rfl, rfl, hb⟩ := hrel
            by_cases hlt2 : j < 6
            · have bd2 := cRate_bd brk s j
              have bk2 := brk j
              have hs2 := show cRate (rsL q) s (j + 1) = cRate (rsL q) s j + (if s.testBit j then 0 else (rsL q).getD j 0) from rfl
              rw [rsL_at q hlt2] at bk2 hs2
              obtain ⟨z2, hz2⟩ : ∃ z2, rin q.a q.b q.c q.d j = z2 := ⟨_, rfl⟩
              have R0 := fun w => RateIn_s q.a q.b q.c q.d j w (by omega)
              rw [hz2] at bk2 hs2 R0
              obtain ⟨G2, hG2⟩ : ∃ G2, cRate (rsL q) s j = G2 := ⟨_, rfl⟩
              rw [hG2] at bd2 hs2 ⊢
              have s0 := (hb.cell (p := ⟨b, off + k * 4, none⟩) hbl).trans r0
              have s1 := (hb.cell (p := ⟨b, off + k * 4 + 1, none⟩) hbl).trans r1
              have s2 := (hb.cell (p := ⟨b, off + k * 4 + 2, none⟩) hbl).trans r2
              have s3 := (hb.cell (p := ⟨b, off + k * 4 + 3, none⟩) hbl).trans r3
              have an := test_shr s j
              have HB2 := Lib.hid hb
              clear hz2 hG2 hb
              cases hbit : s.testBit j
              · rw [hbit] at hs2 an
                obtain ⟨an1, an2, an3, an4⟩ := an
                simp only [Bool.not_false] at an2 an4
                simp at hs2
                have HS2 := Lib.hid hs2
                clear hs2
                go_wp2_with (go_at_call 67; refine (R0 _).mono ?_; rintro e w6 ⟨rfl, hb6⟩)
                go_roundw
                case rel => first | exact ⟨j + 1, hlt2, by go_num, by rw [HS2.out], bt HB2.out hb6⟩ | ((repeat apply Exists.intro); exact ⟨⟨j + 1, hlt2, by go_num, by rw [HS2.out], bt HB2.out hb6⟩, rfl⟩)
                case measure => simp [intOf]; omega
              · rw [hbit] at hs2 an
                obtain ⟨an1, an2, an3, an4⟩ := an
                simp only [Bool.not_true] at an2 an4
                simp at hs2
                have HS2 := Lib.hid hs2
                clear hs2
                go_wp2
                go_roundw
                case rel => exact ⟨j + 1, hlt2, by go_num, by rw [HS2.out], HB2.out⟩
                case measure => simp [intOf]; omega
            · obtain rfl : j = 6 := by omega
              have bd2 := cRate_bd brk s 6
              have hs3 := HS.out
              have s3 := (hb.cell (p := ⟨b, off + k * 4 + 3, none⟩) hbl).trans r3
              obtain ⟨G2, hG2⟩ : ∃ G2, cRate (rsL q) s 6 = G2 := ⟨_, rfl⟩
              rw [hG2] at bd2 hs3 ⊢
              have HS3 := Lib.hid hs3
              clear hs3 hG2 HS
              go_wp2
              all_goals
                go_roundw
                case rel => exact ⟨k + 1, hlt, by go_num, by rw [HS3.out]; congr 1; omega, bt HB.out hb⟩
                case measure => simp [intOf]; omega
        · obtain rfl : k = n := by omega
          go_wp2
          go_ret
          exact ⟨ret_int (by unfold cutV; rw [HF.out]; simp [usL, hlen]), bt hw hb⟩
set_option maxHeartbeats 1000000 in
theorem CutUnits_s_no (A C : Option Addr) (n c1 c2 m : Nat) (qs : List Quad) (cs : List Int) (s : Nat) (w : World) (h : Books w A n qs) (hC : Ints w C m cs) (hn : n ≤ 1048576) (hm : m ≤ 1048576) (hq : SmA qs) (hv : ¬ (nsV qs = true ∧ fvV cs = true)) (hs : s < 64) :
    Calls Tryd.prog 97 #[.slice A n c1, .slice C m c2, .int .i64 s] w fun e w' => e = .returned (.int .i64 (-1)) ∧ Below w.heap.size w w' := by
  obtain ⟨V1, hV1⟩ : ∃ V, nsV qs = V := ⟨_, rfl⟩
  obtain ⟨V2, hV2⟩ : ∃ V, fvV cs = V := ⟨_, rfl⟩
  have C1 : ∀ w, Books w A n qs → Calls Tryd.prog 59 #[.slice A n c1] w fun e w' => e = .returned (.bool V1) ∧ Below w.heap.size w w' := fun w h => by have := NeedsValid_s A n c1 qs w h hn hq; rw [hV1] at this; exact this
  have C2 : ∀ w, Ints w C m cs → Calls Tryd.prog 60 #[.slice C m c2] w fun e w' => e = .returned (.bool V2) ∧ Below w.heap.size w w' := fun w h => by have := FeedValid_s C m c2 cs w h hm; rw [hV2] at this; exact this
  rw [hV1, hV2] at hv
  clear hV1 hV2
  go_enter Tryd.func97, Tryd.ntmps97
  cases V1
  · go_wp2_with (go_at_call 59; refine (C1 _ h).mono ?_; rintro e w1 ⟨rfl, hb1⟩)
    all_goals (go_ret; exact ⟨rfl, hb1⟩)
  · cases V2
    · go_wp2_with (first
        | (go_at_call 59; refine (C1 _ h).mono ?_; rintro e w1 ⟨rfl, hb1⟩)
        | (go_at_call 60; refine (C2 _ (hC.below hb1)).mono ?_; rintro e w2 ⟨rfl, hb2⟩))
      all_goals (go_ret; exact ⟨rfl, bt hb1 hb2⟩)
    · exact absurd ⟨rfl, rfl⟩ hv
set_option maxHeartbeats 1000000 in
theorem MostUnits_s (A C : Option Addr) (n c1 c2 m : Nat) (qs : List Quad) (cs : List Int) (w : World) (h : Books w A n qs) (hC : Ints w C m cs) (hn : n ≤ 1048576) (hm : m ≤ 1048576) (hq : SmA qs) :
    Calls Tryd.prog 61 #[.slice A n c1, .slice C m c2] w fun e w' => e = .returned (.int .i64 (muV qs cs)) ∧ Below w.heap.size w w' := by
  by_cases hv : nsV qs = true ∧ fvV cs = true
  · obtain ⟨hv1, hv2⟩ := hv
    have hm6 : m = 6 := by rw [← hC.1]; exact (fv_at hv2).1
    subst hm6
    have hr : Hid (muV qs cs = leastTo (usL qs) (rssL qs) cs 63) := (muV_nn hv1 hv2).1
    have K := fun s hs w h hC => CutUnits_s_yes A C n c1 c2 qs cs s w h hC hv1 hv2 hs
    have ul : (usL qs).length ≤ 100 := by simp [usL]; have := (ns_at hv1).1; omega
    have bu := us_Bd hv1
    have br := rs_Bd hv1
    have bc := fv_Bd hv2
    clear hv1 hv2
    go_enter Tryd.func61, Tryd.ntmps61
    go_wp2
    go_loopw [5, 6] (fun v i wr => ∃ s : Nat, s ≤ 64 ∧ i = .int .i64 s ∧ v = .int .i64 (if s = 0 then -1 else leastTo (usL qs) (rssL qs) cs (s - 1)) ∧ Below w.heap.size w wr) (fun _ i _ => 64 - (intOf i).toNat)
    case atStart => exact ⟨0, by omega, rfl, rfl, by (repeat (first | exact Below.refl _ _ | assumption | refine Below.alloc ?_ (by first | omega | (simp; done) | (simp; omega)) _ | refine Below.drew ?_ | refine bdN ?_ _ | refine Below.setCell ?_ (by first | omega | (simp; done) | (simp; omega)) _))⟩
    case round =>
      obtain ⟨s, hs, rfl, rfl, hb⟩ := hrel
      by_cases hlt : s < 64
      · have K0 := K s hlt wr (h.below hb) (hC.below hb)
        have cb := cutV_bd bu br bc s ul
        by_cases h0 : s = 0
        · subst h0
          have hs1 : Hid (leastTo (usL qs) (rssL qs) cs 0 = cutV (usL qs) (rssL qs) cs 0) := by show _ = _; rfl
          obtain ⟨X, hX⟩ : ∃ X, cutV (usL qs) (rssL qs) cs 0 = X := ⟨_, rfl⟩
          rw [hX] at K0 hs1 cb
          have HB := Lib.hid hb
          clear hX hb
          simp only [if_true] at *
          go_wp2_with (go_at_call 97; refine K0.mono ?_; rintro e w2 ⟨rfl, hb2⟩)
          go_roundw
          case rel => exact ⟨1, by omega, by go_num, by simp [hs1.out], bt HB.out hb2⟩
          case measure => simp [intOf]
        · obtain ⟨t, rfl⟩ : ∃ t, s = t + 1 := ⟨s - 1, by omega⟩
          have hs1 := show leastTo (usL qs) (rssL qs) cs (t + 1) = min (leastTo (usL qs) (rssL qs) cs t) (cutV (usL qs) (rssL qs) cs (t + 1)) from rfl
          have lb := leastTo_bd bu br bc t ul
          rw [if_neg h0, Nat.add_sub_cancel]
          rw [show ((t + 1 : Nat) : Int) = (t : Int) + 1 by omega] at K0
          obtain ⟨X, hX⟩ : ∃ X, cutV (usL qs) (rssL qs) cs (t + 1) = X := ⟨_, rfl⟩
          obtain ⟨L, hL⟩ : ∃ L, leastTo (usL qs) (rssL qs) cs t = L := ⟨_, rfl⟩
          rw [hX] at K0 hs1 cb
          rw [hL] at hs1 lb ⊢
          have HS := Lib.hid hs1
          have HB := Lib.hid hb
          clear hX hL hs1 hb h0
          go_wp2_with (go_at_call 97; refine K0.mono ?_; rintro e w2 ⟨rfl, hb2⟩)
          all_goals
            go_roundw
            case rel => exact ⟨t + 1 + 1, by omega, by go_num, by rw [if_neg (by omega), Nat.add_sub_cancel, HS.out]; congr 1; omega, bt HB.out hb2⟩
            case measure => simp [intOf]; omega
      · obtain rfl : s = 64 := by omega
        go_wp2
        go_ret
        exact ⟨ret_int hr.out.symm, hb⟩
  · have hr : Hid (muV qs cs = -1) := by show _ = _; unfold muV; rw [if_neg hv]
    go_enter Tryd.func61, Tryd.ntmps61
    go_wp2
    go_loopw [5, 6] (fun v i wr => ∃ s : Nat, s ≤ 64 ∧ i = .int .i64 s ∧ v = .int .i64 (-1) ∧ Below w.heap.size w wr) (fun _ i _ => 64 - (intOf i).toNat)
    case atStart => exact ⟨0, by omega, rfl, rfl, by (repeat (first | exact Below.refl _ _ | assumption | refine Below.alloc ?_ (by first | omega | (simp; done) | (simp; omega)) _ | refine Below.drew ?_ | refine bdN ?_ _ | refine Below.setCell ?_ (by first | omega | (simp; done) | (simp; omega)) _))⟩
    case round =>
      obtain ⟨s, hs, rfl, rfl, hb⟩ := hrel
      by_cases hlt : s < 64
      · have K0 := CutUnits_s_no A C n c1 c2 m qs cs s wr (h.below hb) (hC.below hb) hn hm hq hv hlt
        go_wp2_with (go_at_call 97; refine K0.mono ?_; rintro e w2 ⟨rfl, hb2⟩)
        go_roundw
        case rel => exact ⟨s + 1, by omega, by go_num, rfl, bt hb hb2⟩
        case measure => simp [intOf]; omega
      · obtain rfl : s = 64 := by omega
        go_wp2
        go_ret
        exact ⟨ret_int hr.out.symm, hb⟩
end Go.Proofs.YtoiaggjjfahabaaDoor
