/- CoinsFor of the reference: what it computes. Conditions: the list's length. -/
import Derived.Test.YtghfdkalblipgaaDoorCSpec
namespace Go.Proofs.YtghfdkalblipgaaDoor
open Go.RowKit
set_option linter.unusedVariables false
theorem cf_case {zs : List Int} {m : Int} (h : cfH zs m) : leastV zs m = cost (fz zs) s300 zs.length m.toNat := by
  obtain ⟨hv, h0, h1⟩ := h
  have := least_cost hv (a := m.toNat) (by omega)
  rwa [show ((m.toNat : Nat) : Int) = m by omega] at this
set_option maxRecDepth 100000 in
set_option maxHeartbeats 4000000 in
theorem CoinsFor_s (A : Option Addr) (n cap : Nat) (zs : List Int) (m : Int) (w : World) (h : Ints w A n zs) (hn : n ≤ 1048576) :
    Calls Tryd.prog 9 #[.slice A n cap, .int .i64 m] w (ResW w (cfV zs m) (cfO zs m)) := by
  have L0 := CoinsLeast_s A n cap zs m w h hn
  by_cases hneg : leastV zs m < 0
  · have e1 : Hid (cfV zs m = [] ∧ cfO zs m = false) := by
      show _ ∧ _
      unfold cfV cfO
      by_cases hx : cfH zs m
      · have e := cf_case hx
        rw [if_pos hx, if_pos hx]
        unfold cwV cwO
        rw [← e, if_neg (by omega), decide_eq_false_iff_not]
        exact ⟨rfl, by omega⟩
      · rw [if_neg hx, if_neg hx]; exact ⟨rfl, rfl⟩
    obtain ⟨L, hL⟩ : ∃ L, leastV zs m = L := ⟨_, rfl⟩
    rw [hL] at L0 hneg
    have x1 : decide (L < 0) = true := by simpa using hneg
    clear hneg hL
    go_enter Tryd.func9, Tryd.ntmps9
    go_wp2_with (go_at_call 31; ((with_reducible refine L0.mono ?_); rintro e w1 ⟨rfl, hb1⟩))
    go_ret2
    rw [e1.out.1, e1.out.2]
    exact ResW.nil _ _ _ _ _ (hb1.alloc hb1.size _)
  · have hx : cfH zs m := by
      unfold leastV at hneg
      split at hneg
      · rename_i g; exact g
      · omega
    have e := cf_case hx
    obtain ⟨hv, h0, h1⟩ := hx
    obtain ⟨a, rfl⟩ := Int.eq_ofNat_of_zero_le h0
    have ha : a ≤ 300 := by omega
    have hlen := h.1
    obtain ⟨v1, v2, v3⟩ := cv_at hv
    rw [hlen] at v1 v2
    have e1 : Hid (cfV zs (a : Int) = (way (fz zs) s300 n a).map Int.ofNat ∧ cfO zs (a : Int) = true) := by
      show _ ∧ _
      unfold cfV cfO
      rw [if_pos ⟨hv, h0, h1⟩, if_pos ⟨hv, h0, h1⟩]
      unfold cwV cwO
      rw [← e, if_pos (by omega), decide_eq_true_iff, hlen]
      exact ⟨rfl, by omega⟩
    have hz : Hid (∀ j, j < n → 1 ≤ fz zs j) := fun j hj => (fz_at hv j (by omega)).2.1
    have hza : Hid (∀ j, j < n → zs.getD j 0 = (fz zs j : Int) ∧ 1 ≤ fz zs j ∧ fz zs j ≤ 99) := fun j hj => fz_at hv j (by omega)
    have hq : Hid (∀ s : Nat, s ≤ 300 → ∀ j, j < n → s ≤ s300 j) := fun s hs j _ => hs
    have htc : Hid (∀ j, j ≤ a → (tabTo zs a).getD j 0 = cost (fz zs) s300 n j) := fun j hj => by rw [tab_cost hv hj ha, hlen]
    have T0 := fun w h => l5Table_any A n cap a zs w h hv ha
    rw [e, Int.toNat_natCast, hlen] at L0 hneg
    have hbc : Hid (∀ s, -1 ≤ cost (fz zs) s300 n s ∧ cost (fz zs) s300 n s ≤ s) := fun s => ⟨cost_bd _ _ n s, cost_le _ _ n s fun j hj => (fz_at hv j (by omega)).2.1⟩
    have hmk := run_make_row' (P := Tryd.prog) 23 3 (.int .i64 0) 8 Tryd.underlying23 infoIm rfl .i64 .i64 n (by omega) (by omega)
    obtain ⟨z, hzd⟩ : ∃ z, fz zs = z := ⟨_, rfl⟩
    rw [hzd] at e1 hz hza htc L0 hneg hbc
    have hC0 : 0 ≤ cost z s300 n a := by omega
    obtain ⟨zb, zo, rfl, hzl, hzc⟩ := h.2 (by omega)
    obtain ⟨L, hL⟩ : ∃ L, cost z s300 n a = L := ⟨_, rfl⟩
    rw [hL] at L0 hneg
    have x1 : decide (L < 0) = false := by simpa using hneg
    have HC0 := Lib.hid hC0
    have HZC := Lib.hid hzc
    clear hzd hv v3 e hneg hL hC0 hlen hzc h0 h1
    go_enter Tryd.func9, Tryd.ntmps9
    go_upto_region 4 with (first
      | (go_at_call 31; ((with_reducible refine L0.mono ?_); rintro e w1 ⟨rfl, hb1⟩; clear L0))
      | (go_at_call 32; ((with_reducible refine (T0 _ (h.below hb1)).mono ?_); rintro e w2 ⟨g, c, rfl, hI, hb2⟩; have hT := bt hb1 hb2; clear hb1 hb2 T0)))
    have hbw : Below w2.heap.size w2 (w2.alloc (.cells (madeCells #[.int .i64 0] n) 3)) := (Below.refl _ _).alloc (Nat.le_refl _) _
    have HBW := Lib.hid hbw
    have HI := Lib.hid hI
    have HT := Lib.hid hT
    have hsz := hT.size
    obtain ⟨gb, go, hgo, hgl, hgc⟩ := hI.2 (by omega)
    simp only [Option.some.injEq, Addr.mk.injEq, and_true] at hgo
    obtain ⟨rfl, rfl⟩ := hgo
    have hgc2 : Hid (∀ j, j ≤ a → w2.cell? ⟨g, j, none⟩ = some (.int .i64 (cost z s300 n j))) := fun j hj => by
      have q := hgc j (by omega)
      rw [Nat.zero_add, htc.out j hj] at q
      exact q
    clear hgc
    go_upto_region 5 with fail
    have HB0 : Hid (Blk (w2.alloc (.cells (madeCells #[.int .i64 0] n) 3)) w2.heap.size 3 (ints (List.replicate n 0))) := by
      show Blk _ _ _ _
      rw [← ints_made]; exact Blk.new _ _ _
    obtain ⟨W3, hW3⟩ : ∃ W3, w2.alloc (.cells (madeCells #[.int .i64 0] n) 3) = W3 := ⟨_, rfl⟩
    obtain ⟨b, hb⟩ : ∃ b, w2.heap.size = b := ⟨_, rfl⟩
    rw [hW3] at HBW HB0 ⊢
    rw [hb] at HB0 HBW hsz hgl ⊢
    have HB := Lib.hid hb
    clear hbw hW3 hb hmk hI hT
    go_loopw [1] (fun am wx => ∃ (s : Nat) (ms : List Int), s ≤ a ∧ am = .int .i64 s ∧ 0 ≤ cost z s300 n s ∧ Blk wx b 3 (ints ms) ∧ ms.length = n ∧ (∀ j : Nat, 0 ≤ ms.getD j 0 ∧ ms.getD j 0 ≤ 300 - s) ∧ (∀ j : Nat, (((way z s300 n a).getD j 0 : Nat) : Int) = ms.getD j 0 + (((way z s300 n s).getD j 0 : Nat) : Int)) ∧ Below b w2 wx) (fun am _ => (intOf am).toNat)
    case atStart =>
      have er : ∀ j : Nat, (List.replicate n (0 : Int)).getD j 0 = 0 := fun j => by
        rw [List.getD_eq_getElem?_getD, List.getElem?_replicate]; split <;> rfl
      exact ⟨a, List.replicate n 0, Nat.le_refl _, rfl, HC0.out, HB0.out, by simp, fun j => by rw [er]; omega, fun j => by rw [er]; omega, HBW.out⟩
    case round =>
      clear HB0 HBW
      obtain ⟨s, ms, hs, rfl, hcs, hR, hml, hmb, hmw, hb⟩ := hrel
      have hbw : Below w.heap.size w wr := HT.out.trans (hb.mono (by rw [← HB.out]; exact HT.out.size))
      by_cases hs0 : 0 < s
      · obtain ⟨K0, hK0, huK⟩ := usable_some z s300 n s hz.out (hq.out s (by omega)) hs0 hcs
        have cS := hbc.out s
        have tS := (hb.cell (p := ⟨g, s, none⟩) hgl).trans (hgc2.out s hs)
        have hsb : (s : Int) < (a : Int) + 1 := by omega
        have x2 : decide (0 < (s : Int)) = true := by simp; omega
        have HR := Lib.hid hR
        have HMB := Lib.hid hmb
        have HMW := Lib.hid hmw
        have HBB := Lib.hid hb
        have HBV := Lib.hid hbw
        have HUK := Lib.hid huK
        have HML := Lib.hid hml
        obtain ⟨x, hx⟩ : ∃ x, cost z s300 n s = x := ⟨_, rfl⟩
        rw [hx] at hcs cS tS
        have HX := Lib.hid hx
        obtain ⟨W4, rfl⟩ : ∃ W4 : World, W4 = wr := ⟨_, rfl⟩
        clear hR hmb hmw hb hbw huK hx hml
        go_wp2
        go_loopw [8] (fun kv wz => ∃ k : Nat, k < n ∧ K0 ≤ k ∧ kv = .int .i64 k ∧ (∀ i, k < i → i < n → ¬ usable z s300 n s i) ∧ Below W4.heap.size W4 wz) (fun kv _ => (intOf kv).toNat)
        case atStart => exact ⟨n - 1, by omega, by omega, congrArg (Value.int .i64) (by omega), fun i h1 h2 => absurd h1 (by omega), Below.refl _ _⟩
        case round =>
          obtain ⟨k, hk, hKk, rfl, hmax, hbz⟩ := hrel
          obtain ⟨hzk, hz1, hz2⟩ := hza.out k hk
          have z0 := HZC.out k hk
          rw [hzk] at z0
          have hWb : b ≤ W4.heap.size := by have q := HBB.out.size; have q2 := HB.out; omega
          have d0 := ((bt HBV.out hbz).cell (p := ⟨zb, zo + k, none⟩) hzl).trans z0
          have hb2 : Below b w2 wr := HBB.out.trans (hbz.mono hWb)
          have tS2 := (hb2.cell (p := ⟨g, s, none⟩) hgl).trans (hgc2.out s hs)
          rw [HX.out] at tS2
          have hnu : ∀ (q : ¬ usable z s300 n s k), K0 < k := fun q => by
            rcases Nat.lt_or_ge K0 k with g1 | g1
            · exact g1
            · have : k = K0 := by omega
              subst this; exact absurd HUK.out q
          have hmx2 : ∀ (q : ¬ usable z s300 n s k) i, k - 1 < i → i < n → ¬ usable z s300 n s i := fun q i h1 h2 => by
            rcases Nat.lt_or_ge k i with g1 | g1
            · exact hmax i g1 h2
            · have : i = k := by omega
              subst this; exact q
          have i1 : (0 : Int) ≤ (k : Int) := by omega
          have i2 : (k : Int) < (n : Int) := by omega
          have HMAX := Lib.hid hmax
          have HNU := Lib.hid hnu
          have HMX2 := Lib.hid hmx2
          have HBZ := Lib.hid hbz
          have hus : usable z s300 n s k = (z k ≤ s ∧ 0 ≤ cost z s300 n (s - z k) ∧ cost z s300 n (s - z k) = x - 1) := by unfold usable; rw [HX.out]
          obtain ⟨c', hc'⟩ : ∃ c', z k = c' := ⟨_, rfl⟩
          rw [hc'] at d0 hz1 hz2 hus
          have HCK := Lib.hid hc'
          clear hmax hnu hmx2 hbz hc' z0 hzk
          by_cases hcs2 : s < c'
          · have b1 : decide (s < c') = true := by simpa using hcs2
            have nu : Hid (¬ usable z s300 n s k) := by show ¬ _; rw [hus]; rintro ⟨g1, _⟩; omega
            have hkp := HNU.out nu.out
            obtain ⟨k', rfl⟩ : ∃ k', k = k' + 1 := ⟨k - 1, by omega⟩
            clear hus hcs2
            go_upto_region 7 with fail
            go_quiet (fail)
            go_wp2
            go_roundw
            case rel => exact ⟨k', by omega, by omega, by go_num, HMX2.out nu.out, bt HBZ.out (bdN (Below.refl _ _) _)⟩
            case measure => simp [intOf]
          · have b1 : decide (s < c') = false := by simpa using hcs2
            have u2 : IntKind.i64.wrap ((s : Int) - (c' : Int)) = (s : Int) - (c' : Int) := IntWalk.i64_in _ (by omega)
            have k1 : 0 ≤ (s : Int) - (c' : Int) := by omega
            have k2 : (s : Int) - (c' : Int) < (a : Int) + 1 := by omega
            have o1 := (hb2.cell (p := ⟨g, s - c', none⟩) hgl).trans (hgc2.out (s - c') (by omega))
            have o1' : wr.cell? ⟨g, ((s : Int) - (c' : Int)).toNat, none⟩ = some (.int .i64 (cost z s300 n (s - c'))) := by rw [show ((s : Int) - (c' : Int)).toNat = s - c' by omega]; exact o1
            have bT := hbc.out (s - c')
            obtain ⟨T, hT2⟩ : ∃ T, cost z s300 n (s - c') = T := ⟨_, rfl⟩
            rw [hT2] at o1 o1' bT hus
            have HTT := Lib.hid hT2
            have u3 : IntKind.i64.wrap (x - 1) = x - 1 := IntWalk.i64_in _ (by omega)
            clear hT2
            by_cases hT0 : T < 0
            · have b2 : decide (T < 0) = true := by simpa using hT0
              have nu : Hid (¬ usable z s300 n s k) := by show ¬ _; rw [hus]; rintro ⟨_, g1, _⟩; omega
              have hkp := HNU.out nu.out
              obtain ⟨k', rfl⟩ : ∃ k', k = k' + 1 := ⟨k - 1, by omega⟩
              clear hus hT0 hcs2
              go_upto_region 7 with fail
              go_quiet (fail)
              go_wp2
              go_roundw
              case rel => exact ⟨k', by omega, by omega, by go_num, HMX2.out nu.out, bt HBZ.out (bdN (Below.refl _ _) _)⟩
              case measure => simp [intOf]
            · have b2 : decide (T < 0) = false := by simpa using hT0
              by_cases hTx : T = x - 1
              · have b3 : (T != x - 1) = false := by simp [hTx]
                have us : Hid (usable z s300 n s k) := by show _; rw [hus]; exact ⟨by omega, by omega, hTx⟩
                have hst := usable_step z s300 n s k hz.out (hq.out s (by omega)) hk (by rw [HX.out]; exact hcs) us.out HMAX.out
                rw [HCK.out] at hst
                have hms := fun j => ms_step HML.out hk (fun j => (way z s300 n s).getD j 0) (fun j => (way z s300 n (s - c')).getD j 0) hst (fun j => (((way z s300 n a).getD j 0 : Nat) : Int)) HMW.out j
                have hmk := HMB.out k
                have hR2 : Blk wr b 3 (ints ms) := HR.out.below HBZ.out HR.out.lt
                have r0 := hR2.int_cell (k := k) (by rw [HML.out]; exact hk)
                have f0 := hR2.frozen k
                obtain ⟨y, hy⟩ : ∃ y, ms.getD k 0 = y := ⟨_, rfl⟩
                rw [hy] at r0 hmk hms
                have HRS : Hid (∀ nq, Blk ((wr.drewN nq).setCell ⟨b, k, none⟩ (.int .i64 (y + 1))) b 3 (ints (ms.set k (y + 1)))) := fun nq => (hR2.below (bdN (Below.refl _ _) nq) hR2.lt).int_set k (y + 1)
                have HBS : Hid (∀ nq, Below b w2 ((wr.drewN nq).setCell ⟨b, k, none⟩ (.int .i64 (y + 1)))) := fun nq => (bdN hb2 nq).setCell (Nat.le_refl _) _
                have HMS := Lib.hid hms
                have HML2 : Hid ((ms.set k (y + 1)).length = n) := by show _ = _; rw [List.length_set, HML.out]
                have HMB2 : Hid (∀ j : Nat, 0 ≤ (ms.set k (y + 1)).getD j 0 ∧ (ms.set k (y + 1)).getD j 0 ≤ 300 - ((s - c' : Nat) : Int)) := fun j => by
                  have hj := HMB.out j
                  rw [List.getD_eq_getElem?_getD, List.getElem?_set]
                  by_cases e : k = j
                  · rw [if_pos e, if_pos (by rw [HML.out]; exact hk)]; simp only [Option.getD_some]; omega
                  · rw [if_neg e, ← List.getD_eq_getElem?_getD]; omega
                have HTN : Hid (0 ≤ T) := by show 0 ≤ T; omega
                clear hus hT0 hcs2 hst hms hR2 hy hb2 hTx
                go_upto_region 7 with fail
                go_quiet (fail)
                go_wp2
                go_roundw
                case rel => exact ⟨s - c', ms.set k (y + 1), by omega, congrArg (Value.int .i64) (by omega), by rw [HTT.out]; exact HTN.out, HRS.out _, HML2.out, HMB2.out, HMS.out, HBS.out _⟩
                case measure => simp [intOf]; omega
              · have b3 : (T != x - 1) = true := by simp [hTx]
                have nu : Hid (¬ usable z s300 n s k) := by show ¬ _; rw [hus]; rintro ⟨_, _, g1⟩; exact hTx g1
                have hkp := HNU.out nu.out
                obtain ⟨k', rfl⟩ : ∃ k', k = k' + 1 := ⟨k - 1, by omega⟩
                clear hus hT0 hcs2 hTx
                go_upto_region 7 with fail
                go_quiet (fail)
                go_wp2
                go_roundw
                case rel => exact ⟨k', by omega, by omega, by go_num, HMX2.out nu.out, bt HBZ.out (bdN (Below.refl _ _) _)⟩
                case measure => simp [intOf]
      · obtain rfl : s = 0 := by omega
        have em : Hid (ms = (way z s300 n a).map Int.ofNat) := way_ext z s300 n a hz.out ms hml hmw
        have x2 : decide (0 < ((0 : Nat) : Int)) = false := by simp
        have hlw : (way z s300 n a).length = n := way_len z s300 n a
        have HLW := Lib.hid hlw
        have HR := Lib.hid hR
        clear hmb hmw hml hlw hR
        go_wp2
        go_ret2
        rw [e1.out.1, e1.out.2]
        refine ⟨some ⟨b, 0, none⟩, n, by rw [List.length_map, HLW.out]; rfl, fun _ => ⟨b, _, rfl, hsz, HR.out, fun k hk => ?_⟩, hbw⟩
        rw [em.out]
        rw [List.length_map, HLW.out] at hk
        exact ints_at _ (by rw [List.length_map, HLW.out]; exact hk)
end Go.Proofs.YtghfdkalblipgaaDoor
