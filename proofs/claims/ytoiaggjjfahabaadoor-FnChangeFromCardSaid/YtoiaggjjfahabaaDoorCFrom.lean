/- l5From of the reference: the fewest coins out of a stock, by recursion. Conditions: at most five kinds of 1 to 99, at most 300 of each, amounts up to 300. -/
import Derived.Test.YtoiaggjjfahabaaDoorCFor
import Derived.Test.YtoiaggjjfahabaaDoorOQ
namespace Go.Proofs.YtoiaggjjfahabaaDoor
open Go.RowKit
set_option linter.unusedVariables false
/-- the numbers for the first i kinds, as the reference has them -/
def bfV (z q : Nat → Nat) (i a : Nat) : List Int := cwV z q i a
/-- the best so far, of the numbers of the topmost kind -/
def bestL (z q : Nat → Nat) (i a : Nat) (d : Int × Nat) : List Int := if 0 ≤ d.1 then (way z q i (a - d.2 * z i)).map Int.ofNat ++ [(d.2 : Int)] else []
theorem bestL_top (z q : Nat → Nat) (i a : Nat) : bestL z q i a (dTo (cost z q i) (z i) a (cnt (q i) (z i) a) (cnt (q i) (z i) a)) = cwV z q (i + 1) a := by
  obtain ⟨h1, h2⟩ := dTo_top z q i a
  unfold bestL cwV
  rw [h1]
  by_cases h : 0 ≤ cost z q (i + 1) a
  · rw [if_pos h, if_pos h, h2 h, way_succ, List.map_append]; rfl
  · rw [if_neg h, if_neg h]
theorem cw_bd {z q : Nat → Nat} {i s : Nat} (hq : ∀ j, j < i → q j ≤ 300) (j : Nat) : 0 ≤ (cwV z q i s)[j]?.getD 0 ∧ (cwV z q i s)[j]?.getD 0 ≤ 300 := by
  unfold cwV
  split
  · rename_i h
    rw [List.getElem?_map]
    rcases Nat.lt_or_ge j i with g | g
    · have hl : j < (way z q i s).length := by rw [way_len]; exact g
      have a2 := way_at z q i s j g h
      have a3 := hq j g
      rw [List.getD_eq_getElem?_getD, List.getElem?_eq_getElem hl] at a2
      rw [List.getElem?_eq_getElem hl]
      simp at a2 ⊢
      omega
    · rw [List.getElem?_eq_none (by rw [way_len]; exact g)]; simp
  · simp
theorem bestL_bd {z q : Nat → Nat} {i a : Nat} {d : Int × Nat} (hq : ∀ j, j < i → q j ≤ 300) (hd : 0 ≤ d.1 → d.2 ≤ 300 ∧ 0 ≤ cost z q i (a - d.2 * z i)) (j : Nat) : 0 ≤ (bestL z q i a d)[j]?.getD 0 ∧ (bestL z q i a d)[j]?.getD 0 ≤ 300 := by
  unfold bestL
  split
  · rename_i h
    obtain ⟨h1, h2⟩ := hd h
    have e : (way z q i (a - d.2 * z i)).map Int.ofNat = cwV z q i (a - d.2 * z i) := by unfold cwV; rw [if_pos h2]
    rw [e]
    have hl : (cwV z q i (a - d.2 * z i)).length = i := by rw [← e, List.length_map, way_len]
    rcases Nat.lt_trichotomy j i with g | g | g
    · rw [List.getElem?_append_left (by omega)]; exact cw_bd hq j
    · rw [List.getElem?_append_right (by omega), hl, g, Nat.sub_self]; simp; omega
    · rw [List.getElem?_eq_none (by simp; omega)]; simp
  · simp
theorem bestL_sum {z q : Nat → Nat} {i a : Nat} {d : Int × Nat} (h0 : 0 ≤ d.1) (h : 0 ≤ cost z q i (a - d.2 * z i)) (hd : d.1 = cost z q i (a - d.2 * z i) + d.2) : suT (bestL z q i a d) (bestL z q i a d).length = d.1 := by
  unfold bestL
  rw [if_pos h0]
  have hl : ((way z q i (a - d.2 * z i)).map Int.ofNat).length = i := by simp [way_len]
  have e := suT_append ((way z q i (a - d.2 * z i)).map Int.ofNat) (d.2 : Int)
  rw [List.length_append, hl] at *
  show suT _ (i + 1) = _
  rw [e, suT_way z q i _ h, hd]
/-- a row of numbers that begins a block from w0's end on -/
def BL (w0 w : World) (xs : List Int) (g c : Nat) : Prop := w0.heap.size ≤ g ∧ xs.length ≤ c ∧ c ≤ maxLen ∧ ∃ cur, Blk w g 3 cur ∧ ∀ k, k < xs.length → cur[k]? = some (.int .i64 (xs.getD k 0))
theorem BL.below {w0 w w' : World} {xs : List Int} {g c : Nat} (h : BL w0 w xs g c) (hb : Below w.heap.size w w') : BL w0 w' xs g c := by
  obtain ⟨h1, h2, h3, cur, h4, h5⟩ := h
  exact ⟨h1, h2, h3, cur, h4.below hb h4.lt, h5⟩
theorem BL.ints {w0 w : World} {xs : List Int} {g c : Nat} (h : BL w0 w xs g c) : Ints w (some ⟨g, 0, none⟩) xs.length xs := by
  obtain ⟨_, _, _, cur, hB, hc⟩ := h
  exact ⟨rfl, fun _ => ⟨g, 0, rfl, hB.lt, fun k hk => by rw [Nat.zero_add, hB.cell, hc k hk]⟩⟩
theorem BL.low {w0 w1 w : World} {xs : List Int} {g c : Nat} (h : BL w1 w xs g c) (hs : w0.heap.size ≤ w1.heap.size) : BL w0 w xs g c := ⟨Nat.le_trans hs h.1, h.2⟩
theorem BL.of_own {w0 w : World} {xs : List Int} {g n c : Nat} (h : w.ownsRow w0.heap.size 3 1 (.slice (some ⟨g, 0, none⟩) n c) n (xs.map (Value.int .i64))) (hl : xs.length = n) : BL w0 w xs g c := by
  subst hl
  rcases h.2 with ⟨h0, _⟩ | ⟨g', c', cur, e1, hb', hg, hcc, hm, hsz, htk⟩
  · cases h0
  · simp only [Value.slice.injEq, Option.some.injEq, Addr.mk.injEq, and_true, true_and] at e1
    obtain ⟨rfl, rfl⟩ := e1
    refine ⟨hb', hcc, hm, cur, hg, fun k hk => ?_⟩
    have hc := h.cellAt k (by omega)
    have hB : Blk w g 3 cur := hg
    rw [hB.cell] at hc
    rw [hc, List.getElem?_map, List.getElem?_eq_getElem (by omega), List.getD_eq_getElem?_getD, List.getElem?_eq_getElem (by omega)]; rfl
/-- what l5From returns: the numbers in new memory, and whether there are any -/
def LF (w : World) (xs : List Int) (ok : Bool) (e : Ending) (w' : World) : Prop :=
  ∃ g c, e = .returned (.tuple #[.slice (some ⟨g, 0, none⟩) xs.length c, .bool ok]) ∧ BL w w' xs g c ∧ Below w.heap.size w w'
theorem dTo_ok (z q : Nat → Nat) (i a J t : Nat) (ht : t ≤ J) (hJ : J ≤ 301) : 0 ≤ (dTo (cost z q i) (z i) a J t).1 → (dTo (cost z q i) (z i) a J t).2 ≤ 300 ∧ 0 ≤ cost z q i (a - (dTo (cost z q i) (z i) a J t).2 * z i) ∧ (dTo (cost z q i) (z i) a J t).1 = cost z q i (a - (dTo (cost z q i) (z i) a J t).2 * z i) + (dTo (cost z q i) (z i) a J t).2 := by
  intro h
  rcases dTo_spec (cost z q i) (z i) a J t ht with ⟨h1, _⟩ | ⟨_, h2, h3, h4, _⟩
  · omega
  · exact ⟨by omega, h3, h4⟩
set_option maxRecDepth 100000 in
set_option maxHeartbeats 8000000 in
theorem l5From_s (n c1 c2 : Nat) (zs qs : List Int) (z q : Nat → Nat) (hn : n ≤ 5) (hz : ∀ j, j < n → zs.getD j 0 = (z j : Int) ∧ 1 ≤ z j ∧ z j ≤ 99) (hq : ∀ j, j < n → qs.getD j 0 = (q j : Int) ∧ q j ≤ 300) (A Q : Option Addr) (i : Nat) :
    ∀ (a : Nat) (w : World), i ≤ n → a ≤ 300 → Ints w A n zs → Ints w Q n qs →
    Calls Tryd.prog 54 #[.slice A n c1, .slice Q n c2, .int .i64 a, .int .i64 ((i : Int) - 1)] w (LF w (cwV z q i a) (cwO z q i a)) := by
  have hbc : Hid (∀ i s, i ≤ n → -1 ≤ cost z q i s ∧ cost z q i s ≤ s) := fun i s hi => ⟨cost_bd z q i s, cost_le z q i s fun j hj => (hz j (by omega)).2.1⟩
  have HQ3 : Hid (∀ j, j < n → q j ≤ 300) := fun j hj => (hq j hj).2
  induction i with
  | zero =>
    intro a w hi ha hA hQ
    have e1 : Hid (cwV z q 0 a = []) := by show _ = _; unfold cwV; split <;> rfl
    have e2 : Hid (cwO z q 0 a = ((a : Int) == 0)) := by
      show _ = _
      unfold cwO cost
      by_cases h : a = 0
      · subst h; simp
      · rw [if_neg h]; simp [h]
    have o0 := o_new0 w w.heap.size 3 1 (Nat.le_refl _)
    have hb : Below w.heap.size w (w.alloc (.cells #[] 3)) := (Below.refl _ _).alloc (Nat.le_refl _) _
    go_enter Tryd.func54, Tryd.ntmps54
    go_wp2
    go_ret2
    rw [e1.out, e2.out]
    exact ⟨w.heap.size, 0, rfl, BL.of_own (xs := []) (n := 0) (by simpa using o0) rfl, hb⟩
  | succ i ih =>
    intro a w hi ha hA hQ
    have ek : ((i + 1 : Nat) : Int) - 1 = (i : Int) := by omega
    rw [ek]
    obtain ⟨zb, zo, rfl, hzl, hzc⟩ := hA.2 (by omega)
    obtain ⟨qb, qo, rfl, hql, hqc⟩ := hQ.2 (by omega)
    obtain ⟨hzk, hz1, hz2⟩ := hz i (by omega)
    obtain ⟨hqk, hq1⟩ := hq i (by omega)
    have z0 := hzc i (by omega)
    have q0 := hqc i (by omega)
    rw [hzk] at z0
    rw [hqk] at q0
    have htop := bestL_top z q i a
    have htop2 := (dTo_top z q i a).1
    have hU0 : cnt (q i) (z i) a = min (q i) (a / z i) + 1 := rfl
    have hdv : a / z i ≤ a := Nat.div_le_self _ _
    have hsd : ∀ m, m ≤ a / z i → m * z i ≤ a := fun m hm => (Nat.le_div_iff_mul_le (by omega)).1 hm
    have hbb : ∀ d : Int × Nat, (0 ≤ d.1 → d.2 ≤ 300 ∧ 0 ≤ cost z q i (a - d.2 * z i)) → ∀ j : Nat, 0 ≤ (bestL z q i a d)[j]?.getD 0 ∧ (bestL z q i a d)[j]?.getD 0 ≤ 300 := fun d hd => bestL_bd (fun j hj => HQ3.out j (by omega)) hd
    have hcb : ∀ s j : Nat, 0 ≤ (cwV z q i s)[j]?.getD 0 ∧ (cwV z q i s)[j]?.getD 0 ≤ 300 := fun s => cw_bd fun j hj => HQ3.out j (by omega)
    have hok := fun J t => dTo_ok z q i a J t
    have hst : ∀ J k, dTo (cost z q i) (z i) a J (k + 1) = if 0 ≤ cost z q i (a - (J - 1 - k) * z i) ∧ ((dTo (cost z q i) (z i) a J k).1 < 0 ∨ cost z q i (a - (J - 1 - k) * z i) + ((J - 1 - k : Nat) : Int) < (dTo (cost z q i) (z i) a J k).1) then (cost z q i (a - (J - 1 - k) * z i) + ((J - 1 - k : Nat) : Int), J - 1 - k) else dTo (cost z q i) (z i) a J k := fun J k => rfl
    have hb0 := fun m => hbc.out i m (by omega)
    have hbs : ∀ d : Int × Nat, 0 ≤ d.1 → 0 ≤ cost z q i (a - d.2 * z i) → d.1 = cost z q i (a - d.2 * z i) + d.2 → suT (bestL z q i a d) (bestL z q i a d).length = d.1 := fun d => bestL_sum
    have hbe : ∀ (d : Int) (m : Nat), 0 ≤ d → bestL z q i a (d, m) = (way z q i (a - m * z i)).map Int.ofNat ++ [(m : Int)] := fun d m hd => by unfold bestL; rw [if_pos hd]
    have hbe0 : bestL z q i a (-1, 0) = [] := by unfold bestL; rw [if_neg (by omega)]
    have hcw : ∀ s, 0 ≤ cost z q i s → cwV z q i s = (way z q i s).map Int.ofNat := fun s hs => by unfold cwV; rw [if_pos hs]
    obtain ⟨c, hc⟩ : ∃ c, z i = c := ⟨_, rfl⟩
    obtain ⟨Q', hQ'⟩ : ∃ Q', q i = Q' := ⟨_, rfl⟩
    obtain ⟨SC, hSC⟩ : ∃ SC, a / c = SC := ⟨_, rfl⟩
    rw [hc] at z0 hz1 hz2 htop htop2 hU0 hdv hsd hbb hok hst hbs hbe
    rw [hQ'] at q0 hq1 htop htop2 hU0
    rw [hSC] at hU0 hdv hsd
    obtain ⟨U, hU⟩ : ∃ U, min Q' SC = U := ⟨_, rfl⟩
    rw [hU] at hU0
    rw [hU0] at htop htop2
    have hdiv : (a : Int) / (c : Int) = (SC : Int) := by rw [← hSC]; exact (Int.natCast_ediv a c).symm
    have hdiv2 : Int.tdiv (a : Int) (c : Int) = (SC : Int) := by rw [Int.tdiv_eq_ediv_of_nonneg (by omega)]; exact hdiv
    have hc0 : ((c : Int) == 0) = false := by simp; omega
    have eU : (if SC < Q' then (SC : Int) else (Q' : Int)) = (U : Int) := by rw [← hU]; split <;> omega
    have hU1 : U ≤ SC := by omega
    have hU2 : U ≤ 300 := by omega
    have HTOP := Lib.hid htop
    have HTOP2 := Lib.hid htop2
    have HSD := Lib.hid hsd
    have HBBD := Lib.hid hbb
    have HCBD := Lib.hid hcb
    have HOK := Lib.hid hok
    have HST := Lib.hid hst
    have HB0 := Lib.hid hb0
    have HBS := Lib.hid hbs
    have HBE := Lib.hid hbe
    have HBE0 := Lib.hid hbe0
    have HCW := Lib.hid hcw
    have HIH := Lib.hid ih
    have HZ0 := Lib.hid z0
    have HQ0 := Lib.hid q0
    have HA := Lib.hid hA
    have HQ := Lib.hid hQ
    obtain ⟨i0, hi0, ia, ib, ic⟩ := info_parts infoIm
    have i1 : (0 : Int) ≤ (i : Int) := by omega
    have i2 : (i : Int) < (n : Int) := by omega
    have o0 := o_new0 w w.heap.size 3 1 (Nat.le_refl _)
    have hbw : Below w.heap.size w (w.alloc (.cells #[] 3)) := (Below.refl _ _).alloc (Nat.le_refl _) _
    have B0 : BL w (w.alloc (.cells #[] 3)) [] w.heap.size 0 := BL.of_own (xs := []) (n := 0) (by simpa using o0) rfl
    have d0 := (hbw.cell (p := ⟨zb, zo + i, none⟩) hzl).trans z0
    have d1 := (hbw.cell (p := ⟨qb, qo + i, none⟩) hql).trans q0
    have HBW := Lib.hid hbw
    have HBL0 := Lib.hid B0
    clear hzc hqc hzk hqk htop htop2 hU0 hsd hbb hcb hok hst hb0 hbs hbe hbe0 hcw ih z0 q0 hA hQ hc hQ' hSC hU ek o0 hbw B0 hz hq
    go_enter Tryd.func54, Tryd.ntmps54
    go_upto_region 5 with fail
    obtain ⟨W1, hW1⟩ : ∃ W1, w.alloc (.cells #[] 3) = W1 := ⟨_, rfl⟩
    rw [hW1] at HBW HBL0 d0 d1 ⊢
    clear hW1
    go_quiet (fail)
    try rw [eU]
    have hdr : Below W1.heap.size W1 (W1.drewN nq) := bdN (Below.refl _ _) nq
    have HBW3 := Lib.hid (bt HBW.out hdr)
    have HBL3 := Lib.hid (HBL0.out.below hdr)
    clear hdr eU HBW HBL0 d0 d1 hdiv hdiv2
    go_wp2
    go_loopw [10, 11, 12] (fun bv fv nv wx => ∃ (t g cb : Nat), t ≤ U + 1 ∧ nv = .int .i64 ((U : Int) - t) ∧ fv = .bool (decide (0 ≤ (dTo (cost z q i) c a (U + 1) t).1)) ∧ bv = .slice (some ⟨g, 0, none⟩) (bestL z q i a (dTo (cost z q i) c a (U + 1) t)).length cb ∧ BL w wx (bestL z q i a (dTo (cost z q i) c a (U + 1) t)) g cb ∧ Below w.heap.size w wx) (fun _ _ nv _ => (intOf nv + 1).toNat)
    case atStart =>
      have e : dTo (cost z q i) c a (U + 1) 0 = (-1, 0) := rfl
      exact ⟨0, w.heap.size, 0, by omega, by simp, by rw [e]; rfl, by rw [e, HBE0.out]; rfl, by rw [e, HBE0.out]; exact HBL3.out, HBW3.out⟩
    case round =>
      clear HBL3 HBW3
      obtain ⟨t, g, cb, ht, rfl, rfl, rfl, hB, hb⟩ := hrel
      by_cases hlt : t < U + 1
      · obtain ⟨nN, hnN⟩ : ∃ nN, nN = U - t := ⟨_, rfl⟩
        have en : (U : Int) - (t : Int) = (nN : Int) := by omega
        rw [en]
        obtain ⟨M, hM⟩ : ∃ M, nN * c = M := ⟨_, rfl⟩
        have hmul : (nN : Int) * (c : Int) = (M : Int) := by rw [← hM, Int.natCast_mul]
        have hMa : M ≤ a := by rw [← hM]; exact HSD.out nN (by omega)
        have u1 : IntKind.i64.wrap ((nN : Int) * (c : Int)) = (M : Int) := by rw [hmul]; exact IntWalk.i64_in _ (by omega)
        have u2 : IntKind.i64.wrap ((a : Int) - (M : Int)) = (a : Int) - (M : Int) := IntWalk.i64_in _ (by omega)
        have hst := HST.out (U + 1) t
        have ej : U + 1 - 1 - t = nN := by omega
        rw [ej, hM] at hst
        have hok := HOK.out (U + 1) t (by omega) (by omega)
        have hX0 := HB0.out (a - M)
        have hcb := HCBD.out (a - M)
        have IH := fun (w : World) h h' => HIH.out (a - M) w (by omega) (by omega) h h'
        rw [show ((a - M : Nat) : Int) = (a : Int) - (M : Int) by omega] at IH
        have hko : cwO z q i (a - M) = decide (0 ≤ cost z q i (a - M)) := rfl
        rw [hko] at IH
        have hcw := HCW.out (a - M)
        have hbe := fun h => HBE.out (cost z q i (a - M) + nN) nN h
        rw [hM] at hbe
        have hbs := HBS.out (cost z q i (a - M) + nN, nN)
        simp only [hM] at hbs
        have hbb2 := HBBD.out (cost z q i (a - M) + nN, nN)
        simp only [hM] at hbb2
        have hbsD := HBS.out (dTo (cost z q i) c a (U + 1) t)
        have hbbD := HBBD.out (dTo (cost z q i) c a (U + 1) t)
        obtain ⟨X, hX⟩ : ∃ X, cost z q i (a - M) = X := ⟨_, rfl⟩
        obtain ⟨xs, hxs⟩ : ∃ xs, cwV z q i (a - M) = xs := ⟨_, rfl⟩
        obtain ⟨D, hD⟩ : ∃ D, dTo (cost z q i) c a (U + 1) t = D := ⟨_, rfl⟩
        rw [hX] at hst IH hX0 hcw hbe hbs hbb2
        rw [hxs] at IH hcb hcw
        rw [hD] at hst hok hB hbsD hbbD ⊢
        have hlenx : xs.length ≤ n := by
          rw [← hxs]; unfold cwV; split
          · rw [List.length_map, way_len]; omega
          · simp
        obtain ⟨BS, hBS⟩ : ∃ BS, bestL z q i a D = BS := ⟨_, rfl⟩
        rw [hBS] at hB hbsD hbbD ⊢
        have hbl : BS.length ≤ n := by
          rw [← hBS]; unfold bestL; split
          · rw [List.length_append, List.length_map, way_len]; simp; omega
          · simp
        have HST2 := Lib.hid hst
        have HB := Lib.hid hB
        have HBB := Lib.hid hb
        have HD := Lib.hid hD
        have HBSE := Lib.hid hBS
        have HOKD := Lib.hid hok
        have hA2 := HA.out.below hb
        have hQ2 := HQ.out.below hb
        have d0 := (hb.cell (p := ⟨zb, zo + i, none⟩) hzl).trans HZ0.out
        have hbz := hb.size
        have en2 : Hid ((U : Int) - ((t + 1 : Nat) : Int) = (nN : Int) - 1) := by show _ = _; omega
        -- the walk behind region 9: the new numbers lie in new memory
        by_cases hx : 0 ≤ X
        · have hdx : decide (0 ≤ X) = true := by simpa using hx
          rw [hdx] at IH
          have eY : bestL z q i a (X + nN, nN) = xs ++ [(nN : Int)] := by rw [hbe (by omega), ← hcw hx]
          have sY := hbs (by omega) hx (by first | rfl | trivial | simp)
          have bY := hbb2 (fun _ => ⟨by omega, hx⟩)
          rw [eY] at sY bY
          have EY := Lib.hid eY
          clear hst hok hX0 hcw hbe hbs hbb2 hX hxs hD hBS hB hb hM hmul hko ej hnN eY hdx
          go_wp2_with (first
            | (go_at_call 54; ((with_reducible refine (IH _ hA2 hQ2).mono ?_); rintro e w2 ⟨gx, cx, rfl, hXL, hb2⟩; clear IH))
            | (at_builtin; refine wpList_append_own _ rfl _ _ 28 rfl w2.heap.size 3 i0 (.int .i64 0) 1 8 Tryd.underlying28 hi0 ia ib ic rfl (by decide) _ _ _ rfl (o_new0 w2 w2.heap.size 3 1 (Nat.le_refl _)) ⟨gx, 0, none⟩ xs.length cx (xs.map (Value.int .i64)) rfl ?c0 ?c1 ?c2 ?c3 ?c4 ?c5 ?_))
          case c0 => simp
          case c1 => exact o_news (hXL.ints.below ((Below.refl _ _).alloc (Nat.le_refl _) _))
          case c2 => exact o_ints1 xs
          case c3 => unfold maxLen; omega
          case c4 => omega
          case c5 => simp
          intro v1 w4 hown1 hgrow1 _
          have hown2 : w4.ownsRow w2.heap.size 3 1 v1 xs.length (xs.map (Value.int .i64)) := by simpa using hown1
          have hb4 : Below w2.heap.size w2 w4 := ((Below.refl w2.heap.size w2).alloc (Nat.le_refl _) _).grown hgrow1 (by simp) (fun q hq => by simp [Value.ownBlock] at hq; omega)
          have hs4 := hb4.size
          clear hown1 hgrow1
          go_wp2_with (at_builtin; refine wpList_append_own _ rfl _ _ 28 rfl w2.heap.size 3 i0 (.int .i64 0) 1 8 Tryd.underlying28 hi0 ia ib ic rfl (by decide) _ _ _ rfl (hown2.alloc _) ⟨w4.heap.size, 0, none⟩ 1 1 [.int .i64 (nN : Int)] rfl rfl (o_one w4 _ _) ?c2 ?c3 ?c4 ?c5 ?_)
          case c2 => simp [Value.oneCell']
          case c3 => unfold maxLen; omega
          case c4 => omega
          case c5 => simp; omega
          intro v2 w5 hown3 hgrow2 _
          obtain ⟨gy, cy, rfl, _, _, _, _⟩ := o_at hown3 (by omega)
          have hY : BL w2 w5 (xs ++ [(nN : Int)]) gy cy := BL.of_own (n := xs.length + 1) (by rw [List.map_append]; exact hown3) (by simp)
          have hb5 : Below w2.heap.size w2 w5 := (hb4.alloc hs4 _).grown hgrow2 (by simp; omega) (fun q hq => (hown2.lt q hq).1)
          have hs5 := hb5.size
          have hT : Below w.heap.size w w5 := bt (bt HBB.out hb2) hb5
          have hBn := (HB.out.below hb2).below hb5
          have hs2 := hb2.size
          have hYn := Lib.hid (hY.low (w0 := w) (by omega))
          have hYl : (xs ++ [(nN : Int)]).length = xs.length + 1 := by simp
          obtain ⟨YL, hYL⟩ : ∃ YL, xs ++ [(nN : Int)] = YL := ⟨_, rfl⟩
          rw [hYL] at hYn hYl sY bY EY
          have PX := PlanUnits_s (some ⟨gy, 0, none⟩) YL.length cy YL w5 hYn.out.ints (by omega) bY
          have PB := PlanUnits_s (some ⟨g, 0, none⟩) BS.length cb BS w5 hBn.ints (by omega)
          rw [sY, hYl] at PX
          have HBN := Lib.hid hBn
          have HT := Lib.hid hT
          clear hXL hown2 hb4 hs4 hown3 hgrow2 hY hb5 hs5 hb2 hT hBn hYL sY bY hA2 hQ2 d0
          by_cases hd : D.1 < 0
          · have hdb : decide (0 ≤ D.1) = false := by simp; omega
            have e1 : Hid (dTo (cost z q i) c a (U + 1) (t + 1) = (X + nN, nN)) := by show _ = _; rw [HST2.out, if_pos ⟨hx, .inl hd⟩]
            have hdn : Hid (decide (0 ≤ X + (nN : Int)) = true) := by show _ = _; simp; omega
            clear PX PB hd hbsD hbbD
            go_wp2
            go_roundw
            case rel => exact ⟨t + 1, gy, cy, by omega, by rw [en2.out], by rw [e1.out]; simp only; rw [hdn.out], by rw [e1.out, EY.out, hYl], by rw [e1.out, EY.out]; exact hYn.out, HT.out⟩
            case measure => simp [intOf]
          · have hdb : decide (0 ≤ D.1) = true := by simp; omega
            have hok2 := HOKD.out (by omega)
            have sB := hbsD (by omega) hok2.2.1 hok2.2.2
            have PB2 := PB (hbbD fun _ => ⟨hok2.1, hok2.2.1⟩)
            rw [sB] at PB2
            by_cases hlt2 : X + nN < D.1
            · have hlb : decide (X + (nN : Int) < D.1) = true := by simpa using hlt2
              have e1 : Hid (dTo (cost z q i) c a (U + 1) (t + 1) = (X + nN, nN)) := by show _ = _; rw [HST2.out, if_pos ⟨hx, .inr hlt2⟩]
              have hdn : Hid (decide (0 ≤ X + (nN : Int)) = true) := by show _ = _; simp; omega
              clear PB hd hbsD hbbD hok2 sB hlt2
              go_wp2_with (first
                | (go_at_call 68; ((with_reducible refine PX.mono ?_); rintro e w6 ⟨rfl, rfl⟩; clear PX))
                | (go_at_call 68; ((with_reducible refine PB2.mono ?_); rintro e w6 ⟨rfl, rfl⟩; clear PB2)))
              go_roundw
              case rel => exact ⟨t + 1, gy, cy, by omega, by rw [en2.out], by rw [e1.out]; simp only; rw [hdn.out], by rw [e1.out, EY.out, hYl], by rw [e1.out, EY.out]; exact hYn.out, HT.out⟩
              case measure => simp [intOf]
            · have hlb : decide (X + (nN : Int) < D.1) = false := by simpa using hlt2
              have e1 : Hid (dTo (cost z q i) c a (U + 1) (t + 1) = D) := by show _ = _; rw [HST2.out, if_neg (fun g => by have := g.2; omega)]
              have hdn : Hid (decide (0 ≤ D.1) = true) := hdb
              clear PB hd hbsD hbbD hok2 sB hlt2
              go_wp2_with (first
                | (go_at_call 68; ((with_reducible refine PX.mono ?_); rintro e w6 ⟨rfl, rfl⟩; clear PX))
                | (go_at_call 68; ((with_reducible refine PB2.mono ?_); rintro e w6 ⟨rfl, rfl⟩; clear PB2)))
              go_roundw
              case rel => exact ⟨t + 1, g, cb, by omega, by rw [en2.out], by rw [e1.out, hdn.out], by rw [e1.out, HBSE.out], by rw [e1.out, HBSE.out]; exact HBN.out, HT.out⟩
              case measure => simp [intOf]
        · have hdx : decide (0 ≤ X) = false := by simpa using hx
          rw [hdx] at IH
          have e1 : Hid (dTo (cost z q i) c a (U + 1) (t + 1) = D) := by show _ = _; rw [HST2.out, if_neg (fun g => hx g.1)]
          clear hst hok hX0 hcw hbe hbs hbb2 hX hxs hD hBS hB hb hM hmul hko ej hnN hdx hbsD hbbD hcb
          go_wp2_with (first
            | (go_at_call 54; ((with_reducible refine (IH _ hA2 hQ2).mono ?_); rintro e w2 ⟨gx, cx, rfl, hXL, hb2⟩; clear IH))
            | (at_builtin; refine wpList_append_own _ rfl _ _ 28 rfl w2.heap.size 3 i0 (.int .i64 0) 1 8 Tryd.underlying28 hi0 ia ib ic rfl (by decide) _ _ _ rfl (o_new0 w2 w2.heap.size 3 1 (Nat.le_refl _)) ⟨gx, 0, none⟩ xs.length cx (xs.map (Value.int .i64)) rfl ?c0 ?c1 ?c2 ?c3 ?c4 ?c5 ?_))
          case c0 => simp
          case c1 => exact o_news (hXL.ints.below ((Below.refl _ _).alloc (Nat.le_refl _) _))
          case c2 => exact o_ints1 xs
          case c3 => unfold maxLen; omega
          case c4 => omega
          case c5 => simp
          intro v1 w4 hown1 hgrow1 _
          have hown2 : w4.ownsRow w2.heap.size 3 1 v1 xs.length (xs.map (Value.int .i64)) := by simpa using hown1
          have hb4 : Below w2.heap.size w2 w4 := ((Below.refl w2.heap.size w2).alloc (Nat.le_refl _) _).grown hgrow1 (by simp) (fun q hq => by simp [Value.ownBlock] at hq; omega)
          have hs4 := hb4.size
          clear hown1 hgrow1
          go_wp2_with (at_builtin; refine wpList_append_own _ rfl _ _ 28 rfl w2.heap.size 3 i0 (.int .i64 0) 1 8 Tryd.underlying28 hi0 ia ib ic rfl (by decide) _ _ _ rfl (hown2.alloc _) ⟨w4.heap.size, 0, none⟩ 1 1 [.int .i64 (nN : Int)] rfl rfl (o_one w4 _ _) ?c2 ?c3 ?c4 ?c5 ?_)
          case c2 => simp [Value.oneCell']
          case c3 => unfold maxLen; omega
          case c4 => omega
          case c5 => simp; omega
          intro v2 w5 hown3 hgrow2 _
          have hb5 : Below w2.heap.size w2 w5 := (hb4.alloc hs4 _).grown hgrow2 (by simp; omega) (fun q hq => (hown2.lt q hq).1)
          have HT := Lib.hid (bt (bt HBB.out hb2) hb5)
          have HBN := Lib.hid ((HB.out.below hb2).below hb5)
          clear hXL hown2 hb4 hs4 hown3 hgrow2 hb5 hb2 hA2 hQ2 d0
          go_wp2
          go_roundw
          case rel => exact ⟨t + 1, g, cb, by omega, by rw [en2.out], by rw [e1.out], by rw [e1.out, HBSE.out], by rw [e1.out, HBSE.out]; exact HBN.out, HT.out⟩
          case measure => simp [intOf]
      · obtain rfl : t = U + 1 := by omega
        have et : (U : Int) - ((U + 1 : Nat) : Int) = -1 := by omega
        rw [et]
        rw [HTOP.out] at hB ⊢
        rw [HTOP2.out]
        go_wp2
        go_ret2
        exact ⟨g, cb, rfl, hB, hb⟩
end Go.Proofs.YtoiaggjjfahabaaDoor
