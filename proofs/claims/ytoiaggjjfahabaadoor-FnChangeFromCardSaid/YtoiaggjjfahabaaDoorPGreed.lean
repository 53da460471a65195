/- Plain: what the greedy takes is the amount, in no fewer coins than the least; few amounts decide about all. No condition but valid kinds. -/
import Derived.Test.YtoiaggjjfahabaaDoorPLeast
import Derived.Test.YtoiaggjjfahabaaDoorGSafe2
namespace Go.Proofs.YtoiaggjjfahabaaDoor
set_option linter.unusedVariables false
theorem sumTo_suT (xs : List Int) (k : Nat) : sumTo xs k = suT xs k := by
  induction k with
  | zero => rfl
  | succ k ih => unfold sumTo suT; rw [ih]
theorem gm_dot (zs : List Int) (a : Int) (k : Nat) (hk : k ≤ zs.length) : dotTo (gm zs a) zs k = gl zs a (zs.length - k) - gl zs a zs.length := by
  induction k with
  | zero => simp [dotTo]
  | succ k ih =>
    have e : dotTo (gm zs a) zs (k + 1) = dotTo (gm zs a) zs k + (gm zs a)[k]?.getD 0 * zs[k]?.getD 0 := rfl
    have e2 : gl zs a (zs.length - k) = gl zs a (zs.length - (k + 1)) % zs[k]?.getD 0 := by
      rw [show zs.length - k = (zs.length - (k + 1)) + 1 by omega]
      show gl zs a (zs.length - (k + 1)) % zs[zs.length - 1 - (zs.length - (k + 1))]?.getD 0 = _
      rw [show zs.length - 1 - (zs.length - (k + 1)) = k by omega]
    rw [e, ih (by omega), gm_at zs a k (by omega), Option.getD_some, e2, show zs.length - 1 - k = zs.length - (k + 1) by omega]
    have := Int.emod_add_mul_ediv (gl zs a (zs.length - (k + 1))) (zs[k]?.getD 0)
    rw [Int.mul_comm] at this
    omega
theorem gOk_iff {zs : List Int} {a : Int} (h : gOk zs a = true) : cv zs = true ∧ 0 ≤ a ∧ a ≤ 300 ∧ gl zs a zs.length = 0 := by
  unfold gOk at h
  rw [decide_eq_true_iff] at h
  have := gl_bd zs a h.2.1 h.2.2.1 (cv_at h.1).2.2 zs.length (Nat.le_refl _)
  exact ⟨h.1, h.2.1, h.2.2.1, by omega⟩
/-- CoinSum of what the greedy takes is the amount; there are at least CoinsLeast -/
theorem greedy_sum {zs : List Int} {a : Int} (h : gOk zs a = true) : csV zs (gV zs a) = a ∧ leastV zs a ≤ suT (gV zs a) (gV zs a).length ∧ 0 ≤ leastV zs a := by
  obtain ⟨h1, h2, h3, h4⟩ := gOk_iff h
  have e : gV zs a = gm zs a := by unfold gV; rw [if_pos h]
  have hat := gV_at zs a
  rw [e] at hat ⊢
  have hd : dotTo (gm zs a) zs zs.length = a := by
    rw [gm_dot zs a zs.length (Nat.le_refl _), Nat.sub_self, h4]; show a - 0 = a; omega
  refine ⟨?_, ?_⟩
  · unfold csV
    rw [if_pos ⟨h1, gm_len zs a, fun i hi => hat i⟩, hd]
  · have := least_dot h1 (fun i _ => (hat i).1) (by omega)
    rw [hd] at this
    rw [gm_len]
    omega
/-- with a kind of value 1 the greedy never fails -/
theorem greedy_one {zs : List Int} {a : Int} (hv : cv zs = true) (h0 : 0 ≤ a) (h1 : a ≤ 300) (hz : zs[0]?.getD 0 ≤ 1) : gOk zs a = true := by
  have v := cv_at hv
  unfold gOk
  rw [decide_eq_true_iff]
  refine ⟨hv, h0, h1, ?_⟩
  have e : gl zs a zs.length = gl zs a (zs.length - 1) % zs[zs.length - 1 - (zs.length - 1)]?.getD 0 := by
    conv => lhs; rw [show zs.length = zs.length - 1 + 1 by omega]
    rfl
  have z0 := v.2.2 0 (by omega)
  rw [e, Nat.sub_self, show zs[0]?.getD 0 = 1 by omega, Int.emod_one]
  exact Int.le_refl _
theorem gV_one {zs : List Int} {a : Int} (hv : cv zs = true) (h0 : 0 ≤ a) (h1 : a ≤ 300) (hz : zs[0]?.getD 0 = 1) : gV zs a = gm zs a := by
  unfold gV; rw [if_pos (greedy_one hv h0 h1 (by omega))]
theorem gl_shift (zs : List Int) (a : Int) (j : Nat) (hj : 0 < j) : gl zs (a - zs[zs.length - 1]?.getD 0) j = gl zs a j := by
  obtain ⟨j, rfl⟩ : ∃ i, j = i + 1 := ⟨j - 1, by omega⟩
  induction j with
  | zero =>
    show (a - zs[zs.length - 1]?.getD 0) % zs[zs.length - 1 - 0]?.getD 0 = a % zs[zs.length - 1 - 0]?.getD 0
    rw [Nat.sub_zero, Int.sub_emod_right]
  | succ j ih =>
    show gl zs _ (j + 1) % _ = gl zs a (j + 1) % _
    rw [ih (by omega)]
theorem sumTo_shift (xs ys : List Int) (d : Int) (n : Nat) (h : ∀ i, i < n → xs[i]?.getD 0 = ys[i]?.getD 0) (hn : xs[n]?.getD 0 = ys[n]?.getD 0 + d) : sumTo xs (n + 1) = sumTo ys (n + 1) + d := by
  have key : ∀ k, k ≤ n → sumTo xs k = sumTo ys k := by
    intro k
    induction k with
    | zero => intro _; rfl
    | succ k ih => intro hk; unfold sumTo; rw [ih (by omega), h k (by omega)]
  show sumTo xs n + _ = sumTo ys n + _ + d
  rw [key n (Nat.le_refl _), hn]; omega
/-- one greatest coin more is one coin more -/
theorem gSum_top {zs : List Int} {a : Int} (hv : cv zs = true) (hz : zs[0]?.getD 0 = 1) (h0 : 0 ≤ a - zs[zs.length - 1]?.getD 0) (h1 : a ≤ 300) : gSum zs a = gSum zs (a - zs[zs.length - 1]?.getD 0) + 1 := by
  have v := cv_at hv
  have zl := v.2.2 (zs.length - 1) (by omega)
  obtain ⟨Z, hZ⟩ : ∃ Z, zs[zs.length - 1]?.getD 0 = Z := ⟨_, rfl⟩
  have hs : ∀ j, 0 < j → gl zs (a - Z) j = gl zs a j := fun j hj => by rw [← hZ]; exact gl_shift zs a j hj
  rw [hZ] at h0 zl ⊢
  unfold gSum
  rw [gV_one hv (by omega) h1 hz, gV_one hv h0 (by omega) hz, gm_len, gm_len]
  obtain ⟨n, hn⟩ : ∃ n, zs.length = n + 1 := ⟨zs.length - 1, by omega⟩
  have hlast : zs[n]?.getD 0 = Z := by rw [← hZ, show zs.length - 1 = n by omega]
  rw [hn]
  refine sumTo_shift _ _ 1 n (fun i hi => ?_) ?_
  · rw [gm_at _ _ i (by omega), gm_at _ _ i (by omega), Option.getD_some, Option.getD_some, hs _ (by omega)]
  · rw [gm_at _ _ n (by omega), gm_at _ _ n (by omega), Option.getD_some, Option.getD_some, show zs.length - 1 - n = 0 by omega, hlast]
    show a / Z = (a - Z) / Z + 1
    have := Int.add_mul_ediv_right (a - Z) 1 (show Z ≠ 0 by omega)
    rw [Int.one_mul, Int.sub_add_cancel] at this
    exact this
theorem least_one {zs : List Int} (hv : cv zs = true) (hz : zs[0]?.getD 0 = 1) (a : Nat) (ha : a ≤ 300) : 0 ≤ leastV zs a := by
  have h := greedy_sum (greedy_one hv (by omega : (0 : Int) ≤ a) (by omega) (by omega))
  exact h.2.2
/-- one coin of a least choice -/
theorem least_pick {zs : List Int} (hv : cv zs = true) (hz : zs[0]?.getD 0 = 1) (a : Nat) (h0 : 0 < a) (ha : a ≤ 300) : ∃ j, j < zs.length ∧ zs[j]?.getD 0 ≤ a ∧ leastV zs a = leastV zs (a - zs[j]?.getD 0) + 1 := by
  have v := (cv_at hv).2.2
  have L0 := least_one hv hz a ha
  rcases leastV_least hv a ha with ⟨h, _⟩ | ⟨n, h, h1, h2⟩
  · omega
  · rcases h1.parts 0 (by omega) with h3 | ⟨i, _, hi, hc, hn, hs⟩
    · exact absurd h3.1 (by omega)
    · have vi := v i hi
      refine ⟨i, hi, by unfold fz at hc; omega, ?_⟩
      have e : (a : Int) - zs[i]?.getD 0 = ((a - fz zs i : Nat) : Int) := by unfold fz at hc ⊢; omega
      rw [e]
      have la := leastV_add hv (a - fz zs i) i hi (least_one hv hz _ (by omega)) (by unfold fz at hc ⊢; omega)
      rw [show ((a - fz zs i : Nat) : Int) + zs[i]?.getD 0 = a by unfold fz at hc ⊢; omega] at la
      rcases leastV_least hv (a - fz zs i) (by omega) with ⟨_, g⟩ | ⟨m, g, _, g2⟩
      · exact absurd hs (g _)
      · have := g2 _ hs; omega
theorem cv_mono {zs : List Int} (hv : cv zs = true) (i j : Nat) (hij : i ≤ j) (hj : j < zs.length) : zs[i]?.getD 0 ≤ zs[j]?.getD 0 := by
  have h : ∀ i, i < zs.length → okAt zs i := by unfold cv at hv; rw [decide_eq_true_iff] at hv; exact hv.2.2
  induction j with
  | zero => rw [show i = 0 by omega]; exact Int.le_refl _
  | succ j ih =>
    by_cases e : i = j + 1
    · subst e; exact Int.le_refl _
    · have h1 := ih (by omega) (by omega)
      have h2 := (h (j + 1) hj).2.2 (by omega)
      rw [show j + 1 - 1 = j by omega] at h2
      omega
/-- few amounts decide about all -/
theorem safe_all {zs : List Int} (h : gsV zs = true) (a : Nat) (ha : a ≤ 300) : gSum zs a = leastV zs a := by
  unfold gsV at h
  rw [decide_eq_true_iff] at h
  obtain ⟨hv, hz, hs⟩ := h
  have v := cv_at hv
  induction a using Nat.strongRecOn with
  | _ a ih =>
    by_cases hlt : a < (gsEnd zs).toNat
    · exact hs a hlt
    · have zl := v.2.2 (zs.length - 1) (by omega)
      have zs2 := v.2.2 (zs.length - 2) (by omega)
      have hE : zs[zs.length - 1]?.getD 0 + zs[zs.length - 2]?.getD 0 ≤ a := by unfold gsEnd at hlt; omega
      -- the greatest coin
      obtain ⟨c, hc⟩ : ∃ c : Nat, zs[zs.length - 1]?.getD 0 = c := ⟨(zs[zs.length - 1]?.getD 0).toNat, by omega⟩
      have gt : ∀ b : Nat, b ≤ a → c ≤ b → gSum zs b = gSum zs (b - c : Nat) + 1 := fun b hb hcb => by
        have := gSum_top (a := b) hv hz (by omega) (by omega)
        rw [hc] at this
        rw [this, show (b : Int) - (c : Int) = ((b - c : Nat) : Int) by omega]
      have lt : ∀ (b : Nat) (j : Nat) (d : Nat), j < zs.length → zs[j]?.getD 0 = d → d ≤ b → b ≤ a → leastV zs b ≤ leastV zs (b - d : Nat) + 1 := fun b j d hj hd hdb hb => by
        have := leastV_add hv (b - d) j hj (least_one hv hz _ (by omega)) (by omega)
        rw [hd, show ((b - d : Nat) : Int) + (d : Int) = b by omega] at this
        exact this.2
      have la := lt a (zs.length - 1) c (by omega) hc (by omega) (Nat.le_refl _)
      have ga := gt a (Nat.le_refl _) (by omega)
      have i1 := ih (a - c) (by omega) (by omega)
      obtain ⟨j, hj, hje, hp⟩ := least_pick hv hz a (by omega) ha
      have vj := v.2.2 j hj
      obtain ⟨d, hd⟩ : ∃ d : Nat, zs[j]?.getD 0 = d := ⟨(zs[j]?.getD 0).toNat, by omega⟩
      rw [hd, show (a : Int) - (d : Int) = ((a - d : Nat) : Int) by omega] at hp
      by_cases e : j = zs.length - 1
      · subst e
        rw [hc] at hd
        have : d = c := by omega
        subst this
        omega
      · have hm := cv_mono hv j (zs.length - 2) (by omega) (by omega)
        have i2 := ih (a - d) (by omega) (by omega)
        have g2 := gt (a - d) (by omega) (by omega)
        have i3 := ih (a - d - c) (by omega) (by omega)
        have l2 := lt (a - c) j d hj hd (by omega) (by omega)
        rw [show a - c - d = a - d - c by omega] at l2
        omega
end Go.Proofs.YtoiaggjjfahabaaDoor
