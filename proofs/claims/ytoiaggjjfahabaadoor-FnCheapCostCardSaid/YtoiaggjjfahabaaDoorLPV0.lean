/- Plain steps for laws.FnPlanValid. No condition. -/
import Derived.Test.YtoiaggjjfahabaaDoorDChg2
import Derived.Test.YtoiaggjjfahabaaDoorChg12
namespace Go.Proofs.YtoiaggjjfahabaaDoor
open Go.RowKit
set_option linter.unusedVariables false
theorem sumL_set (xs : List Int) (h : Nat) (v : Int) (hh : h < xs.length) (n : Nat) : sumL (xs.set h v) n = sumL xs n + if h < n then v - xs.getD h 0 else 0 := by
  induction n with
  | zero => simp [sumL]
  | succ n ih =>
    have e1 : sumL (xs.set h v) (n + 1) = sumL (xs.set h v) n + (xs.set h v).getD n 0 := rfl
    have e2 : sumL xs (n + 1) = sumL xs n + xs.getD n 0 := rfl
    rw [e1, e2, ih, getD_set]
    by_cases e : h = n
    · subst e
      rw [if_neg (Nat.lt_irrefl h), if_pos (⟨rfl, hh⟩ : h = h ∧ h < xs.length), if_pos (Nat.lt_succ_self h)]; omega
    · rw [if_neg (fun g : h = n ∧ h < xs.length => e g.1)]
      by_cases g : h < n
      · rw [if_pos g, if_pos (by omega)]; omega
      · rw [if_neg g, if_neg (by omega)]; omega
theorem loadL_set (p : List (List Int)) (k : Nat) (row : List Int) (j : Nat) (hk : k < p.length) (n : Nat) : loadL (p.set k row) j n = loadL p j n + if k < n then row.getD j 0 - (p.getD k []).getD j 0 else 0 := by
  induction n with
  | zero => simp [loadL]
  | succ n ih =>
    have e1 : loadL (p.set k row) j (n + 1) = loadL (p.set k row) j n + ((p.set k row).getD n []).getD j 0 := rfl
    have e2 : loadL p j (n + 1) = loadL p j n + (p.getD n []).getD j 0 := rfl
    rw [e1, e2, ih, getD_set]
    by_cases e : k = n
    · subst e
      rw [if_neg (Nat.lt_irrefl k), if_pos (⟨rfl, hk⟩ : k = k ∧ k < p.length), if_pos (Nat.lt_succ_self k)]; omega
    · rw [if_neg (fun g : k = n ∧ k < p.length => e g.1)]
      by_cases g : k < n
      · rw [if_pos g, if_pos (by omega)]; omega
      · rw [if_neg g, if_neg (by omega)]; omega
/-- one unit less -/
theorem pv_less {qs : List Quad} {cs : List Int} {p : List (List Int)} (h : pvV qs cs p = true) (k j : Nat) (hk : k < qs.length) (hj : j < 6) : pvV qs cs (p.set k ((p.getD k []).set j ((p.getD k []).getD j 0 - 1))) = decide (0 < (p.getD k []).getD j 0) := by
  obtain ⟨h1, h2, h3, h4, h5⟩ := pvV_yes.1 h
  obtain ⟨r1, r2, r3⟩ := h4 k hk
  have hv := r2 j hj
  have hgk : (p.set k ((p.getD k []).set j ((p.getD k []).getD j 0 - 1))).getD k [] = (p.getD k []).set j ((p.getD k []).getD j 0 - 1) := by rw [getD_set, if_pos ⟨rfl, by omega⟩]
  by_cases hpos : 0 < (p.getD k []).getD j 0
  · rw [decide_eq_true hpos, pvV_yes]
    refine ⟨h1, h2, by rw [List.length_set]; exact h3, fun i hi => ?_, fun x hx => ?_⟩
    · by_cases e : i = k
      · subst e
        unfold rowOk
        rw [hgk]
        refine ⟨by rw [List.length_set]; exact r1, fun x hx => ?_, ?_⟩
        · rw [getD_set]
          split
          · rename_i g; rw [← g.1]; omega
          · exact r2 x hx
        · rw [sumL_set _ _ _ (by omega), if_pos hj]; omega
      · have := h4 i hi
        unfold rowOk at this ⊢
        rw [getD_set, if_neg (fun g => e g.1.symm)]; exact this
    · rw [loadL_set _ _ _ _ (by omega), if_pos hk, getD_set]
      have := h5 x hx
      split
      · rename_i g; rw [← g.1]; rw [← g.1] at this; omega
      · omega
  · rw [decide_eq_false hpos]
    refine pvV_row k hk fun g => ?_
    have := (g.2.1 j hj).1
    rw [hgk, getD_set, if_pos ⟨rfl, by omega⟩] at this
    omega
theorem pv_plan {qs : List Quad} {cs : List Int} {p : List (List Int)} (h : pvV qs cs p = true) : Plan (usL qs) (rssL qs) cs p := by
  obtain ⟨h1, h2, h3, h4, h5⟩ := pvV_yes.1 h
  refine ⟨by rw [us_len]; exact h3, fun k hk j => ?_, fun k hk => (h4 k (by rw [us_len] at hk; exact hk)).2.2, fun j hj => by rw [us_len]; exact h5 j hj⟩
  rw [us_len] at hk
  obtain ⟨r1, r2, _⟩ := h4 k hk
  rcases Nat.lt_or_ge j 6 with g | g
  · exact r2 j g
  · rw [getD_hi (p.getD k []) 0 j (by omega)]
    exact ⟨Int.le_refl _, (rs_bd h1 k j).1⟩
/-- the outer cells of a table as a list -/
theorem Tabs.vals {w : World} {b off n : Nat} {rss : List (List Int)} (h : Tabs w (some ⟨b, off, none⟩) n rss) : ∃ vs : List Value, vs.length = n ∧ (∀ j u, vs[j]? = some u → w.cell? ((⟨b, off, none⟩ : Addr).add j) = some u) ∧ (∀ u ∈ vs, u.oneCell' = true) ∧
    ∀ k, k < n → ∃ Ak ck, vs[k]? = some (.slice Ak (rss.getD k []).length ck) ∧ (rss.getD k []).length ≤ ck ∧ Ints w Ak (rss.getD k []).length (rss.getD k []) := by
  have key : ∀ k, k < n → ∃ Ak ck, w.cell? ⟨b, off + k, none⟩ = some (.slice Ak (rss.getD k []).length ck) ∧ (rss.getD k []).length ≤ ck ∧ Ints w Ak (rss.getD k []).length (rss.getD k []) := fun k hk => by
    obtain ⟨b', o', e, _, hc⟩ := h.2 (by omega)
    simp only [Option.some.injEq, Addr.mk.injEq, and_true] at e
    obtain ⟨rfl, rfl⟩ := e
    exact hc k hk
  refine ⟨(List.range n).map fun k => (w.cell? ⟨b, off + k, none⟩).getD (.bool false), by simp, fun j u hj => ?_, fun u hu => ?_, fun k hk => ?_⟩
  · rw [List.getElem?_map] at hj
    rcases Nat.lt_or_ge j n with g | g
    · rw [List.getElem?_range g] at hj
      obtain ⟨Ak, ck, h1, _, _⟩ := key j g
      rw [add_none, h1]
      simp only [Option.map_some, h1, Option.getD_some] at hj
      exact hj
    · rw [List.getElem?_eq_none (by simpa using g)] at hj; cases hj
  · obtain ⟨k, hk, rfl⟩ := List.mem_map.mp hu
    obtain ⟨Ak, ck, h1, _, _⟩ := key k (List.mem_range.mp hk)
    rw [h1]; rfl
  · obtain ⟨Ak, ck, h1, h2, h3⟩ := key k hk
    refine ⟨Ak, ck, ?_, h2, h3⟩
    rw [List.getElem?_map, List.getElem?_range hk]
    simp [h1]
/-- the block behind an own row -/
theorem own_blk {w : World} {base e g n c : Nat} {xs : List Value} (h : w.ownsRow base e 1 (.slice (some ⟨g, 0, none⟩) n c) n xs) : ∃ cur, Blk w g e cur ∧ (∀ i, i < n → cur[i]? = xs[i]?) ∧ n ≤ cur.size := by
  rcases h.2 with ⟨h0, _⟩ | ⟨g', c', cur, e1, hb, hg, hcc, hm, hsz, htk⟩
  · cases h0
  · simp only [Value.slice.injEq, Option.some.injEq, Addr.mk.injEq, and_true, true_and] at e1
    obtain ⟨rfl, rfl⟩ := e1
    have hB : Blk w g e cur := hg
    refine ⟨cur, hB, fun i hi => ?_, by omega⟩
    have hc := h.cellAt i (by omega)
    rw [hB.cell] at hc
    exact hc
theorem blk_put {cs : Array Value} {x : Nat} (u : Value) (hx : x < cs.size) : (cs.setIfInBounds x u)[x]? = some u ∧ ∀ i, i ≠ x → (cs.setIfInBounds x u)[i]? = cs[i]? :=
  ⟨by rw [Array.getElem?_setIfInBounds, if_pos rfl, if_pos hx], fun i hi => by rw [Array.getElem?_setIfInBounds, if_neg (fun q => hi q.symm)]⟩
/-- a table that shares all rows but one -/
theorem Tabs.mod {w W : World} {gx gy cy n k : Nat} {vs : List Value} {rss : List (List Int)} {row : List Int} (hr : rss.length = n)
    (hv : ∀ i, i < n → ∃ Ai ci, vs[i]? = some (.slice Ai (rss.getD i []).length ci) ∧ (rss.getD i []).length ≤ ci ∧ Ints w Ai (rss.getD i []).length (rss.getD i []))
    (hb : Below w.heap.size w W) (hgx : gx < W.heap.size) (hc : ∀ i, i < n → i ≠ k → W.cell? ⟨gx, i, none⟩ = vs[i]?) (hck : W.cell? ⟨gx, k, none⟩ = some (.slice (some ⟨gy, 0, none⟩) 6 cy)) (h6 : row.length = 6) (hcy : 6 ≤ cy) (hy : Ints W (some ⟨gy, 0, none⟩) 6 row) (hk : k < n) :
    Tabs W (some ⟨gx, 0, none⟩) n (rss.set k row) := by
  refine ⟨by simp [hr], fun _ => ⟨gx, 0, rfl, hgx, fun i hi => ?_⟩⟩
  rw [getD_set, Nat.zero_add]
  by_cases e : k = i
  · subst e
    rw [if_pos ⟨rfl, by omega⟩, h6]
    exact ⟨_, cy, hck, hcy, hy⟩
  · rw [if_neg (fun g => e g.1)]
    obtain ⟨Ai, ci, h1, h2, h3⟩ := hv i hi
    exact ⟨Ai, ci, by rw [hc i hi (fun g => e g.symm), h1], h2, h3.below hb⟩
end Go.Proofs.YtoiaggjjfahabaaDoor
/- The draw for laws.FnPlanValid. No condition. -/
namespace Go.Proofs.YtoiaggjjfahabaaDoor
open Go.RowKit
set_option linter.unusedVariables false
set_option maxRecDepth 100000 in
theorem drawPlanValid_ok (A : Option Addr) (n cap : Nat) (zs : List Int) (w : World) (h : Nums .u8 w A n cap zs) (hn : n ≤ 1048576) :
    Calls Tryd.prog 30 #[.slice A n cap] w fun e w' => ∃ B k c qs G m d ys P np cp rows, e = .returned (.tuple #[.slice B k c, .slice G m d, .slice P np cp]) ∧ Books w' B k qs ∧ Ints w' G m ys ∧ Tabs w' P np rows ∧ k ≤ 9 ∧ k ≤ c ∧ c ≤ maxLen ∧ m ≤ 7 ∧ m ≤ d ∧ d ≤ maxLen ∧ np ≤ 9 ∧ np ≤ cp ∧ cp ≤ maxLen ∧ (∀ i, i < np → (rows.getD i []).length = 6) ∧ Mid rows ∧ SmA qs ∧ Below w.heap.size w w' := by
  go_enter Tryd.func30, Tryd.ntmps30
  go_wp2_with (first
    | (go_at_call 48; ((with_reducible refine (opN A n cap zs _ h hn).mono ?_); rintro e w1 ⟨rfl, hr, hb, hlt⟩; clear h))
    | (go_at_call 66; ((with_reducible refine (charge_ok w.heap.size _ _ hr ?_).mono ?_); (omega); rintro e w2 ⟨B, k, c, qs, G, m, d, ys, P, np, cp, rows, rfl, hB, hI, hT, k1, k2, k3, m1, m2, m3, n1, n2, n3, h6, hmd, q1, q2, hr2, hs⟩; have hw := hb.trans hs.1; have hB2 := Lib.hid (hB _ (Stp.refl _ _)); have hI2 := Lib.hid (hI _ (Stp.refl _ _)); have hT2 := Lib.hid (hT _ (Stp.refl _ _)); clear hr hs hb hB hI hT)))
  refine bodyPost_ret (v := .tuple #[.slice B k c, .slice G m d, .slice P np cp]) (by simp [results, Tryd.results30, go_sem]) rfl ?_
  exact ⟨B, k, c, qs, G, m, d, ys, P, np, cp, rows, rfl, hB2.out, hI2.out, hT2.out, k1, k2, k3, m1, m2, m3, n1, n2, n3, h6, hmd, smA_all q1, hw⟩
end Go.Proofs.YtoiaggjjfahabaaDoor
