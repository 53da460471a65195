/- ChangeFrom and CoinsFor of the reference: what they compute. Conditions: the lists' lengths. -/
import Derived.Test.YtoiaggjjfahabaaDoorCFrom
namespace Go.Proofs.YtoiaggjjfahabaaDoor
open Go.RowKit
set_option linter.unusedVariables false
/-- a result ([]int, bool): the slice reads as xs and begins a block of new memory -/
def ResW (w : World) (xs : List Int) (ok : Bool) (e : Ending) (w' : World) : Prop :=
  ∃ A c, e = .returned (.tuple #[.slice A xs.length c, .bool ok]) ∧ (0 < xs.length → ∃ g cur, A = some ⟨g, 0, none⟩ ∧ w.heap.size ≤ g ∧ Blk w' g 3 cur ∧ ∀ k, k < xs.length → cur[k]? = some (.int .i64 (xs.getD k 0))) ∧ Below w.heap.size w w'
/-- the slice (A, n) reads as xs, and where it has elements it begins a block between lo and hi -/
def OwnW (w : World) (lo hi : Nat) (A : Option Addr) (n : Nat) (xs : List Int) : Prop :=
  xs.length = n ∧ (0 < n → ∃ g cur, A = some ⟨g, 0, none⟩ ∧ lo ≤ g ∧ g < hi ∧ Blk w g 3 cur ∧ ∀ k, k < n → cur[k]? = some (.int .i64 (xs.getD k 0)))
section
variable {w w' : World} {lo hi l h n : Nat} {A : Option Addr} {xs : List Int}
theorem OwnW.ints (a : OwnW w lo hi A n xs) : Ints w A n xs :=
  ⟨a.1, fun hn => by
    obtain ⟨g, cur, e, _, _, hB, hc⟩ := a.2 hn
    exact ⟨g, 0, e, hB.lt, fun k hk => by rw [Nat.zero_add, hB.cell, hc k hk]⟩⟩
theorem OwnW.below (a : OwnW w lo hi A n xs) (hb : Below w.heap.size w w') : OwnW w' lo hi A n xs :=
  ⟨a.1, fun hn => by
    obtain ⟨g, cur, e, h1, h2, hB, hc⟩ := a.2 hn
    exact ⟨g, cur, e, h1, h2, hB.below hb hB.lt, hc⟩⟩
theorem OwnW.chg (a : OwnW w l h A n xs) (c : Chg lo hi w w') (hd : h ≤ lo ∨ hi ≤ l) : OwnW w' l h A n xs :=
  ⟨a.1, fun hn => by
    obtain ⟨g, cur, e, h1, h2, hB, hc⟩ := a.2 hn
    exact ⟨g, cur, e, h1, h2, (c.block g hB.lt (by omega)).trans hB, hc⟩⟩
theorem ResW.own {ok : Bool} {e : Ending} (r : ResW w xs ok e w') : ∃ A c, e = .returned (.tuple #[.slice A xs.length c, .bool ok]) ∧ OwnW w' w.heap.size w'.heap.size A xs.length xs ∧ Below w.heap.size w w' := by
  obtain ⟨A, c, e1, h2, h3⟩ := r
  refine ⟨A, c, e1, ⟨rfl, fun hn => ?_⟩, h3⟩
  obtain ⟨g, cur, e2, h4, h5, h6⟩ := h2 hn
  exact ⟨g, cur, e2, h4, h5.lt, h5, h6⟩
theorem ResW.nil (w w' : World) (c : Nat) (A : Option Addr) (ok : Bool) (hb : Below w.heap.size w w') : ResW w [] ok (.returned (.tuple #[.slice A 0 c, .bool ok])) w' :=
  ⟨A, c, rfl, fun h => absurd h (by simp), hb⟩
end
set_option maxRecDepth 100000 in
set_option maxHeartbeats 2000000 in
theorem ChangeFrom_s (A Q : Option Addr) (n c1 nq c2 : Nat) (zs qs : List Int) (m : Int) (w : World) (h : Ints w A n zs) (hQ : Ints w Q nq qs) (hn : n ≤ 1048576) (hnq : nq ≤ 1048576) :
    Calls Tryd.prog 17 #[.slice A n c1, .slice Q nq c2, .int .i64 m] w (ResW w (chV zs qs m) (chO zs qs m)) := by
  have hlen := h.1
  have hlq := hQ.1
  have V := CoinsValid_s A n c1 zs w h (by omega)
  by_cases hx : cv zs = true ∧ nq = n ∧ 0 ≤ m ∧ m ≤ 300
  · obtain ⟨hv, rfl, h0, h1⟩ := hx
    obtain ⟨v1, v2, v3⟩ := cv_at hv
    rw [hlen] at v1 v2
    obtain ⟨a, rfl⟩ := Int.eq_ofNat_of_zero_le h0
    have W0 := fun (w : World) (hA : Ints w A nq zs) (hQ : Ints w Q nq qs) (hq : ∀ j, j < nq → 0 ≤ qs.getD j 0 ∧ qs.getD j 0 ≤ 9) => l5From_s nq c1 c2 zs qs (fz zs) (fz qs) v2 (fun j hj => fz_at hv j (by omega)) (fun j hj => by have := hq j hj; rw [List.getD_eq_getElem?_getD] at this ⊢; unfold fz; omega) A Q nq a w (Nat.le_refl _) (by omega) hA hQ
    have e1 : Hid ((∀ j, j < nq → 0 ≤ qs.getD j 0 ∧ qs.getD j 0 ≤ 9) → chV zs qs (a : Int) = cwV (fz zs) (fz qs) nq a ∧ chO zs qs (a : Int) = cwO (fz zs) (fz qs) nq a) := fun hq => by
      have hh : chH zs qs (a : Int) := ⟨hv, by omega, h0, h1, fun j hj => hq j (by omega)⟩
      unfold chV chO
      rw [if_pos hh, if_pos hh, hlen]; exact ⟨rfl, rfl⟩
    have e2 : Hid (∀ j, j < nq → ¬ (0 ≤ qs.getD j 0 ∧ qs.getD j 0 ≤ 9) → chV zs qs (a : Int) = [] ∧ chO zs qs (a : Int) = false) := fun j hj hq => ch_no (fun g => hq (g.2.2.2.2 j (by omega)))
    have hr : inR (a : Int) 0 300 = true := inR_yes (by omega)
    have HOV : Hid (cwO (fz zs) (fz qs) nq a = false → cwV (fz zs) (fz qs) nq a = []) := fun hf => by
      unfold cwO at hf
      unfold cwV
      rw [if_neg (by simpa using hf)]
    rw [hv] at V
    clear hv v3
    obtain ⟨qb, qo, rfl, hql, hqc⟩ := hQ.2 (by omega)
    go_enter Tryd.func17, Tryd.ntmps17
    go_wp2_with (first
      | (go_at_call 53; ((with_reducible refine V.mono ?_); rintro e w1 ⟨rfl, hb1⟩; clear V))
      | (go_at_call 44; refine (l1In_any _ _ _ _).mono ?_; rintro e w' ⟨rfl, rfl⟩))
    clear hr
    go_loopw [8] (fun i wr => ∃ k : Nat, k ≤ nq ∧ i = .int .i64 k ∧ (∀ j, j < k → 0 ≤ qs.getD j 0 ∧ qs.getD j 0 ≤ 9) ∧ Below w.heap.size w wr) (fun i _ => nq - (intOf i).toNat)
    case atStart => exact ⟨0, by omega, rfl, fun j hj => absurd hj (by omega), hb1⟩
    case round =>
      clear hb1
      obtain ⟨k, hk, rfl, ho, hb⟩ := hrel
      have HO := Lib.hid ho
      clear ho
      by_cases hlt : k < nq
      · have q0 := (hb.cell (p := ⟨qb, qo + k, none⟩) hql).trans (hqc k hlt)
        have e3 := e2.out k hlt
        obtain ⟨y, hy⟩ : ∃ y, qs.getD k 0 = y := ⟨_, rfl⟩
        rw [hy] at q0 e3
        have HY := Lib.hid hy
        have E3 := Lib.hid e3
        have i1 : (0 : Int) ≤ (k : Int) := by omega
        have i2 : (k : Int) < (nq : Int) := by omega
        clear hqc hy e3
        by_cases g1 : 0 ≤ y ∧ y ≤ 9
        · have x1 : inR y 0 9 = true := inR_yes g1
          have G1 := Lib.hid g1
          clear g1
          go_wp2_with (go_at_call 44; refine (l1In_any _ _ _ _).mono ?_; rintro e w' ⟨rfl, rfl⟩)
          go_roundw
          case rel => exact ⟨k + 1, hlt, by go_num, fun j hj => by
            rcases Nat.lt_or_ge j k with q | q
            · exact HO.out j q
            · obtain rfl : j = k := by omega
              rw [HY.out]; exact G1.out, hb⟩
          case measure => simp [intOf]; omega
        · have x1 : inR y 0 9 = false := inR_no g1
          have E4 := Lib.hid (E3.out g1)
          clear g1
          go_wp2_with (go_at_call 44; refine (l1In_any _ _ _ _).mono ?_; rintro e w' ⟨rfl, rfl⟩)
          go_ret2
          rw [E4.out.1, E4.out.2]
          exact ResW.nil _ _ _ _ _ (by have hz := hb.size; (repeat (first | exact Below.refl _ _ | assumption | refine Below.alloc ?_ (by first | omega | (simp; done) | (simp; omega)) _ | refine Below.drew ?_ | refine bdN ?_ _ | refine Below.setCell ?_ (by first | omega | (simp; done) | (simp; omega)) _)))
      · obtain rfl : k = nq := by omega
        have E1 := Lib.hid (e1.out HO.out)
        have W1 := W0 wr (h.below hb) (hQ.below hb) HO.out
        have hz := hb.size
        clear W0 hqc
        cases hoo : cwO (fz zs) (fz qs) k a
        · have EV := Lib.hid (HOV.out hoo)
          rw [hoo] at W1 E1
          clear hoo
          go_wp2_with (go_at_call 54; ((with_reducible refine W1.mono ?_); rintro e w2 ⟨g, c, rfl, hB, hb2⟩))
          go_ret2
          rw [E1.out.1, E1.out.2, EV.out]
          exact ResW.nil _ _ _ _ _ (by have hT := bt hb hb2; have hz2 := hT.size; exact hT.alloc hz2 _)
        · rw [hoo] at W1 E1
          clear hoo
          go_wp2_with (go_at_call 54; ((with_reducible refine W1.mono ?_); rintro e w2 ⟨g, c, rfl, ⟨q1, q2, q3, cur, q4, q5⟩, hb2⟩))
          go_ret2
          rw [E1.out.1, E1.out.2]
          exact ⟨some ⟨g, 0, none⟩, c, rfl, fun _ => ⟨g, cur, rfl, by omega, q4, q5⟩, bt hb hb2⟩
  · have hno := ch_no (zs := zs) (qs := qs) (m := m) fun g => hx ⟨g.1, by have := g.2.1; omega, g.2.2.1, g.2.2.2.1⟩
    have E := Lib.hid hno
    rcases (show cv zs = false ∨ (cv zs = true ∧ ¬ nq = n) ∨ (cv zs = true ∧ nq = n ∧ ¬ (0 ≤ m ∧ m ≤ 300)) from by revert hx; cases cv zs <;> simp <;> omega) with g | ⟨g, g1⟩ | ⟨g, g1, g2⟩
    all_goals
      clear hx hno
      rw [g] at V
      clear g
      try have hnb : ((nq : Int) != (n : Int)) = true := by simp; omega
      try have hr : inR m 0 300 = false := inR_no g2
      try clear g2
      try subst g1
      clear hlen hlq
      go_enter Tryd.func17, Tryd.ntmps17
      go_wp2_with (first
        | (go_at_call 53; ((with_reducible refine V.mono ?_); rintro e w1 ⟨rfl, hb1⟩; have hz := hb1.size))
        | (go_at_call 44; refine (l1In_any _ _ _ _).mono ?_; rintro e w' ⟨rfl, rfl⟩))
      go_ret2
      rw [E.out.1, E.out.2]
      exact ResW.nil _ _ _ _ _ (by (repeat (first | exact Below.refl _ _ | assumption | refine Below.alloc ?_ (by first | omega | (simp; done) | (simp; omega)) _ | refine Below.drew ?_ | refine bdN ?_ _ | refine Below.setCell ?_ (by first | omega | (simp; done) | (simp; omega)) _)))
/-- the reference's table holds the least numbers out of a great stock -/
theorem tab_cost {zs : List Int} (hv : cv zs = true) {a j : Nat} (hj : j ≤ a) (ha : a ≤ 300) : (tabTo zs a).getD j 0 = cost (fz zs) s300 zs.length j := by
  have h1 := tab_least zs (cv_at hv).2.2 j
  have h2 := cost_least (fz zs) s300 zs.length j (fun k hk => (fz_at hv k hk).2.1) (fun k hk => by show j ≤ 300; omega)
  have e := tabTo_pre zs j (a - j) j (Nat.le_refl _)
  rw [show j + (a - j) = a by omega] at e
  rw [List.getD_eq_getElem?_getD, e]
  exact h1.uniq h2
theorem least_cost {zs : List Int} (hv : cv zs = true) {a : Nat} (ha : a ≤ 300) : leastV zs a = cost (fz zs) s300 zs.length a :=
  (leastV_least hv a ha).uniq (cost_least (fz zs) s300 zs.length a (fun k hk => (fz_at hv k hk).2.1) (fun k hk => by show a ≤ 300; omega))
/-- a kind that can be in the fewest coins -/
def usable (z q : Nat → Nat) (n s k : Nat) : Prop := z k ≤ s ∧ 0 ≤ cost z q n (s - z k) ∧ cost z q n (s - z k) = cost z q n s - 1
theorem usable_some (z q : Nat → Nat) (n s : Nat) (hz : ∀ j, j < n → 1 ≤ z j) (hq : ∀ j, j < n → s ≤ q j) (hs : 0 < s) (hc : 0 ≤ cost z q n s) : ∃ k, k < n ∧ usable z q n s k := by
  obtain ⟨x, hx⟩ := Int.eq_ofNat_of_zero_le hc
  obtain ⟨S, M⟩ := cost_sol hz hq hx
  rcases S.parts 0 (by omega) with h | ⟨i, _, h1, h2, h3, h4⟩
  · exact absurd h.1 (by omega)
  · have e : cost z q n (s - z i) = ((x - 1 : Nat) : Int) := sol_cost hz (fun j hj => by have := hq j hj; omega) h4 fun x' h' => by
      have g := h'.add h1
      rw [show s - z i + z i = s by omega] at g
      have := M _ g; omega
    exact ⟨i, h1, h2, by omega, by omega⟩
theorem usable_step (z q : Nat → Nat) (n s k : Nat) (hz : ∀ j, j < n → 1 ≤ z j) (hq : ∀ j, j < n → s ≤ q j) (hk : k < n) (hc : 0 ≤ cost z q n s) (hu : usable z q n s k) (hmax : ∀ i, k < i → i < n → ¬ usable z q n s i) (j : Nat) :
    (way z q n s).getD j 0 = (way z q n (s - z k)).getD j 0 + if j = k then 1 else 0 := by
  obtain ⟨x, hx⟩ := Int.eq_ofNat_of_zero_le hc
  obtain ⟨h1, h2, h3⟩ := hu
  have X := cost_sol hz hq hx
  have hx1 : 1 ≤ x := by omega
  have S2 : Sol z n (s - z k) (x - 1) := (cost_sol (q := q) hz (fun j hj => by have := hq j hj; omega) (show cost z q n (s - z k) = ((x - 1 : Nat) : Int) by omega)).1
  refine way_step z q n k s x hk hz hq hx1 hx h1 S2 (fun i hi hin hza hS => hmax i hi hin ?_) j
  have e : cost z q n (s - z i) = ((x - 1 : Nat) : Int) := sol_cost hz (fun j hj => by have := hq j hj; omega) hS fun x' h' => by
    have g := h'.add hin
    rw [show s - z i + z i = s by omega] at g
    have := X.2 _ g; omega
  exact ⟨hza, by omega, by omega⟩
theorem way_ext (z q : Nat → Nat) (n a : Nat) (hz : ∀ j, j < n → 1 ≤ z j) (ms : List Int) (hl : ms.length = n) (h : ∀ j : Nat, (((way z q n a).getD j 0 : Nat) : Int) = ms.getD j 0 + (((way z q n 0).getD j 0 : Nat) : Int)) : ms = (way z q n a).map Int.ofNat := by
  apply List.ext_getElem
  · rw [hl, List.length_map, way_len]
  · intro j h1 h2
    have := h j
    rw [way_zero z q n hz j] at this
    have hl2 : j < (way z q n a).length := by simpa using h2
    rw [List.getD_eq_getElem?_getD, List.getElem?_eq_getElem hl2, List.getD_eq_getElem?_getD, List.getElem?_eq_getElem h1] at this
    simp at this ⊢
    omega
theorem ms_step {ms : List Int} {n k : Nat} (hl : ms.length = n) (hk : k < n) (f g : Nat → Nat) (hf : ∀ j, f j = g j + if j = k then 1 else 0) (W : Nat → Int) (h : ∀ j, W j = ms.getD j 0 + (f j : Int)) (j : Nat) : W j = (ms.set k (ms.getD k 0 + 1)).getD j 0 + (g j : Int) := by
  have h1 := h j
  have h2 := hf j
  rw [List.getD_eq_getElem?_getD, List.getElem?_set]
  by_cases e : k = j
  · subst e
    rw [if_pos rfl, if_pos (by omega)]
    rw [if_pos rfl] at h2
    simp only [Option.getD_some]
    omega
  · rw [if_neg e, ← List.getD_eq_getElem?_getD]
    rw [if_neg (fun q => e q.symm)] at h2
    omega
end Go.Proofs.YtoiaggjjfahabaaDoor
