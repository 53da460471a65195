/- The draw of two bookings, and the walk of laws.FnOverlap. No condition. -/
import Derived.Test.YtolnjpnaoeeanaaDoorLBook
import Derived.Test.YtolnjpnaoeeanaaDoorBAt
namespace Go.Proofs.YtolnjpnaoeeanaaDoor
open Go.RowKit
set_option linter.unusedVariables false
/-- some hour before k is had twice -/
def bothTo (qs : List Quad) : Nat → Bool
  | 0 => false
  | k + 1 => bothTo qs k || (baV qs k == 2)
theorem bothTo_iff (qs : List Quad) (k : Nat) : bothTo qs k = true ↔ ∃ i : Nat, i < k ∧ baV qs i = 2 := by
  induction k with
  | zero => simp [bothTo]
  | succ k ih =>
    unfold bothTo
    rw [Bool.or_eq_true, ih]
    constructor
    · rintro (⟨i, h1, h2⟩ | h)
      · exact ⟨i, by omega, h2⟩
      · exact ⟨k, by omega, by simpa using h⟩
    · rintro ⟨i, h1, h2⟩
      by_cases e : i = k
      · subst e; exact .inr (by simpa using h2)
      · exact .inl ⟨i, by omega, h2⟩
theorem baV2 (p q : Quad) (h : Int) : baV [p, q] h = 2 ↔ atH p h ∧ atH q h := by
  unfold baV
  simp only [List.length_cons, List.length_nil]
  unfold baTo baTo baTo
  by_cases h1 : atH p h <;> by_cases h2 : atH q h <;> simp [h1, h2]
theorem both_ovl {a b c d a' b' c' d' : Int} (h1 : 0 ≤ b ∧ b < c ∧ c ≤ 30) (h2 : 0 ≤ b' ∧ b' < c' ∧ c' ≤ 30) : bothTo [⟨a, b, c, d⟩, ⟨a', b', c', d'⟩] 30 = ovl b c b' c' := by
  rw [Bool.eq_iff_iff, bothTo_iff]
  unfold ovl
  rw [decide_eq_true_iff]
  constructor
  · rintro ⟨i, _, h⟩
    rw [baV2] at h
    unfold atH at h
    simp only at h
    omega
  · intro h
    refine ⟨(max b b').toNat, by omega, ?_⟩
    rw [baV2]
    unfold atH
    simp only
    omega
theorem books2 {w : World} {g : Nat} {t : TypeId} {a b c d a' b' c' d' : Int} (h : Blk w g t #[.int .i64 a, .int .i64 b, .int .i64 c, .int .i64 d, .int .i64 a', .int .i64 b', .int .i64 c', .int .i64 d']) :
    Books w (some ⟨g, 0, none⟩) 2 [⟨a, b, c, d⟩, ⟨a', b', c', d'⟩] := by
  refine ⟨rfl, fun _ => ⟨g, 0, rfl, h.lt, fun k hk => ?_⟩⟩
  have e := h.cell
  rcases (show k = 0 ∨ k = 1 by omega) with rfl | rfl
  · exact ⟨by rw [e]; rfl, by rw [e]; rfl, by rw [e]; rfl, by rw [e]; rfl⟩
  · exact ⟨by rw [e]; rfl, by rw [e]; rfl, by rw [e]; rfl, by rw [e]; rfl⟩
set_option maxRecDepth 100000 in
theorem drawOverlap_ok (A : Option Addr) (n cap : Nat) (zs : List Int) (w : World) (h : Nums .u8 w A n cap zs) (hn : n ≤ 1048576) :
    Calls Tryd.prog 25 #[.slice A n cap] w fun e w' => ∃ b c d b' c' d', e = .returned (.tuple #[.agg #[.int .i64 1, .int .i64 b, .int .i64 c, .int .i64 d], .agg #[.int .i64 2, .int .i64 b', .int .i64 c', .int .i64 d']]) ∧ (0 ≤ b ∧ b < c ∧ c ≤ 30) ∧ (0 ≤ b' ∧ b' < c' ∧ c' ≤ 30) ∧ Below w.heap.size w w' := by
  have hb0 : Below w.heap.size w ((w.alloc (.cells #[.int .i64 0, .int .i64 0, .int .i64 0, .int .i64 0] 34)).alloc (.cells #[.int .i64 0, .int .i64 0, .int .i64 0, .int .i64 0] 34)) := by (repeat (first | exact Below.refl _ _ | assumption | refine Below.alloc ?_ (by first | omega | (simp; done) | (simp; omega)) _ | refine Below.drew ?_ | refine bdN ?_ _ | refine Below.setCell ?_ (by first | omega | (simp; done) | (simp; omega)) _))
  have hR := (Blk.new w 34 #[.int .i64 0, .int .i64 0, .int .i64 0, .int .i64 0]).alloc (.cells #[.int .i64 0, .int .i64 0, .int .i64 0, .int .i64 0] 34)
  have hQ : Blk ((w.alloc (.cells #[.int .i64 0, .int .i64 0, .int .i64 0, .int .i64 0] 34)).alloc (.cells #[.int .i64 0, .int .i64 0, .int .i64 0, .int .i64 0] 34)) (w.heap.size + 1) 34 #[.int .i64 0, .int .i64 0, .int .i64 0, .int .i64 0] := by
    have := Blk.new (w.alloc (.cells #[.int .i64 0, .int .i64 0, .int .i64 0, .int .i64 0] 34)) 34 #[.int .i64 0, .int .i64 0, .int .i64 0, .int .i64 0]
    simpa using this
  have hN := h.lower hb0
  clear h
  go_enter Tryd.func25, Tryd.ntmps25
  go_wp2_with (go_at_call 53; refine (op (w.heap.size + 2) A n cap zs _ hN hn (by simp)).mono ?_; rintro e w1 ⟨rfl, hr, hb, hlt⟩; replace hR := hR.below hb (by omega); replace hQ := hQ.below hb (by omega); have hw := hb0.trans (hb.mono (by omega)); clear hN hb0)
  go_wp2_with (go_at_call 57; ((with_reducible refine (book_good (w.heap.size + 2) 1 _ _ hr ?_ ?_).mono ?_); (omega); (unfold Sm; omega); rintro e w2 ⟨b, c, d, rfl, k1, k2, k3, k4, k5, k6, hr2, hs⟩; replace hR := hs.blk hR (by omega); replace hQ := hs.blk hQ (by omega); have hw2 := hw.trans (hs.1.mono (by omega)); clear hr hs hb))
  go_wp2_with (go_at_call 57; ((with_reducible refine (book_good (w.heap.size + 2) 2 _ _ hr2 ?_ ?_).mono ?_); (omega); (unfold Sm; omega); rintro e w3 ⟨b', c', d', rfl, l1, l2, l3, l4, l5, l6, hr3, hs⟩; replace hR := hs.blk hR (by omega); replace hQ := hs.blk hQ (by omega); have hw3 := hw2.trans (hs.1.mono (by omega)); have cR := hR.cell; have fR := hR.frozen; have cQ := hQ.cell; have fQ := hQ.frozen; clear hr2 hs))
  refine bodyPost_ret (v := .tuple #[.agg #[.int .i64 1, .int .i64 b, .int .i64 c, .int .i64 d], .agg #[.int .i64 2, .int .i64 b', .int .i64 c', .int .i64 d']]) (by simp [results, Tryd.results25, go_sem, cR, cQ]) rfl ?_
  have HW := Lib.hid hw3
  clear hw hw2 hw3
  exact ⟨b, c, d, b', c', d', rfl, by omega, by omega, ((((((((HW.out).setCell (Nat.le_refl _) _).setCell (Nat.le_refl _) _).setCell (Nat.le_refl _) _).setCell (Nat.le_refl _) _).setCell (Nat.le_succ _) _).setCell (Nat.le_succ _) _).setCell (Nat.le_succ _) _).setCell (Nat.le_succ _) _⟩
set_option maxRecDepth 100000 in
set_option maxHeartbeats 1000000 in
theorem FnOverlap_walk (w : World) (A : Option Addr) (n cap : Nat) (zs : List Int) (h : Nums .u8 w A n cap zs) :
    Calls Tryd.prog 6 #[.slice A n cap] w fun e w' => e = .returned (.bool true) ∧ Below w.heap.size w w' := by
  go_enter Tryd.func6, Tryd.ntmps6
  by_cases hn : 1048576 < n
  · have hnb : decide (1048576 < n) = true := by simpa using hn
    clear h
    go_wp2
    go_ret
    exact ⟨rfl, by (repeat (first | exact Below.refl _ _ | assumption | refine Below.alloc ?_ (by first | omega | (simp; done) | (simp; omega)) _ | refine Below.drew ?_ | refine bdN ?_ _ | refine Below.setCell ?_ (by first | omega | (simp; done) | (simp; omega)) _))⟩
  · have hnb : decide (1048576 < n) = false := by simpa using hn
    go_wp2_with (go_at_call 25; refine (drawOverlap_ok A n cap zs _ h (by omega)).mono ?_; rintro e w1 ⟨b, c, d, b', c', d', rfl, g1, g2, hw⟩; clear h)
    have hS := (Blk.new w1 34 #[.int .i64 1, .int .i64 b, .int .i64 c, .int .i64 d]).alloc (.cells #[.int .i64 2, .int .i64 b', .int .i64 c', .int .i64 d'] 34)
    have hQ : Blk ((w1.alloc (.cells #[.int .i64 1, .int .i64 b, .int .i64 c, .int .i64 d] 34)).alloc (.cells #[.int .i64 2, .int .i64 b', .int .i64 c', .int .i64 d'] 34)) (w1.heap.size + 1) 34 #[.int .i64 2, .int .i64 b', .int .i64 c', .int .i64 d'] := by
      have := Blk.new (w1.alloc (.cells #[.int .i64 1, .int .i64 b, .int .i64 c, .int .i64 d] 34)) 34 #[.int .i64 2, .int .i64 b', .int .i64 c', .int .i64 d']
      simpa using this
    replace hw := (hw.alloc hw.size (.cells #[.int .i64 1, .int .i64 b, .int .i64 c, .int .i64 d] 34)).alloc (by have := hw.size; simp; omega) (.cells #[.int .i64 2, .int .i64 b', .int .i64 c', .int .i64 d'] 34)
    have e1 : ovl b' c' b c = ovl b c b' c' := by unfold ovl; rw [decide_eq_decide]; exact And.comm
    have e2 := both_ovl (a := 1) (d := d) (a' := 2) (d' := d') g1 g2
    have e3 : ovl b c c (c + 3) = false := by unfold ovl; rw [decide_eq_false_iff_not]; omega
    obtain ⟨o, ho⟩ : ∃ o, ovl b c b' c' = o := ⟨_, rfl⟩
    rw [ho] at e1 e2
    have O1 : ∀ w, Calls Tryd.prog 26 #[.agg #[.int .i64 1, .int .i64 b, .int .i64 c, .int .i64 d], .agg #[.int .i64 2, .int .i64 b', .int .i64 c', .int .i64 d']] w fun e w' => e = .returned (.bool o) ∧ Below w.heap.size w w' := fun w => by have := Overlap_i 1 b c d 2 b' c' d' w; rw [ho] at this; exact this
    have O2 : ∀ w, Calls Tryd.prog 27 #[.agg #[.int .i64 1, .int .i64 b, .int .i64 c, .int .i64 d], .agg #[.int .i64 2, .int .i64 b', .int .i64 c', .int .i64 d']] w fun e w' => e = .returned (.bool o) ∧ Below w.heap.size w w' := fun w => by have := Overlap_s 1 b c d 2 b' c' d' w; rw [ho] at this; exact this
    have O3 : ∀ w, Calls Tryd.prog 26 #[.agg #[.int .i64 2, .int .i64 b', .int .i64 c', .int .i64 d'], .agg #[.int .i64 1, .int .i64 b, .int .i64 c, .int .i64 d]] w fun e w' => e = .returned (.bool o) ∧ Below w.heap.size w w' := fun w => by have := Overlap_i 2 b' c' d' 1 b c d w; rw [e1] at this; exact this
    have O4 : ∀ w, Calls Tryd.prog 26 #[.agg #[.int .i64 1, .int .i64 b, .int .i64 c, .int .i64 d], .agg #[.int .i64 0, .int .i64 c, .int .i64 (c + 3), .int .i64 0]] w fun e w' => e = .returned (.bool false) ∧ Below w.heap.size w w' := fun w => by have := Overlap_i 1 b c d 0 c (c + 3) 0 w; rw [e3] at this; exact this
    have E2 := Lib.hid e2
    clear ho e1 e2 e3
    have cS := hS.cell
    have cQ := hQ.cell
    go_wp2_with (first
      | (go_at_call 26; ((with_reducible refine (O1 _).mono ?_); rintro e wk ⟨rfl, hb⟩; replace hS := hS.below hb hS.lt; replace hQ := hQ.below hb hQ.lt; clear cS cQ; have cS := hS.cell; have cQ := hQ.cell; replace hw := bt hw hb; clear hb))
      | (go_at_call 27; ((with_reducible refine (O2 _).mono ?_); rintro e wk ⟨rfl, hb⟩; replace hS := hS.below hb hS.lt; replace hQ := hQ.below hb hQ.lt; clear cS cQ; have cS := hS.cell; have cQ := hQ.cell; replace hw := bt hw hb; clear hb))
      | (go_at_call 26; ((with_reducible refine (O3 _).mono ?_); rintro e wk ⟨rfl, hb⟩; replace hS := hS.below hb hS.lt; replace hQ := hQ.below hb hQ.lt; clear cS cQ; have cS := hS.cell; have cQ := hQ.cell; replace hw := bt hw hb; clear hb)))
    go_loopw [6, 7] (fun s i wr => ∃ k : Nat, k ≤ 30 ∧ i = .int .i64 k ∧ s = .bool (bothTo [⟨1, b, c, d⟩, ⟨2, b', c', d'⟩] k) ∧ Blk wr w1.heap.size 34 #[.int .i64 1, .int .i64 b, .int .i64 c, .int .i64 d] ∧ Blk wr (w1.heap.size + 1) 34 #[.int .i64 2, .int .i64 b', .int .i64 c', .int .i64 d'] ∧ Below w.heap.size w wr) (fun _ i _ => 30 - (intOf i).toNat)
    case atStart => exact ⟨0, by omega, rfl, rfl, hS, hQ, hw⟩
    case round =>
      clear hS hQ hw cS cQ
      obtain ⟨k, hk, rfl, rfl, hS, hQ, hw⟩ := hrel
      have cS := hS.cell
      have cQ := hQ.cell
      have hlS := hS.lt
      have hlQ := hQ.lt
      have HW := Lib.hid hw
      clear hw
      by_cases hlt : k < 30
      · obtain ⟨v, hv⟩ : ∃ v, bothTo [⟨1, b, c, d⟩, ⟨2, b', c', d'⟩] k = v := ⟨_, rfl⟩
        rw [hv]
        obtain ⟨V, hV⟩ : ∃ V, baV [⟨1, b, c, d⟩, ⟨2, b', c', d'⟩] k = V := ⟨_, rfl⟩
        have HN : Hid (bothTo [⟨1, b, c, d⟩, ⟨2, b', c', d'⟩] (k + 1) = (v || (V == 2))) := by show _ = _; unfold bothTo; rw [hv, hV]
        have O5 := fun (w : World) (h : Books w (some ⟨wr.heap.size, 0, none⟩) 2 [⟨1, b, c, d⟩, ⟨2, b', c', d'⟩]) => BooksAt_i (some ⟨wr.heap.size, 0, none⟩) 2 2 [⟨1, b, c, d⟩, ⟨2, b', c', d'⟩] (k : Int) w h (by omega)
        rw [hV] at O5
        clear hv hV
        cases v
        · go_wp2_with (go_at_call 28; ((with_reducible refine (O5 _ ?_).mono ?_); (exact books2 (Blk.new _ _ _)); rintro e wk ⟨rfl, hb⟩; have hS' := (hS.alloc _).below hb (by simp; omega); have hQ' := (hQ.alloc _).below hb (by simp; omega); have hw' := bt (HW.out.alloc HW.out.size _) hb; clear hb))
          go_roundw
          case rel => exact ⟨k + 1, by omega, by go_num, by rw [HN.out]; simp, hS', hQ', hw'⟩
          case measure => simp [intOf]; omega
        · go_wp2_with fail
          go_roundw
          case rel => exact ⟨k + 1, by omega, by go_num, by rw [HN.out]; simp, hS, hQ, HW.out⟩
          case measure => simp [intOf]; omega
      · obtain rfl : k = 30 := by omega
        rw [E2.out]
        go_wp2_with (first
          | (go_at_call 26; ((with_reducible refine (O4 _).mono ?_); rintro e wk ⟨rfl, hb⟩; have hw2 := bt HW.out hb; clear hb))
          | (go_at_call 18; ((with_reducible refine (alive_ok _).mono ?_); rintro e wk ⟨rfl, hb⟩; have hw3 := bt hw2 hb; clear hb)))
        all_goals (go_ret; exact ⟨rfl, hw3⟩)
end Go.Proofs.YtolnjpnaoeeanaaDoor
