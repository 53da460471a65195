/- laws.someBooks: what it returns. No condition. -/
import Derived.Test.YtjijaejlcbailaaDoorDBooks
import Derived.Test.YtjijaejlcbailaaDoorPVal
import Derived.Test.YtjijaejlcbailaaDoorBMost
import Derived.Test.YtjijaejlcbailaaDoorNews
import Derived.Test.YtjijaejlcbailaaDoorAliveL
import Derived.Deep.RegionLaw
namespace Go.Proofs.YtjijaejlcbailaaDoor
open Go.RowKit
set_option linter.unusedVariables false
theorem test_shr2 (s k : Nat) : (Int.tmod ((s : Int) / 2 ^ k) 2 == 1) = s.testBit k ∧ (Int.tmod ((s : Int) / 2 ^ k) 2 == 0) = (!s.testBit k) ∧ ((s : Int) / 2 ^ k % 2 == 1) = s.testBit k ∧ ((s : Int) / 2 ^ k % 2 == 0) = (!s.testBit k) := by
  have e : (s : Int) / 2 ^ k = ((s / 2 ^ k : Nat) : Int) := by rw [Int.natCast_ediv, Int.natCast_pow]; rfl
  rw [e, Nat.testBit_eq_decide_div_mod_eq]
  generalize s / 2 ^ k = Q
  have h2 : Int.tmod (Q : Int) 2 = (Q : Int) % 2 := Int.tmod_eq_emod_of_nonneg (by omega)
  rw [h2]
  by_cases h : Q % 2 = 1
  · have h3 : (Q : Int) % 2 = 1 := by omega
    rw [h3]; simp [h]
  · have h3 : (Q : Int) % 2 = 0 := by omega
    rw [h3]; simp [h]
/-- a list of bookings of the call's own -/
def BS (t : TypeId) (w0 w : World) (n g c : Nat) (qs : List Quad) : Prop :=
  Below w0.heap.size w0 w ∧ w.ownsRow w0.heap.size t 4 (.slice (some ⟨g, 0, none⟩) n c) n (qs.flatMap Quad.cells) ∧ qs.length = n ∧ w0.heap.size ≤ g ∧ n ≤ c ∧ c ≤ maxLen
theorem BS.mk0 (t : TypeId) (w : World) : BS t w (w.alloc (.cells #[] t)) 0 w.heap.size 0 [] :=
  ⟨(Below.refl _ _).alloc (Nat.le_refl _) _, own_new0q w w.heap.size t 4 (Nat.le_refl _), rfl, Nat.le_refl _, Nat.le_refl _, by simp [maxLen]⟩
theorem BS.app {t : TypeId} {w0 w w1 : World} {n g c : Nat} {qs : List Quad} {o : Obj} {v' : Value} {q : Quad} (h : BS t w0 w n g c qs) (ho : w1.ownsRow w0.heap.size t 4 v' (n + 1) (qs.flatMap Quad.cells ++ q.cells)) (hg : (w.alloc o).grownBy w1 (Value.slice (some ⟨g, 0, none⟩) n c).ownBlock) :
    ∃ g' c', v' = .slice (some ⟨g', 0, none⟩) (n + 1) c' ∧ BS t w0 w1 (n + 1) g' c' (qs ++ [q]) := by
  obtain ⟨g', c', rfl, e1, e2, e3, e4⟩ := own_at ho (by omega)
  have hsz := h.1.size
  refine ⟨g', c', rfl, (h.1.alloc hsz o).grown hg (by simp; omega) (fun q hq => by have := h.2.2.2.1; simp [Value.ownBlock] at hq; omega), by rw [List.flatMap_append]; simpa using ho, by simp [h.2.2.1], e1, e3, e4⟩
set_option maxRecDepth 100000 in
set_option maxHeartbeats 2000000 in
theorem someBooks_ok (A : Option Addr) (n cap : Nat) (qs : List Quad) (s : Nat) (w : World) (h : Books w A n qs) (hn : n ≤ 9) :
    Calls Tryd.prog 53 #[.slice A n cap, .int .i64 s] w fun e w' => ∃ g m c, e = .returned (.slice (some ⟨g, 0, none⟩) m c) ∧ Books w' (some ⟨g, 0, none⟩) m (subTo qs s n) ∧ m ≤ n ∧ m ≤ c ∧ c ≤ maxLen ∧ Below w.heap.size w w' := by
  obtain ⟨i0, hi, ia, ib, ic⟩ := info_parts infoB
  have T := BS.mk0 28 w
  go_enter Tryd.func53, Tryd.ntmps53
  go_wp2
  go_loopw [5, 6] (fun v i wr => ∃ (j m g c : Nat), i = .int .i64 j ∧ j ≤ n ∧ m ≤ j ∧ v = .slice (some ⟨g, 0, none⟩) m c ∧ BS 28 w wr m g c (subTo qs s j)) (fun _ i _ => n - (intOf i).toNat)
  case atStart => exact ⟨0, 0, _, 0, rfl, by omega, by omega, rfl, T⟩
  case round =>
    clear T
    obtain ⟨j, m, g, c, rfl, hj, hm, rfl, T⟩ := hrel
    by_cases hlt : j < n
    · have an := test_shr2 s j
      have hs1 := show subTo qs s (j + 1) = if s.testBit j then subTo qs s j ++ [qs.getD j q0] else subTo qs s j from rfl
      have hsz := T.1.size
      cases hbit : s.testBit j
      · rw [hbit] at an hs1
        obtain ⟨an1, an2, an3, an4⟩ := an
        have HS := Lib.hid hs1
        clear hs1 hbit
        go_wp2
        go_roundw
        case rel => exact ⟨j + 1, m, g, c, by go_num, hlt, by omega, rfl, by rw [HS.out]; exact T⟩
        case measure => simp [intOf]; omega
      · rw [hbit] at an hs1
        obtain ⟨an1, an2, an3, an4⟩ := an
        obtain ⟨nb, no, rfl, hnl, hnc⟩ := h.2 (by omega)
        obtain ⟨r0, r1, r2, r3⟩ := hnc j hlt
        replace r0 := (T.1.cell (p := ⟨nb, no + j * 4, none⟩) hnl).trans r0
        replace r1 := (T.1.cell (p := ⟨nb, no + j * 4 + 1, none⟩) hnl).trans r1
        replace r2 := (T.1.cell (p := ⟨nb, no + j * 4 + 2, none⟩) hnl).trans r2
        replace r3 := (T.1.cell (p := ⟨nb, no + j * 4 + 3, none⟩) hnl).trans r3
        obtain ⟨q, hq⟩ : ∃ q, qs.getD j q0 = q := ⟨_, rfl⟩
        rw [hq] at r0 r1 r2 r3 hs1
        obtain ⟨xs, hxs⟩ : ∃ xs, subTo qs s j = xs := ⟨_, rfl⟩
        rw [hxs] at T hs1
        obtain ⟨a, b, c', d⟩ := q
        have HS := Lib.hid hs1
        have i1 : (0 : Int) ≤ (j : Int) := by omega
        have i2 : (j : Int) < (n : Int) := by omega
        clear hs1 hbit hnc hq hxs
        go_wp2_with (at_builtin; refine wpList_append_own _ rfl _ _ 23 rfl w.heap.size 28 i0 (.agg #[.int .i64 0, .int .i64 0, .int .i64 0, .int .i64 0]) 4 32 Tryd.underlying23 hi ia ib ic rfl (by decide) _ _ _ rfl (T.2.1.alloc _) ⟨wr.heap.size, 0, none⟩ 1 1 (Quad.cells ⟨a, b, c', d⟩) rfl rfl ?c1 ?c2 ?c3 ?c4 ?c5 ?_)
        case c1 => first | exact fun j u hj => hj | exact cells_newq wr _ ⟨a, b, c', d⟩
        case c2 => simp [Quad.cells, Value.oneCell']
        case c3 => unfold maxLen; omega
        case c4 => omega
        case c5 => first | omega | (simp; omega)
        intro v' w1 hown1 hgrow _
        obtain ⟨g', c2, rfl, T'⟩ := T.app hown1 hgrow
        clear hown1 hgrow
        go_wp2
        go_roundw
        case rel => exact ⟨j + 1, m + 1, g', c2, by go_num, hlt, by omega, rfl, by rw [HS.out]; exact T'⟩
        case measure => simp [intOf]; omega
    · obtain rfl : j = n := by omega
      go_wp2
      go_ret
      exact ⟨g, m, c, rfl, own_books T.2.1 T.2.2.1, hm, T.2.2.2.2.1, T.2.2.2.2.2, T.1⟩
end Go.Proofs.YtjijaejlcbailaaDoor
