/- Lists of bookings in new memory, marked and held: what markBookS and heldBookS compute. No condition but the length. -/
import Derived.Test.YtoiaggjjfahabaaMark
import Derived.Test.YtoiaggjjfahabaaQuad
import Derived.Test.YtoiaggjjfahabaaOQ
namespace Go.Proofs.Ytoiaggjjfahabaa
open Go.RowKit
set_option linter.unusedVariables false
theorem getD_setq (qs : List Quad) (i j : Nat) (v : Quad) : (qs.set i v).getD j q0 = if i = j ∧ i < qs.length then v else qs.getD j q0 := by
  rw [List.getD_eq_getElem?_getD, List.getElem?_set, List.getD_eq_getElem?_getD]
  by_cases h : i = j
  · subst h
    by_cases g : i < qs.length
    · rw [if_pos rfl, if_pos g, if_pos ⟨rfl, g⟩]; rfl
    · rw [if_pos rfl, if_neg g, if_neg (fun e => g e.2), List.getElem?_eq_none (by omega)]
  · rw [if_neg h, if_neg fun e => h e.1]
/-- block g begins with the bookings qs -/
def Rq (w : World) (g n : Nat) (qs : List Quad) : Prop := qs.length = n ∧ ∃ cur, Blk w g 46 cur ∧ ∀ k, k < n → cur[k * 4]? = some (.int .i64 (qs.getD k q0).a) ∧ cur[k * 4 + 1]? = some (.int .i64 (qs.getD k q0).b) ∧ cur[k * 4 + 2]? = some (.int .i64 (qs.getD k q0).c) ∧ cur[k * 4 + 3]? = some (.int .i64 (qs.getD k q0).d)
section
variable {w w' : World} {g n : Nat} {qs : List Quad}
theorem Rq.lt (h : Rq w g n qs) : g < w.heap.size := by obtain ⟨_, cur, hb, _⟩ := h; exact hb.lt
theorem Rq.cells (h : Rq w g n qs) {k : Nat} (hk : k < n) : w.cell? ⟨g, k * 4, none⟩ = some (.int .i64 (qs.getD k q0).a) ∧ w.cell? ⟨g, k * 4 + 1, none⟩ = some (.int .i64 (qs.getD k q0).b) ∧ w.cell? ⟨g, k * 4 + 2, none⟩ = some (.int .i64 (qs.getD k q0).c) ∧ w.cell? ⟨g, k * 4 + 3, none⟩ = some (.int .i64 (qs.getD k q0).d) := by
  obtain ⟨_, cur, hb, hc⟩ := h
  obtain ⟨h1, h2, h3, h4⟩ := hc k hk
  exact ⟨by rw [hb.cell, h1], by rw [hb.cell, h2], by rw [hb.cell, h3], by rw [hb.cell, h4]⟩
theorem Rq.frozen (h : Rq w g n qs) (i : Nat) : w.frozen? ⟨g, i, none⟩ = false := by obtain ⟨_, cur, hb, _⟩ := h; exact hb.frozen i
theorem Rq.keep (h : Rq w g n qs) (he : w'.heap[g]? = w.heap[g]?) : Rq w' g n qs := by obtain ⟨hl, cur, hb, hc⟩ := h; exact ⟨hl, cur, he.trans hb, hc⟩
theorem Rq.below {B : Nat} (h : Rq w g n qs) (hb : Below B w w') (hg : g < B) : Rq w' g n qs := h.keep (hb.block g hg)
theorem Rq.far (h : Rq w g n qs) {p : Addr} (hp : g ≠ p.block) (u : Value) : Rq (w.setCell p u) g n qs := h.keep (Below.heap_setCell w p u g hp)
theorem Rq.congr {xs : List Quad} (h : Rq w g n qs) (hl : xs.length = n) (he : ∀ k, k < n → xs.getD k q0 = qs.getD k q0) : Rq w g n xs := by
  obtain ⟨_, cur, hb, hc⟩ := h
  exact ⟨hl, cur, hb, fun k hk => by rw [he k hk]; exact hc k hk⟩
theorem Rq.set (h : Rq w g n qs) {k : Nat} (hk : k < n) (a b c d : Int) : Rq ((((w.setCell ⟨g, k * 4, none⟩ (.int .i64 a)).setCell ⟨g, k * 4 + 1, none⟩ (.int .i64 b)).setCell ⟨g, k * 4 + 2, none⟩ (.int .i64 c)).setCell ⟨g, k * 4 + 3, none⟩ (.int .i64 d)) g n (qs.set k ⟨a, b, c, d⟩) := by
  obtain ⟨hl, cur, hb, hc⟩ := h
  obtain ⟨k1, k2, k3, k4⟩ := hc k hk
  have lt : ∀ (i : Nat) (v : Value), cur[i]? = some v → i < cur.size := fun i v e => by
    rcases Nat.lt_or_ge i cur.size with q | q
    · exact q
    · rw [Array.getElem?_eq_none q] at e; cases e
  have l1 := lt _ _ k1; have l2 := lt _ _ k2; have l3 := lt _ _ k3; have l4 := lt _ _ k4
  refine ⟨by simpa using hl, _, (((hb.set_ (k * 4) (.int .i64 a)).set_ (k * 4 + 1) (.int .i64 b)).set_ (k * 4 + 2) (.int .i64 c)).set_ (k * 4 + 3) (.int .i64 d), fun j hj => ?_⟩
  obtain ⟨j1, j2, j3, j4⟩ := hc j hj
  have st : ∀ i, ((((cur.setIfInBounds (k * 4) (Value.int .i64 a)).setIfInBounds (k * 4 + 1) (Value.int .i64 b)).setIfInBounds (k * 4 + 2) (Value.int .i64 c)).setIfInBounds (k * 4 + 3) (Value.int .i64 d))[i]? = if i = k * 4 + 3 then some (Value.int .i64 d) else if i = k * 4 + 2 then some (Value.int .i64 c) else if i = k * 4 + 1 then some (Value.int .i64 b) else if i = k * 4 then some (Value.int .i64 a) else cur[i]? := fun i => by
    simp only [Array.getElem?_setIfInBounds, Array.size_setIfInBounds]
    repeat' split
    all_goals first | rfl | (exfalso; omega)
  rw [st, st, st, st]
  by_cases e : k = j
  · subst e
    have g : (qs.set k ⟨a, b, c, d⟩).getD k q0 = ⟨a, b, c, d⟩ := by rw [getD_setq, if_pos ⟨rfl, by omega⟩]
    rw [g]
    refine ⟨?_, ?_, ?_, ?_⟩
    all_goals (repeat' split)
    all_goals first | rfl | (exfalso; omega)
  · have g : (qs.set k ⟨a, b, c, d⟩).getD j q0 = qs.getD j q0 := by rw [getD_setq, if_neg (fun q => e q.1)]
    rw [g]
    refine ⟨?_, ?_, ?_, ?_⟩
    all_goals (repeat' split)
    all_goals first | exact j1 | exact j2 | exact j3 | exact j4 | (exfalso; omega)
theorem Rq.books (h : Rq w g n qs) : Books w (some ⟨g, 0, none⟩) n qs := ⟨h.1, fun hn => ⟨g, 0, rfl, h.lt, fun k hk => by simp only [Nat.zero_add]; exact h.cells hk⟩⟩
theorem Rq.of_blk (h : Blk w g 46 (bks qs)) (hn : qs.length = n) : Rq w g n qs := ⟨hn, _, h, fun k hk => bks_at qs k (by omega)⟩
theorem Rq.of_own {base c : Nat} (h : w.ownsRow base 46 4 (.slice (some ⟨g, 0, none⟩) n c) n (qs.flatMap Quad.cells)) (hz : qs.length = n) : Rq w g n qs ∧ base ≤ g ∧ n ≤ c ∧ c ≤ maxLen := by
  have hh := h
  rcases h.2 with ⟨h0, _⟩ | ⟨g', c', cur, e1, hb, hg, hcc, hm, hsz, htk⟩
  · cases h0
  · simp only [Value.slice.injEq, Option.some.injEq, Addr.mk.injEq, and_true, true_and] at e1
    obtain ⟨rfl, rfl⟩ := e1
    have hB : Blk w g 46 cur := hg
    refine ⟨⟨hz, cur, hg, fun k hk => ?_⟩, hb, hcc, hm⟩
    obtain ⟨b0, b1, b2, b3⟩ := bks_at qs k (by omega)
    unfold bks at b0 b1 b2 b3
    rw [List.getElem?_toArray] at b0 b1 b2 b3
    have c0 := hh.cells rfl _ _ b0
    have c1 := hh.cells rfl _ _ b1
    have c2 := hh.cells rfl _ _ b2
    have c3 := hh.cells rfl _ _ b3
    rw [add_none, Nat.zero_add, hB.cell] at c0 c1 c2 c3
    exact ⟨c0, c1, c2, c3⟩
end
/-- the slice (A, n) reads as the bookings qs, and where it has elements it begins a block between lo and hi -/
def OwnQ (w : World) (lo hi : Nat) (A : Option Addr) (n : Nat) (qs : List Quad) : Prop :=
  qs.length = n ∧ (0 < n → ∃ g, A = some ⟨g, 0, none⟩ ∧ lo ≤ g ∧ g < hi ∧ Rq w g n qs)
section
variable {w w' : World} {lo hi l h n : Nat} {A : Option Addr} {qs : List Quad}
theorem OwnQ.books (a : OwnQ w lo hi A n qs) : Books w A n qs :=
  ⟨a.1, fun hn => by
    obtain ⟨g, e, _, _, hB⟩ := a.2 hn
    obtain ⟨b, off, e1, h1, h2⟩ := hB.books.2 hn
    exact ⟨b, off, e.trans e1, h1, h2⟩⟩
theorem OwnQ.below (a : OwnQ w lo hi A n qs) (hb : Below w.heap.size w w') : OwnQ w' lo hi A n qs :=
  ⟨a.1, fun hn => by
    obtain ⟨g, e, h1, h2, hB⟩ := a.2 hn
    exact ⟨g, e, h1, h2, hB.below hb hB.lt⟩⟩
theorem OwnQ.chg (a : OwnQ w l h A n qs) (c : Chg lo hi w w') (hd : h ≤ lo ∨ hi ≤ l) : OwnQ w' l h A n qs :=
  ⟨a.1, fun hn => by
    obtain ⟨g, e, h1, h2, hB⟩ := a.2 hn
    exact ⟨g, e, h1, h2, hB.keep (c.block g hB.lt (by omega))⟩⟩
end
def mqAt (k : Int) (j : Nat) : Quad := ⟨k + 4 * j, k + 4 * j + 1, k + 4 * j + 1 + 1, k + 4 * j + 1 + 1 + 1⟩
def mqs (k : Int) (n : Nat) : List Quad := (List.range n).map (mqAt k)
theorem mqs_len (k : Int) (n : Nat) : (mqs k n).length = n := by simp [mqs]
theorem mqs_at (k : Int) (n i : Nat) (h : i < n) : (mqs k n).getD i q0 = mqAt k i := by
  unfold mqs
  rw [List.getD_eq_getElem?_getD, List.getElem?_map, List.getElem?_range h]; rfl
def MarkQ (w : World) (lo hi : Nat) (A : Option Addr) (n : Nat) (k : Int) (e : Ending) (w' : World) : Prop :=
  e = .returned (.int .i64 (k + 4 * n)) ∧ OwnQ w' lo hi A n (mqs k n) ∧ Chg lo hi w w'
set_option maxHeartbeats 2000000 in
theorem markBookS_any (A : Option Addr) (n cap lo hi : Nat) (qs : List Quad) (k : Int) (w : World) (h : OwnQ w lo hi A n qs) (hn : n ≤ 1048586) (h0 : 0 ≤ k) (h1 : k ≤ 16777216) :
    Calls Try.prog 12 #[.slice A n cap, .int .i64 k] w (MarkQ w lo hi A n k) := by
  by_cases hz : n = 0
  · subst hz
    go_enter Try.func12, Try.ntmps12
    go_wp2
    go_loopw [1, 5] (fun v i wr => i = .int .i64 0 ∧ v = .int .i64 k ∧ w = wr) (fun _ _ _ => 0)
    case atStart => exact ⟨rfl, rfl, rfl⟩
    case round =>
      obtain ⟨rfl, rfl, rfl⟩ := hrel
      go_wp2
      go_ret
      exact ⟨ret_int (by simp), ⟨by simp [mqs], fun h => absurd h (by omega)⟩, Chg.refl⟩
  · obtain ⟨g, rfl, hg1, hg2, hB⟩ := h.2 (by omega)
    clear h
    go_enter Try.func12, Try.ntmps12
    go_wp2
    go_loopw [1, 5] (fun v i wr => ∃ (j : Nat) (ys : List Quad), j ≤ n ∧ i = .int .i64 j ∧ v = .int .i64 (k + 4 * j) ∧ Rq wr g n ys ∧ (∀ t, t < j → ys.getD t q0 = mqAt k t) ∧ Chg lo hi w wr) (fun _ i _ => n - (intOf i).toNat)
    case atStart => exact ⟨0, qs, by omega, rfl, by simp, hB, fun t ht => absurd ht (by omega), Chg.refl⟩
    case round =>
      clear hB
      obtain ⟨j, ys, hj, rfl, rfl, hB, hy, hc⟩ := hrel
      have HY := Lib.hid hy
      clear hy
      by_cases hlt : j < n
      · have hl := hB.1
        obtain ⟨c0, c1, c2, c3⟩ := hB.cells hlt
        have f0 := hB.frozen (j * 4)
        have f1 := hB.frozen (j * 4 + 1)
        have f2 := hB.frozen (j * 4 + 2)
        have f3 := hB.frozen (j * 4 + 3)
        have i1 : (0 : Int) ≤ (j : Int) := by omega
        have i2 : (j : Int) < (n : Int) := by omega
        obtain ⟨m, hm⟩ : ∃ m, k + 4 * (j : Int) = m := ⟨_, rfl⟩
        have hmb : 0 ≤ m ∧ m ≤ 33554432 := by omega
        have hS := hB.set hlt m (m + 1) (m + 1 + 1) (m + 1 + 1 + 1)
        have hC := (((hc.of_set (p := ⟨g, j * 4, none⟩) (.int .i64 m) hg1 hg2).of_set (p := ⟨g, j * 4 + 1, none⟩) (.int .i64 (m + 1)) hg1 hg2).of_set (p := ⟨g, j * 4 + 2, none⟩) (.int .i64 (m + 1 + 1)) hg1 hg2).of_set (p := ⟨g, j * 4 + 3, none⟩) (.int .i64 (m + 1 + 1 + 1)) hg1 hg2
        have hx : ∀ t, t < j + 1 → (ys.set j ⟨m, m + 1, m + 1 + 1, m + 1 + 1 + 1⟩).getD t q0 = mqAt k t := fun t ht => by
          rw [getD_setq]
          by_cases e : j = t
          · subst e; rw [if_pos ⟨rfl, by omega⟩]; unfold mqAt; rw [hm]
          · rw [if_neg (fun q => e q.1)]; exact HY.out t (by omega)
        rw [hm]
        have HM := Lib.hid hm
        have HS := Lib.hid hS
        have HC := Lib.hid hC
        have HX := Lib.hid hx
        clear hm hS hC hx hB hc hl
        go_wp2
        go_roundw
        case rel => exact ⟨j + 1, _, hlt, by go_num, congrArg (Value.int .i64) (by have := HM.out; omega), HS.out, HX.out, HC.out⟩
        case measure => simp [intOf]; omega
      · obtain rfl : j = n := by omega
        go_wp2
        go_ret
        exact ⟨rfl, ⟨mqs_len k j, fun _ => ⟨g, rfl, hg1, hg2, hB.congr (mqs_len k j) fun t ht => by rw [mqs_at k j t ht, HY.out t ht]⟩⟩, hc⟩
set_option maxHeartbeats 2000000 in
theorem heldBookS_any (A : Option Addr) (n cap : Nat) (k : Int) (w : World) (h : Books w A n (mqs k n)) (hn : n ≤ 1048586) (h0 : 0 ≤ k) (h1 : k ≤ 16777216) :
    Calls Try.prog 47 #[.slice A n cap, .int .i64 k] w fun e w' => e = .returned (.int .i64 (k + 4 * n)) ∧ Below w.heap.size w w' := by
  go_enter Try.func47, Try.ntmps47
  go_wp2
  go_loopw [1, 5] (fun v i wr => ∃ j : Nat, j ≤ n ∧ i = .int .i64 j ∧ v = .int .i64 (k + 4 * j) ∧ Below w.heap.size w wr) (fun _ i _ => n - (intOf i).toNat)
  case atStart => exact ⟨0, by omega, rfl, by simp, by (repeat (first | exact Below.refl _ _ | assumption | refine Below.alloc ?_ (by first | omega | (simp; done) | (simp; omega)) _ | refine Below.drew ?_ | refine bdN ?_ _ | refine Below.setCell ?_ (by first | omega | (simp; done) | (simp; omega)) _))⟩
  case round =>
    obtain ⟨j, hj, rfl, rfl, hb⟩ := hrel
    by_cases hlt : j < n
    · obtain ⟨b, off, rfl, hbl, hc⟩ := (h.below hb).2 (by omega)
      obtain ⟨c0, c1, c2, c3⟩ := hc j hlt
      rw [mqs_at k n j hlt] at c0 c1 c2 c3
      unfold mqAt at c0 c1 c2 c3
      obtain ⟨m, hm⟩ : ∃ m, k + 4 * (j : Int) = m := ⟨_, rfl⟩
      have hmb : 0 ≤ m ∧ m ≤ 33554432 := by omega
      rw [hm] at c0 c1 c2 c3 ⊢
      have e0 : (m != m) = false := by simp
      have e1 : (m + 1 != m + 1) = false := by simp
      have HM := Lib.hid hm
      have i1 : (0 : Int) ≤ (j : Int) := by omega
      have i2 : (j : Int) < (n : Int) := by omega
      clear hc hm
      go_wp2
      go_roundw
      case rel => exact ⟨j + 1, hlt, by go_num, congrArg (Value.int .i64) (by have := HM.out; omega), hb⟩
      case measure => simp [intOf]; omega
    · obtain rfl : j = n := by omega
      go_wp2
      go_ret
      exact ⟨rfl, hb⟩
def MadeP (w : World) (n : Nat) (zs : List Quad) (e : Ending) (w' : World) : Prop :=
  ∃ A, e = .returned (.slice A n n) ∧ OwnQ w' w.heap.size w'.heap.size A n zs ∧ Below w.heap.size w w'
theorem toBookS_own (A : Option Addr) (n cap : Nat) (zs : List Quad) (w : World) (h : Books w A n zs) (hn : n ≤ 1048576) :
    Calls Try.prog 8 #[.slice A n cap] w (MadeP w n zs) :=
  (toBookS_any A n cap zs w h hn).mono fun _ _ ⟨g, e, h1, h2, h3, h4⟩ => ⟨some ⟨g, 0, none⟩, e, ⟨h2.1, fun _ => ⟨g, rfl, h1, h3.lt, Rq.of_blk h3 h2.1⟩⟩, h4⟩
end Go.Proofs.Ytoiaggjjfahabaa
