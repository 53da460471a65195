/- Tables of rows of the call's own; needLists: what it computes. Conditions: valid needs. -/
import Derived.Test.YtoiaggjjfahabaaDoorChg2
import Derived.Deep.DeepCutAuto
namespace Go.Proofs.YtoiaggjjfahabaaDoor
open Go.RowKit
set_option linter.unusedVariables false
theorem infoIn : (Tryd.prog.info? 3).map (fun i => (i.zero, i.size, i.bytes)) = some (some (.int .i64 0), 1, 8) := by kernel_rfl
theorem infoRw : (Tryd.prog.info? 28).map (fun i => (i.zero, i.size, i.bytes)) = some (some (.slice none 0 0), 1, 24) := by kernel_rfl
/-- the cells of a table: rows that are there, and nil behind them -/
def slis (bls : List Nat) (n : Nat) : Array Value := ((bls.map fun b => Value.slice (some ⟨b, 0, none⟩) 6 6) ++ List.replicate (n - bls.length) (Value.slice none 0 0)).toArray
theorem slis_nil (n : Nat) : madeCells #[.slice none 0 0] n = slis [] n := by
  apply Array.ext
  · simp [size_madeCells, slis]
  · intro i h1 h2
    simp [madeCells, slis, Nat.mod_one]
theorem slis_at {bls : List Nat} {n k : Nat} (hk : k < bls.length) : (slis bls n)[k]? = some (.slice (some ⟨bls.getD k 0, 0, none⟩) 6 6) := by
  unfold slis
  rw [List.getElem?_toArray, List.getElem?_append_left (by simpa using hk), List.getElem?_map, List.getElem?_eq_getElem hk]
  simp [List.getD_eq_getElem?_getD, hk]
theorem slis_hi {bls : List Nat} {n k : Nat} (hk : bls.length ≤ k) (hn : k < n) : (slis bls n)[k]? = some (.slice none 0 0) := by
  unfold slis
  rw [List.getElem?_toArray, List.getElem?_append_right (by simpa using hk), List.getElem?_replicate, if_pos (by simp; omega)]
theorem slis_set (bls : List Nat) (n b : Nat) (h : bls.length < n) : (slis bls n).setIfInBounds bls.length (.slice (some ⟨b, 0, none⟩) 6 6) = slis (bls ++ [b]) n := by
  unfold slis
  rw [List.setIfInBounds_toArray, List.set_append_right _ _ (by simp)]
  congr 1
  rw [List.length_map, Nat.sub_self, show n - bls.length = (n - (bls ++ [b]).length) + 1 by simp; omega, List.replicate_succ, List.set_cons_zero]
  simp
/-- a table of rows of six in blocks of its own from lo on: the rows that are there lie behind it, in order -/
structure Tbl (w : World) (lo g : Nat) (bls : List Nat) (n : Nat) (rss : List (List Int)) : Prop where
  outer : Blk w g 28 (slis bls n)
  len : rss.length = bls.length
  le : bls.length ≤ n
  row : ∀ k, k < bls.length → Blk w (bls.getD k 0) 3 (ints (rss.getD k []))
  six : ∀ k, k < bls.length → (rss.getD k []).length = 6
  low : lo ≤ g
  beh : ∀ k, k < bls.length → g < bls.getD k 0
  inc : ∀ j k, j < k → k < bls.length → bls.getD j 0 < bls.getD k 0
section
variable {w w' : World} {lo g n : Nat} {bls : List Nat} {rss : List (List Int)}
theorem Tbl.keep (h : Tbl w lo g bls n rss) (hk : ∀ k, lo ≤ k → k < w.heap.size → w'.heap[k]? = w.heap[k]?) : Tbl w' lo g bls n rss :=
  ⟨(hk g h.low h.outer.lt).trans h.outer, h.len, h.le, fun k hk' => (hk _ (by have := h.beh k hk'; have := h.low; omega) (h.row k hk').lt).trans (h.row k hk'), h.six, h.low, h.beh, h.inc⟩
theorem Tbl.below (h : Tbl w lo g bls n rss) (hb : Below w.heap.size w w') : Tbl w' lo g bls n rss := h.keep fun k _ hk => hb.block k hk
theorem Tbl.alloc (h : Tbl w lo g bls n rss) (o : Obj) : Tbl (w.alloc o) lo g bls n rss := h.keep fun k _ hk => Below.heap_alloc w o k hk
theorem Tbl.drew (h : Tbl w lo g bls n rss) : Tbl w.drew lo g bls n rss := h.keep fun k _ _ => rfl
/-- a store elsewhere -/
theorem Tbl.far (h : Tbl w lo g bls n rss) {p : Addr} (hp : p.block ≠ g) (hb : ∀ k, k < bls.length → p.block ≠ bls.getD k 0) (v : Value) : Tbl (w.setCell p v) lo g bls n rss :=
  ⟨h.outer.far (fun e => hp e.symm) v, h.len, h.le, fun k hk => (h.row k hk).far (fun e => hb k hk e.symm) v, h.six, h.low, h.beh, h.inc⟩
theorem Tbl.new (w : World) (n : Nat) (hlo : lo ≤ w.heap.size) : Tbl (w.alloc (.cells (madeCells #[.slice none 0 0] n) 28)) lo w.heap.size [] n [] :=
  ⟨by rw [slis_nil]; exact Blk.new _ _ _, rfl, by simp, fun k hk => absurd hk (by simp), fun k hk => absurd hk (by simp), hlo, fun k hk => absurd hk (by simp), fun j k _ hk => absurd hk (by simp)⟩
theorem getD_append_lo {α : Type} (l : List α) (x d : α) (k : Nat) (h : k < l.length) : (l ++ [x]).getD k d = l.getD k d := by
  rw [List.getD_eq_getElem?_getD, List.getD_eq_getElem?_getD, List.getElem?_append_left h]
theorem getD_append_at {α : Type} (l : List α) (x d : α) (k : Nat) (h : k = l.length) : (l ++ [x]).getD k d = x := by
  subst h; simp [List.getD_eq_getElem?_getD]
/-- a row more -/
theorem Tbl.push (h : Tbl w lo g bls n rss) {b : Nat} {zs : List Int} (hn : bls.length < n) (hb : Blk w b 3 (ints zs)) (hz : zs.length = 6) (hg : g < b) (hi : ∀ k, k < bls.length → bls.getD k 0 < b) :
    Tbl (w.setCell ⟨g, bls.length, none⟩ (.slice (some ⟨b, 0, none⟩) 6 6)) lo g (bls ++ [b]) n (rss ++ [zs]) := by
  refine ⟨by rw [← slis_set bls n b hn]; exact h.outer.set_ _ _, by simp [h.len], by simp; omega, fun k hk => ?_, fun k hk => ?_, h.low, fun k hk => ?_, fun j k hj hk => ?_⟩
  all_goals rw [List.length_append] at hk
  all_goals simp only [List.length_cons, List.length_nil] at hk
  all_goals by_cases e : k < bls.length
  · rw [getD_append_lo _ _ _ _ e, getD_append_lo _ _ _ _ (by rw [h.len]; exact e)]
    exact (h.row k e).far (by have := h.beh k e; show _ ≠ g; omega) _
  · rw [getD_append_at _ _ _ _ (by omega), getD_append_at _ _ _ _ (by rw [h.len]; omega)]
    exact hb.far (by show _ ≠ g; omega) _
  · rw [getD_append_lo _ _ _ _ (by rw [h.len]; exact e)]; exact h.six k e
  · rw [getD_append_at _ _ _ _ (by rw [h.len]; omega)]; exact hz
  · rw [getD_append_lo _ _ _ _ e]; exact h.beh k e
  · rw [getD_append_at _ _ _ _ (by omega)]; exact hg
  · rw [getD_append_lo _ _ _ _ e, getD_append_lo _ _ _ _ (by omega)]; exact h.inc j k hj e
  · rw [getD_append_at _ _ _ _ (by omega : k = bls.length), getD_append_lo _ _ _ _ (by omega)]; exact hi j (by omega)
/-- a row more, made behind another block -/
theorem Tbl.push2 (h : Tbl w lo g bls n rss) (o : Obj) {zs : List Int} {N : Nat} (hN : w.heap.size = N) (hn : bls.length < n) (hz : zs.length = 6) :
    Tbl (((w.setCell ⟨g, bls.length, none⟩ (.slice (some ⟨N + 1, 0, none⟩) 6 6)).alloc o).alloc (.cells (ints zs) 3)) lo g (bls ++ [N + 1]) n (rss ++ [zs]) := by
  subst hN
  have hgl := h.outer.lt
  have hrl : ∀ k, k < bls.length → bls.getD k 0 < w.heap.size := fun k hk => (h.row k hk).lt
  refine ⟨by rw [← slis_set bls n _ hn]; exact ((h.outer.set_ _ _).alloc o).alloc _, by simp [h.len], by simp; omega, fun k hk => ?_, fun k hk => ?_, h.low, fun k hk => ?_, fun j k hj hk => ?_⟩
  all_goals rw [List.length_append] at hk
  all_goals simp only [List.length_cons, List.length_nil] at hk
  all_goals by_cases e : k < bls.length
  · rw [getD_append_lo _ _ _ _ e, getD_append_lo _ _ _ _ (by rw [h.len]; exact e)]
    exact (((h.row k e).far (by have := h.beh k e; show _ ≠ g; omega) _).alloc o).alloc _
  · rw [getD_append_at _ _ _ _ (by omega), getD_append_at _ _ _ _ (by rw [h.len]; omega)]
    have := Blk.new ((w.setCell ⟨g, bls.length, none⟩ (.slice (some ⟨w.heap.size + 1, 0, none⟩) 6 6)).alloc o) 3 (ints zs)
    rwa [show ((w.setCell ⟨g, bls.length, none⟩ (.slice (some ⟨w.heap.size + 1, 0, none⟩) 6 6)).alloc o).heap.size = w.heap.size + 1 by simp [World.setCell]] at this
  · rw [getD_append_lo _ _ _ _ (by rw [h.len]; exact e)]; exact h.six k e
  · rw [getD_append_at _ _ _ _ (by rw [h.len]; omega)]; exact hz
  · rw [getD_append_lo _ _ _ _ e]; exact h.beh k e
  · rw [getD_append_at _ _ _ _ (by omega)]; omega
  · rw [getD_append_lo _ _ _ _ e, getD_append_lo _ _ _ _ (by omega)]; exact h.inc j k hj e
  · rw [getD_append_at _ _ _ _ (by omega : k = bls.length), getD_append_lo _ _ _ _ (by omega)]; have := hrl j (by omega); omega
/-- a number of a row is set -/
theorem Tbl.put (h : Tbl w lo g bls n rss) {k j : Nat} (hk : k < bls.length) (v : Int) :
    Tbl (w.setCell ⟨bls.getD k 0, j, none⟩ (.int .i64 v)) lo g bls n (rss.set k ((rss.getD k []).set j v)) := by
  refine ⟨h.outer.far (by have := h.beh k hk; show g ≠ bls.getD k 0; omega) _, by simp [h.len], h.le, fun i hi => ?_, fun i hi => ?_, h.low, h.beh, h.inc⟩
  · rw [getD_set]
    by_cases e : k = i
    · subst e; rw [if_pos ⟨rfl, by rw [h.len]; exact hk⟩]; exact (h.row k hk).int_set j v
    · rw [if_neg (fun g => e g.1)]
      refine (h.row i hi).far ?_ _
      show bls.getD i 0 ≠ bls.getD k 0
      rcases Nat.lt_trichotomy i k with g | g | g
      · have := h.inc i k g hk; omega
      · exact absurd g.symm e
      · have := h.inc k i g hi; omega
  · rw [getD_set]
    split
    · rw [List.length_set]; exact h.six k hk
    · exact h.six i hi
theorem Tbl.cellO (h : Tbl w lo g bls n rss) {k : Nat} (hk : k < bls.length) : w.cell? ⟨g, k, none⟩ = some (.slice (some ⟨bls.getD k 0, 0, none⟩) 6 6) := by rw [h.outer.cell, slis_at hk]
theorem Tbl.cellR (h : Tbl w lo g bls n rss) {k j : Nat} (hk : k < bls.length) (hj : j < 6) : w.cell? ⟨bls.getD k 0, j, none⟩ = some (.int .i64 ((rss.getD k []).getD j 0)) := (h.row k hk).int_cell (by rw [h.six k hk]; exact hj)
theorem Tbl.frzR (h : Tbl w lo g bls n rss) {k : Nat} (hk : k < bls.length) (j : Nat) : w.frozen? ⟨bls.getD k 0, j, none⟩ = false := (h.row k hk).frozen j
theorem Tbl.tabs (h : Tbl w lo g bls n rss) (hn : bls.length = n) : Tabs w (some ⟨g, 0, none⟩) n rss := by
  refine ⟨by rw [h.len, hn], fun _ => ⟨g, 0, rfl, h.outer.lt, fun k hk => ⟨some ⟨bls.getD k 0, 0, none⟩, 6, ?_, by rw [h.six k (by omega)]; exact Nat.le_refl _, ?_⟩⟩⟩
  · rw [Nat.zero_add, h.six k (by omega)]; exact h.cellO (by omega)
  · exact Ints.of_blk (h.row k (by omega))
end
/-- what the needs want, and what they can take in each hour -/
def usL (qs : List Quad) : List Int := qs.map (·.d)
def rsL (q : Quad) : List Int := (List.range 6).map fun h : Nat => rin q.a q.b q.c q.d (h : Int)
def rssL (qs : List Quad) : List (List Int) := qs.map rsL
theorem rsL_len (q : Quad) : (rsL q).length = 6 := by simp [rsL]
/-- the two lists in new memory -/
def NL (w : World) (qs : List Quad) (e : Ending) (w' : World) : Prop :=
  ∃ g bls G, e = .returned (.tuple #[.slice (some ⟨g, 0, none⟩) qs.length qs.length, .slice (some ⟨G, 0, none⟩) qs.length qs.length]) ∧ w.heap.size = g ∧ g + 1 = G ∧ Blk w' g 3 (ints (usL qs)) ∧ Tbl w' (g + 1) G bls qs.length (rssL qs) ∧ bls.length = qs.length ∧ Below w.heap.size w w'
theorem take_push {α : Type} (l : List α) (k : Nat) (d : α) (h : k < l.length) : l.take (k + 1) = l.take k ++ [l.getD k d] := by
  rw [List.take_succ_eq_append_getElem h, List.getD_eq_getElem?_getD, List.getElem?_eq_getElem h]; rfl
theorem usL_at {qs : List Quad} {k : Nat} (h : k < qs.length) : (usL qs).getD k 0 = (qs.getD k q0).d := by
  unfold usL
  rw [List.getD_eq_getElem?_getD, List.getElem?_map, List.getD_eq_getElem?_getD, List.getElem?_eq_getElem h]; rfl
theorem rssL_at {qs : List Quad} {k : Nat} (h : k < qs.length) : (rssL qs).getD k [] = rsL (qs.getD k q0) := by
  unfold rssL
  rw [List.getD_eq_getElem?_getD, List.getElem?_map, List.getD_eq_getElem?_getD, List.getElem?_eq_getElem h]; rfl
theorem rsL_at (q : Quad) {j : Nat} (h : j < 6) : (rsL q).getD j 0 = rin q.a q.b q.c q.d (j : Int) := by
  unfold rsL
  rw [List.getD_eq_getElem?_getD, List.getElem?_map, List.getElem?_range h]; rfl
theorem fill_next (l : List Int) (n k : Nat) (hl : l.length = n) (hk : k < n) : (l.take k ++ List.replicate (n - k) 0).set k (l.getD k 0) = l.take (k + 1) ++ List.replicate (n - (k + 1)) 0 := by
  rw [take_push l k 0 (by omega), List.set_append_right _ _ (by simp; omega), show n - k = (n - (k + 1)) + 1 by omega, List.replicate_succ]
  have : k - (l.take k).length = 0 := by simp; omega
  rw [this, List.set_cons_zero, List.append_assoc]; rfl
set_option maxRecDepth 100000 in
set_option maxHeartbeats 2000000 in
theorem needLists_i (A : Option Addr) (n cap : Nat) (qs : List Quad) (w : World) (h : Books w A n qs) (hv : nsV qs = true) :
    Calls Tryd.prog 63 #[.slice A n cap] w (NL w qs) := by
  have hn5 : n ≤ 5 := by unfold nsV at hv; rw [decide_eq_true_iff, h.1] at hv; exact hv.1
  have hlen := h.1
  have hmk1 := run_make_row' (P := Tryd.prog) 28 3 (.int .i64 0) 8 Tryd.underlying28 infoIn rfl .i64 .i64 n (by omega) (by omega)
  have hmk2 := run_make_row' (P := Tryd.prog) 45 28 (.slice none 0 0) 24 Tryd.underlying45 infoRw rfl .i64 .i64 n (by omega) (by omega)
  have hmk3 := run_make_row' (P := Tryd.prog) 28 3 (.int .i64 0) 8 Tryd.underlying28 infoIn rfl .i64 .i64 6 (by omega) (by omega)
  rw [show ((6 : Nat) : Int) = 6 from rfl] at hmk3
  go_enter Tryd.func63, Tryd.ntmps63
  go_wp2
  have hW : Blk ((w.alloc (.cells (madeCells #[.int .i64 0] n) 3)).alloc (.cells (madeCells #[.slice none 0 0] n) 28)) w.heap.size 3 (ints ((usL qs).take 0 ++ List.replicate (n - 0) 0)) := by
    have := (Blk.new w 3 (madeCells #[.int .i64 0] n)).alloc (.cells (madeCells #[.slice none 0 0] n) 28)
    rw [show ints ((usL qs).take 0 ++ List.replicate (n - 0) 0) = madeCells #[.int .i64 0] n by rw [ints_made]; rfl]
    exact this
  have hT := Tbl.new (lo := w.heap.size + 1) (w.alloc (.cells (madeCells #[.int .i64 0] n) 3)) n (by simp)
  have hb0 : Below w.heap.size w ((w.alloc (.cells (madeCells #[.int .i64 0] n) 3)).alloc (.cells (madeCells #[.slice none 0 0] n) 28)) := by (repeat (first | exact Below.refl _ _ | assumption | refine Below.alloc ?_ (by first | omega | (simp; done) | (simp; omega)) _ | refine Below.drew ?_ | refine bdN ?_ _ | refine Below.setCell ?_ (by first | omega | (simp; done) | (simp; omega)) _))
  rw [show (w.alloc (.cells (madeCells #[.int .i64 0] n) 3)).heap.size = w.heap.size + 1 by simp] at hT
  clear hmk1 hmk2
  go_loopw [17] (fun i wr => ∃ (k : Nat) (bls : List Nat), k ≤ n ∧ i = .int .i64 k ∧ bls.length = k ∧ Blk wr w.heap.size 3 (ints ((usL qs).take k ++ List.replicate (n - k) 0)) ∧ Tbl wr (w.heap.size + 1) (w.heap.size + 1) bls n ((rssL qs).take k) ∧ Below w.heap.size w wr) (fun i _ => n - (intOf i).toNat)
  case atStart => exact ⟨0, [], by omega, rfl, rfl, hW, hT, hb0⟩
  case round =>
    clear hW hT hb0
    obtain ⟨k, bls, hk, rfl, hbl, hW, hT, hb⟩ := hrel
    by_cases hlt : k < n
    · obtain ⟨b, off, rfl, hlb, hc⟩ := h.2 (by omega)
      obtain ⟨r0, r1, r2, r3⟩ := hc k hlt
      have s0 := (hb.cell (p := ⟨b, off + k * 4, none⟩) hlb).trans r0
      have s1 := (hb.cell (p := ⟨b, off + k * 4 + 1, none⟩) hlb).trans r1
      have s2 := (hb.cell (p := ⟨b, off + k * 4 + 2, none⟩) hlb).trans r2
      have s3 := (hb.cell (p := ⟨b, off + k * 4 + 3, none⟩) hlb).trans r3
      obtain ⟨q, hq⟩ : ∃ q, qs.getD k q0 = q := ⟨_, rfl⟩
      rw [hq] at s0 s1 s2 s3
      have HQ := Lib.hid hq
      have HW := Lib.hid hW
      have HT := Lib.hid hT
      have HB := Lib.hid hb
      have w1 := hW.cell k
      rw [ints_at _ (by simp [usL]; omega)] at w1
      have w2 := hW.frozen k
      have t1 := hT.outer.cell k
      rw [slis_hi (by omega) hlt] at t1
      have t2 := hT.outer.frozen k
      have hwl := hW.lt
      have htl := hT.outer.lt
      clear hc r0 r1 r2 r3 hq hW hT hb
      go_wp2
      go_loopw [36] (fun i wx => ∃ j : Nat, j ≤ 6 ∧ i = .int .i64 j ∧ Blk wx w.heap.size 3 (ints ((usL qs).take (k + 1) ++ List.replicate (n - (k + 1)) 0)) ∧ Tbl wx (w.heap.size + 1) (w.heap.size + 1) (bls ++ [wr.heap.size + 1]) n ((rssL qs).take k ++ [(rsL q).take j ++ List.replicate (6 - j) 0]) ∧ Blk wx wr.heap.size 84 #[.int .i64 q.a, .int .i64 q.b, .int .i64 q.c, .int .i64 q.d] ∧ Below w.heap.size w wx) (fun i _ => 6 - (intOf i).toNat)
      case atStart =>
        have hWs := HW.out.int_set k q.d
        have eW : q.d = (usL qs).getD k 0 := by rw [usL_at (by omega), HQ.out]
        have hTs := HT.out.far (p := ⟨w.heap.size, k, none⟩) (by show w.heap.size ≠ _; omega) (fun j hj => by have := HT.out.beh j hj; show w.heap.size ≠ _; omega) (.int .i64 q.d)
        have sz : (wr.setCell ⟨w.heap.size, k, none⟩ (.int .i64 q.d)).heap.size = wr.heap.size := by simp [World.setCell]
        have hTp := hTs.push2 (.cells #[.int .i64 q.a, .int .i64 q.b, .int .i64 q.c, .int .i64 q.d] 84) (zs := List.replicate 6 0) sz (by omega) (by simp)
        rw [hbl] at hTp
        have mk : madeCells #[.int .i64 0] 6 = ints (List.replicate 6 0) := ints_made 6
        have fl := fill_next (usL qs) n k (by simp [usL, hlen]) hlt
        rw [← eW] at fl
        rw [fl] at hWs
        rw [mk]
        refine ⟨0, by omega, rfl, ((hWs.far (p := ⟨w.heap.size + 1, k, none⟩) (by show _ ≠ w.heap.size + 1; omega) _).alloc _).alloc _, hTp, ?_, ?_⟩
        · have := (Blk.new ((wr.setCell ⟨w.heap.size, k, none⟩ (.int .i64 q.d)).setCell ⟨w.heap.size + 1, k, none⟩ (.slice (some ⟨wr.heap.size + 1, 0, none⟩) 6 6)) 84 #[.int .i64 q.a, .int .i64 q.b, .int .i64 q.c, .int .i64 q.d]).alloc (.cells (ints (List.replicate 6 0)) 3)
          rwa [show ((wr.setCell ⟨w.heap.size, k, none⟩ (.int .i64 q.d)).setCell ⟨w.heap.size + 1, k, none⟩ (.slice (some ⟨wr.heap.size + 1, 0, none⟩) 6 6)).heap.size = wr.heap.size by simp [World.setCell]] at this
        · have hsz := HB.out.size
          exact (((HB.out.setCell (p := ⟨w.heap.size, k, none⟩) (Nat.le_refl _) _).setCell (p := ⟨w.heap.size + 1, k, none⟩) (Nat.le_succ _) _).alloc (by simp [World.setCell]; omega) _).alloc (by simp [World.setCell]; omega) _
      case round =>
        clear w1 w2 t1 t2 hmk3 HW HT HB s0 s1 s2 s3
        obtain ⟨j, hj, rfl, hW, hT, hX, hb⟩ := hrel
        by_cases hlt2 : j < 6
        · have t1 := hT.cellO (k := k) (by simp; omega)
          rw [getD_append_at _ _ _ _ hbl.symm] at t1
          have c0 := hX.cell 0
          have c1 := hX.cell 1
          have c2 := hX.cell 2
          have c3 := hX.cell 3
          simp at c0 c1 c2 c3
          have t2 := hT.cellR (k := k) (j := j) (by simp; omega) hlt2
          have t3 := hT.frzR (k := k) (by simp; omega) j
          rw [getD_append_at _ _ _ _ hbl.symm] at t2 t3
          have HW := Lib.hid hW
          have HT := Lib.hid hT
          have HX := Lib.hid hX
          have HB := Lib.hid hb
          have hxl := hX.lt
          have htl2 := hT.outer.lt
          have hrl := (hT.row k (by simp; omega)).lt
          rw [getD_append_at _ _ _ _ hbl.symm] at hrl
          clear hW hT hX hb
          go_wp2
          go_region_with (go_at_call 98; (refine (RateIn_i _ _ _ _ _ _).mono ?_); rintro e w6 ⟨rfl, hb6⟩; have bc6 := bcell hb6; have t1' := (bc6.1 _ _ htl2).trans t1; have t2' := (bc6.1 _ _ hrl).trans t2; have t3' := (bc6.2 _ _ hrl).trans t3; clear bc6)
          all_goals
            have fl := fill_next (rsL q) 6 j (rsL_len q) hlt2
            rw [rsL_at q hlt2] at fl
            have HT6 := (HT.out.drew.below hb6).put (k := k) (j := j) (by simp; omega) (rin q.a q.b q.c q.d j)
            rw [getD_append_at _ _ _ _ hbl.symm, getD_append_at _ _ _ _ (by simp [rssL]; omega), fl] at HT6
            have st : ((rssL qs).take k ++ [(rsL q).take j ++ List.replicate (6 - j) 0]).set k ((rsL q).take (j + 1) ++ List.replicate (6 - (j + 1)) 0) = (rssL qs).take k ++ [(rsL q).take (j + 1) ++ List.replicate (6 - (j + 1)) 0] := by
              have hl2 : ((rssL qs).take k).length = k := by simp [rssL, hlen]; omega
              rw [List.set_append_right _ _ (by omega), hl2, Nat.sub_self]; rfl
            rw [st] at HT6
            clear t1 t2 t3 t1' t2' t3'
            go_wp2
            go_roundw
            case rel => exact ⟨j + 1, hlt2, by go_num, (HW.out.drew.below hb6 (by show _ < wr.heap.size; omega)).far (by simp only; omega) _, HT6, (HX.out.drew.below hb6 hxl).far (Nat.ne_of_lt (Nat.lt_succ_self _)) _, (HB.out.drew.trans (hb6.mono (by show w.heap.size ≤ wr.heap.size; omega))).setCell (by show w.heap.size ≤ _ + 1; omega) _⟩
            case measure => simp [intOf]; omega
        · obtain rfl : j = 6 := by omega
          go_wp2
          go_roundw
          case rel =>
            have e1 : (rssL qs).take k ++ [(rsL q).take 6 ++ List.replicate (6 - 6) 0] = (rssL qs).take (k + 1) := by
              have e6 : (rsL q).take 6 = rsL q := List.take_of_length_le (by rw [rsL_len]; omega)
              rw [take_push (rssL qs) k [] (by simp [rssL]; omega), rssL_at (by omega), HQ.out, e6]; simp
            rw [e1] at hT
            exact ⟨k + 1, bls ++ [_], hlt, by go_num, by simp [hbl], hW, hT, hb⟩
          case measure => simp [intOf]; omega
    · obtain rfl : k = n := by omega
      go_wp2
      refine bodyPost_ret (v := .tuple #[.slice (some ⟨w.heap.size, 0, none⟩) k k, .slice (some ⟨w.heap.size + 1, 0, none⟩) k k]) (by simp [results, Tryd.results63, go_sem]) rfl ?_
      rw [Nat.sub_self, List.replicate_zero, List.append_nil, List.take_of_length_le (by simp [usL]; omega)] at hW
      rw [List.take_of_length_le (by simp [rssL]; omega)] at hT
      refine ⟨_, bls, _, by rw [hlen], rfl, rfl, hW, by rw [hlen]; exact hT, by omega, hb⟩
end Go.Proofs.YtoiaggjjfahabaaDoor
