/- Tables of rows of m ints of the call's own, made row by row. No condition. -/
import Derived.Test.YtoiaggjjfahabaaDoorOQ
namespace Go.Proofs.YtoiaggjjfahabaaDoor
open Go.RowKit
set_option linter.unusedVariables false
theorem infoIm : (Tryd.prog.info? 3).map (fun i => (i.zero, i.size, i.bytes)) = some (some (.int .i64 0), 1, 8) := by kernel_rfl
theorem infoRm : (Tryd.prog.info? 28).map (fun i => (i.zero, i.size, i.bytes)) = some (some (.slice none 0 0), 1, 24) := by kernel_rfl
theorem gdA_lo {α : Type} (l : List α) (x d : α) (k : Nat) (h : k < l.length) : (l ++ [x]).getD k d = l.getD k d := by
  rw [List.getD_eq_getElem?_getD, List.getD_eq_getElem?_getD, List.getElem?_append_left h]
theorem gdA_at {α : Type} (l : List α) (x d : α) (k : Nat) (h : k = l.length) : (l ++ [x]).getD k d = x := by
  subst h; simp [List.getD_eq_getElem?_getD]
/-- the cells of a table: rows that are there, and nil behind them -/
def slm (m : Nat) (bls : List Nat) (n : Nat) : Array Value := ((bls.map fun b => Value.slice (some ⟨b, 0, none⟩) m m) ++ List.replicate (n - bls.length) (Value.slice none 0 0)).toArray
theorem slm_nil (m n : Nat) : madeCells #[.slice none 0 0] n = slm m [] n := by
  apply Array.ext
  · simp [size_madeCells, slm]
  · intro i h1 h2
    simp [madeCells, slm, Nat.mod_one]
theorem slm_at {m : Nat} {bls : List Nat} {n k : Nat} (hk : k < bls.length) : (slm m bls n)[k]? = some (.slice (some ⟨bls.getD k 0, 0, none⟩) m m) := by
  unfold slm
  rw [List.getElem?_toArray, List.getElem?_append_left (by simpa using hk), List.getElem?_map, List.getElem?_eq_getElem hk]
  simp [List.getD_eq_getElem?_getD, hk]
theorem slm_hi {m : Nat} {bls : List Nat} {n k : Nat} (hk : bls.length ≤ k) (hn : k < n) : (slm m bls n)[k]? = some (.slice none 0 0) := by
  unfold slm
  rw [List.getElem?_toArray, List.getElem?_append_right (by simpa using hk), List.getElem?_replicate, if_pos (by simp; omega)]
theorem slm_set (m : Nat) (bls : List Nat) (n b : Nat) (h : bls.length < n) : (slm m bls n).setIfInBounds bls.length (.slice (some ⟨b, 0, none⟩) m m) = slm m (bls ++ [b]) n := by
  unfold slm
  rw [List.setIfInBounds_toArray, List.set_append_right _ _ (by simp)]
  congr 1
  rw [List.length_map, Nat.sub_self, show n - bls.length = (n - (bls ++ [b]).length) + 1 by simp; omega, List.replicate_succ, List.set_cons_zero]
  simp
/-- a table of rows of m in blocks of its own from lo on -/
structure TbM (w : World) (lo g m : Nat) (bls : List Nat) (n : Nat) (rss : List (List Int)) : Prop where
  outer : Blk w g 28 (slm m bls n)
  len : rss.length = bls.length
  le : bls.length ≤ n
  row : ∀ k, k < bls.length → Blk w (bls.getD k 0) 3 (ints (rss.getD k []))
  six : ∀ k, k < bls.length → (rss.getD k []).length = m
  low : lo ≤ g
  beh : ∀ k, k < bls.length → g < bls.getD k 0
section
variable {w w' : World} {lo g m n : Nat} {bls : List Nat} {rss : List (List Int)}
theorem TbM.keep (h : TbM w lo g m bls n rss) (hk : ∀ k, lo ≤ k → k < w.heap.size → w'.heap[k]? = w.heap[k]?) : TbM w' lo g m bls n rss :=
  ⟨(hk g h.low h.outer.lt).trans h.outer, h.len, h.le, fun k hk' => (hk _ (by have := h.beh k hk'; have := h.low; omega) (h.row k hk').lt).trans (h.row k hk'), h.six, h.low, h.beh⟩
theorem TbM.below (h : TbM w lo g m bls n rss) (hb : Below w.heap.size w w') : TbM w' lo g m bls n rss := h.keep fun k _ hk => hb.block k hk
theorem TbM.alloc (h : TbM w lo g m bls n rss) (o : Obj) : TbM (w.alloc o) lo g m bls n rss := h.keep fun k _ hk => Below.heap_alloc w o k hk
theorem TbM.drew (h : TbM w lo g m bls n rss) : TbM w.drew lo g m bls n rss := h.keep fun k _ _ => rfl
/-- a store elsewhere -/
theorem TbM.far (h : TbM w lo g m bls n rss) {p : Addr} (hp : p.block ≠ g) (hb : ∀ k, k < bls.length → p.block ≠ bls.getD k 0) (v : Value) : TbM (w.setCell p v) lo g m bls n rss :=
  ⟨h.outer.far (fun e => hp e.symm) v, h.len, h.le, fun k hk => (h.row k hk).far (fun e => hb k hk e.symm) v, h.six, h.low, h.beh⟩
theorem TbM.new (m : Nat) (w : World) (n : Nat) (hlo : lo ≤ w.heap.size) : TbM (w.alloc (.cells (madeCells #[.slice none 0 0] n) 28)) lo w.heap.size m [] n [] :=
  ⟨by rw [slm_nil m]; exact Blk.new _ _ _, rfl, by simp, fun k hk => absurd hk (by simp), fun k hk => absurd hk (by simp), hlo, fun k hk => absurd hk (by simp)⟩
/-- a row that is done joins them -/
theorem TbM.push (h : TbM w lo g m bls n rss) {b : Nat} {zs : List Int} (hn : bls.length < n) (hb : Blk w b 3 (ints zs)) (hz : zs.length = m) (hg : g < b) :
    TbM (w.setCell ⟨g, bls.length, none⟩ (.slice (some ⟨b, 0, none⟩) m m)) lo g m (bls ++ [b]) n (rss ++ [zs]) := by
  refine ⟨by rw [← slm_set m bls n b hn]; exact h.outer.set_ _ _, by simp [h.len], by simp; omega, fun k hk => ?_, fun k hk => ?_, h.low, fun k hk => ?_⟩
  all_goals rw [List.length_append] at hk
  all_goals simp only [List.length_cons, List.length_nil] at hk
  all_goals by_cases e : k < bls.length
  · rw [gdA_lo _ _ _ _ e, gdA_lo _ _ _ _ (by rw [h.len]; exact e)]
    exact (h.row k e).far (by have := h.beh k e; show _ ≠ g; omega) _
  · rw [gdA_at _ _ _ _ (by omega), gdA_at _ _ _ _ (by rw [h.len]; omega)]
    exact hb.far (by show _ ≠ g; omega) _
  · rw [gdA_lo _ _ _ _ (by rw [h.len]; exact e)]; exact h.six k e
  · rw [gdA_at _ _ _ _ (by rw [h.len]; omega)]; exact hz
  · rw [gdA_lo _ _ _ _ e]; exact h.beh k e
  · rw [gdA_at _ _ _ _ (by omega)]; exact hg
/-- a row more, made behind the store of its slice -/
theorem TbM.push3 (h : TbM w lo g m bls n rss) {N : Nat} {zs : List Int} (hN : w.heap.size = N) (hn : bls.length < n) (hz : zs.length = m) :
    TbM ((w.setCell ⟨g, bls.length, none⟩ (.slice (some ⟨N, 0, none⟩) m m)).alloc (.cells (ints zs) 3)) lo g m (bls ++ [N]) n (rss ++ [zs]) := by
  subst hN
  have hgl := h.outer.lt
  refine ⟨by rw [← slm_set m bls n _ hn]; exact (h.outer.set_ _ _).alloc _, by simp [h.len], by simp; omega, fun k hk => ?_, fun k hk => ?_, h.low, fun k hk => ?_⟩
  all_goals rw [List.length_append] at hk
  all_goals simp only [List.length_cons, List.length_nil] at hk
  all_goals by_cases e : k < bls.length
  · rw [gdA_lo _ _ _ _ e, gdA_lo _ _ _ _ (by rw [h.len]; exact e)]
    exact ((h.row k e).far (by have := h.beh k e; show _ ≠ g; omega) _).alloc _
  · rw [gdA_at _ _ _ _ (by omega), gdA_at _ _ _ _ (by rw [h.len]; omega)]
    have := Blk.new (w.setCell ⟨g, bls.length, none⟩ (.slice (some ⟨w.heap.size, 0, none⟩) m m)) 3 (ints zs)
    rwa [show (w.setCell ⟨g, bls.length, none⟩ (.slice (some ⟨w.heap.size, 0, none⟩) m m)).heap.size = w.heap.size by simp [World.setCell]] at this
  · rw [gdA_lo _ _ _ _ (by rw [h.len]; exact e)]; exact h.six k e
  · rw [gdA_at _ _ _ _ (by rw [h.len]; omega)]; exact hz
  · rw [gdA_lo _ _ _ _ e]; exact h.beh k e
  · rw [gdA_at _ _ _ _ (by omega)]; omega
/-- a number of the only row is set -/
theorem TbM.one {b : Nat} {zs : List Int} (h : TbM w lo g m [b] n [zs]) (j : Nat) (v : Int) : TbM (w.setCell ⟨b, j, none⟩ (.int .i64 v)) lo g m [b] n [zs.set j v] := by
  have hb := h.beh 0 (by simp)
  have hr := h.row 0 (by simp)
  have h6 := h.six 0 (by simp)
  simp only [List.getD_cons_zero] at hb hr h6
  refine ⟨h.outer.far (by show g ≠ b; omega) _, by simp, h.le, fun k hk => ?_, fun k hk => ?_, h.low, h.beh⟩
  · obtain rfl : k = 0 := by simp at hk; exact hk
    simp only [List.getD_cons_zero]
    exact hr.int_set j v
  · obtain rfl : k = 0 := by simp at hk; exact hk
    simp only [List.getD_cons_zero]
    rw [List.length_set]; exact h6
theorem TbM.cellO (h : TbM w lo g m bls n rss) {k : Nat} (hk : k < bls.length) : w.cell? ⟨g, k, none⟩ = some (.slice (some ⟨bls.getD k 0, 0, none⟩) m m) := by rw [h.outer.cell, slm_at hk]
theorem TbM.cellR (h : TbM w lo g m bls n rss) {k j : Nat} (hk : k < bls.length) (hj : j < m) : w.cell? ⟨bls.getD k 0, j, none⟩ = some (.int .i64 ((rss.getD k []).getD j 0)) := (h.row k hk).int_cell (by rw [h.six k hk]; exact hj)
end
theorem fillM_next (l : List Int) (n k : Nat) (hl : l.length = n) (hk : k < n) : (l.take k ++ List.replicate (n - k) 0).set k (l.getD k 0) = l.take (k + 1) ++ List.replicate (n - (k + 1)) 0 := by
  have e : l.take (k + 1) = l.take k ++ [l.getD k 0] := by
    rw [List.take_succ_eq_append_getElem (by omega), List.getD_eq_getElem?_getD, List.getElem?_eq_getElem (by omega)]; rfl
  rw [e, List.set_append_right _ _ (by simp; omega), show n - k = (n - (k + 1)) + 1 by omega, List.replicate_succ]
  have : k - (l.take k).length = 0 := by simp; omega
  rw [this, List.set_cons_zero, List.append_assoc]; rfl
end Go.Proofs.YtoiaggjjfahabaaDoor
