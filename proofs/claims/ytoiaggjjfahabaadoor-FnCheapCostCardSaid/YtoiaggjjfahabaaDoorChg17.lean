/- Rows of ints whose blocks may be longer than they; the memory of the reference's MostPlan. No condition. -/
import Derived.Test.YtoiaggjjfahabaaDoorChg7
import Derived.Test.YtoiaggjjfahabaaDoorGrow
import Derived.Test.YtoiaggjjfahabaaDoorRws
namespace Go.Proofs.YtoiaggjjfahabaaDoor
open Go.RowKit
set_option linter.unusedVariables false
/-- what is wanted, the rates and what is left, in blocks below B1 of their own -/
structure MT (w0 w : World) (n gU gR gL B1 : Nat) (bl cp : Nat → Nat) (σ : Chs) : Prop where
  wn : Rw w gU n σ.us
  ro : ∀ k, k < n → w.cell? ⟨gR, k, none⟩ = some (.slice (some ⟨bl k, 0, none⟩) 6 (cp k))
  rg : gR < w.heap.size
  rl : σ.rss.length = n
  rr : ∀ k, k < n → Rw w (bl k) 6 (σ.rss.getD k [])
  lf : Rw w gL 6 σ.cs
  d1 : gU ≠ gR
  d2 : gU ≠ gL
  d3 : gR ≠ gL
  d4 : ∀ k, k < n → bl k ≠ gU ∧ bl k ≠ gR ∧ bl k ≠ gL
  d5 : ∀ j k, j < n → k < n → j ≠ k → bl j ≠ bl k
  lo : w0.heap.size ≤ gU ∧ w0.heap.size ≤ gR ∧ w0.heap.size ≤ gL ∧ ∀ k, k < n → w0.heap.size ≤ bl k
  hi : gU < B1 ∧ gR < B1 ∧ gL < B1 ∧ ∀ k, k < n → bl k < B1
  cc : ∀ k, k < n → 6 ≤ cp k
  bw : Below w0.heap.size w0 w
  b1 : B1 ≤ w.heap.size
section
variable {w0 w w' : World} {n gU gR gL B1 : Nat} {bl cp : Nat → Nat} {σ : Chs}
theorem MT.high (h : MT w0 w n gU gR gL B1 bl cp σ) (hb : Below B1 w w') : MT w0 w' n gU gR gL B1 bl cp σ :=
  ⟨h.wn.below hb h.hi.1, fun k hk => (hb.cell (p := ⟨gR, k, none⟩) h.hi.2.1).trans (h.ro k hk), Nat.lt_of_lt_of_le h.rg hb.size, h.rl, fun k hk => (h.rr k hk).below hb (h.hi.2.2.2 k hk), h.lf.below hb h.hi.2.2.1, h.d1, h.d2, h.d3, h.d4, h.d5, h.lo, h.hi, h.cc,
   h.bw.trans (hb.mono (by have := h.lo.1; have := h.hi.1; omega)), Nat.le_trans h.b1 hb.size⟩
theorem MT.below (h : MT w0 w n gU gR gL B1 bl cp σ) (hb : Below w.heap.size w w') : MT w0 w' n gU gR gL B1 bl cp σ := h.high (hb.mono h.b1)
theorem MT.drewN (h : MT w0 w n gU gR gL B1 bl cp σ) (k : Nat) : MT w0 (w.drewN k) n gU gR gL B1 bl cp σ := h.below (bdN (Below.refl _ _) k)
theorem MT.tabs (h : MT w0 w n gU gR gL B1 bl cp σ) (six : ∀ k, k < n → (σ.rss.getD k []).length = 6) : Tabs w (some ⟨gR, 0, none⟩) n σ.rss :=
  ⟨h.rl, fun _ => ⟨gR, 0, rfl, h.rg, fun k hk => ⟨some ⟨bl k, 0, none⟩, cp k, by rw [Nat.zero_add, six k hk]; exact h.ro k hk, by rw [six k hk]; exact h.cc k hk, by rw [six k hk]; exact (h.rr k hk).ints⟩⟩⟩
/-- the three stores of a gift -/
theorem MT.give (h : MT w0 w n gU gR gL B1 bl cp σ) {i j : Nat} (hi : i < n) (u : Int) :
    MT w0 (((w.setCell ⟨bl i, j, none⟩ (.int .i64 0)).setCell ⟨gU, i, none⟩ (.int .i64 (σ.us.getD i 0 - u))).setCell ⟨gL, j, none⟩ (.int .i64 (σ.cs.getD j 0 - u))) n gU gR gL B1 bl cp (σ.give i j u) := by
  have d1 := h.d1; have d2 := h.d2; have d3 := h.d3; have d4 := h.d4 i hi
  have lo := h.lo
  have lob := h.lo.2.2.2 i hi
  refine ⟨((h.wn.far (fun e => d4.1 e.symm) _).set i _).far (fun e => d2 e) _, fun k hk => ?_, by simpa [World.setCell] using h.rg, by simpa [Chs.give] using h.rl, fun k hk => ?_, ((h.lf.far (fun e => d4.2.2 e.symm) _).far (fun e => d2 e.symm) _).set j _, d1, d2, d3, h.d4, h.d5, h.lo, h.hi, h.cc, ?_, by simpa [World.setCell] using h.b1⟩
  · have e1 : ((((w.setCell ⟨bl i, j, none⟩ (.int .i64 0)).setCell ⟨gU, i, none⟩ (.int .i64 (σ.us.getD i 0 - u))).setCell ⟨gL, j, none⟩ (.int .i64 (σ.cs.getD j 0 - u)))).heap[gR]? = w.heap[gR]? :=
      ((Below.heap_setCell _ _ _ _ (show gR ≠ gL from d3)).trans (Below.heap_setCell _ _ _ _ (show gR ≠ gU from fun e => d1 e.symm))).trans (Below.heap_setCell _ _ _ _ (show gR ≠ bl i from fun e => d4.2.1 e.symm))
    exact (World.cell?_of_block (a := ⟨gR, k, none⟩) e1).trans (h.ro k hk)
  · have d4k := h.d4 k hk
    show Rw _ (bl k) 6 ((σ.rss.set i ((σ.rss.getD i []).set j 0)).getD k [])
    rw [getD_set]
    by_cases e : i = k
    · subst e
      rw [if_pos ⟨rfl, by rw [h.rl]; exact hi⟩]
      exact (((h.rr i hi).set j 0).far d4k.1 _).far d4k.2.2 _
    · rw [if_neg (fun q => e q.1)]
      exact (((h.rr k hk).far (h.d5 k i hk hi (fun q => e q.symm)) _).far d4k.1 _).far d4k.2.2 _
  · exact ((h.bw.setCell (by show w0.heap.size ≤ bl i; omega) _).setCell (by show w0.heap.size ≤ gU; omega) _).setCell (by show w0.heap.size ≤ gL; omega) _
/-- one unit is taken back -/
theorem MT.back {i j u : Nat} (h : MT w0 w n gU gR gL B1 bl cp (σ.give i j ((u + 1 : Nat) : Int))) (hi : i < n) {v1 v2 : Int} (e1 : v1 = σ.us.getD i 0 - u) (e2 : v2 = σ.cs.getD j 0 - u) :
    MT w0 ((w.setCell ⟨gU, i, none⟩ (.int .i64 v1)).setCell ⟨gL, j, none⟩ (.int .i64 v2)) n gU gR gL B1 bl cp (σ.give i j u) := by
  have d1 := h.d1; have d2 := h.d2; have d3 := h.d3
  have lo := h.lo
  have w1 := (h.wn.set i v1).far (p := ⟨gL, j, none⟩) d2 (.int .i64 v2)
  have w2 := (h.lf.far (p := ⟨gU, i, none⟩) (fun e => d2 e.symm) (.int .i64 v1)).set j v2
  simp only [Chs.give, List.set_set] at w1 w2
  rw [e1] at w1
  rw [e2] at w2
  refine ⟨by rw [e1, e2] at *; exact w1, fun k hk => ?_, by simpa [World.setCell] using h.rg, h.rl, fun k hk => ((h.rr k hk).far (h.d4 k hk).1 _).far (h.d4 k hk).2.2 _, by rw [e1, e2] at *; exact w2, d1, d2, d3, h.d4, h.d5, h.lo, h.hi, h.cc, ?_, by simpa [World.setCell] using h.b1⟩
  · have e3 : ((w.setCell ⟨gU, i, none⟩ (.int .i64 v1)).setCell ⟨gL, j, none⟩ (.int .i64 v2)).heap[gR]? = w.heap[gR]? :=
      (Below.heap_setCell _ _ _ _ (show gR ≠ gL from d3)).trans (Below.heap_setCell _ _ _ _ (show gR ≠ gU from fun e => d1 e.symm))
    exact (World.cell?_of_block (a := ⟨gR, k, none⟩) e3).trans (h.ro k hk)
  · exact (h.bw.setCell (by show w0.heap.size ≤ gU; omega) _).setCell (by show w0.heap.size ≤ gL; omega) _
end
/-- the cells of a table's outer row -/
def ov (ob : List Nat) : List Value := ob.map fun b => Value.slice (some ⟨b, 0, none⟩) 6 6
/-- a list of rows of six of the call's own: the outer row in a block from B on, the rows in blocks from L on -/
structure OT (w : World) (B L g c k : Nat) (ob : List Nat) (rows : List (List Int)) : Prop where
  own : w.ownsRow B 28 1 (.slice (some ⟨g, 0, none⟩) k c) k (ov ob)
  ol : ob.length = k
  rl : rows.length = k
  rr : ∀ i, i < k → Blk w (ob.getD i 0) 3 (ints (rows.getD i []))
  six : ∀ i, i < k → (rows.getD i []).length = 6
  d1 : ∀ i, i < k → ob.getD i 0 ≠ g
  d2 : ∀ i j, i < k → j < k → i ≠ j → ob.getD i 0 ≠ ob.getD j 0
  lo : ∀ i, i < k → L ≤ ob.getD i 0
section
variable {w w' : World} {B L g c k : Nat} {ob : List Nat} {rows : List (List Int)}
theorem OT.at_ (h : OT w B L g c k ob rows) : B ≤ g ∧ g < w.heap.size ∧ k ≤ c ∧ c ≤ maxLen := by
  rcases h.own.2 with ⟨h0, _⟩ | ⟨g', c', cur, e1, hb, hg, hcc, hm, _⟩
  · cases h0
  · simp only [Value.slice.injEq, Option.some.injEq, Addr.mk.injEq, and_true, true_and] at e1
    obtain ⟨rfl, rfl⟩ := e1
    refine ⟨hb, ?_, hcc, hm⟩
    rcases Nat.lt_or_ge g w.heap.size with q | q
    · exact q
    · rw [Array.getElem?_eq_none q] at hg; cases hg
theorem OT.keep (h : OT w B L g c k ob rows) (hg : w'.heap[g]? = w.heap[g]?) (hr : ∀ i, i < k → w'.heap[ob.getD i 0]? = w.heap[ob.getD i 0]?) : OT w' B L g c k ob rows := by
  refine ⟨⟨h.own.1, ?_⟩, h.ol, h.rl, fun i hi => (hr i hi).trans (h.rr i hi), h.six, h.d1, h.d2, h.lo⟩
  rcases h.own.2 with h0 | ⟨g', c', cur, e1, hb, hg', hcc⟩
  · exact .inl h0
  · refine .inr ⟨g', c', cur, e1, hb, ?_, hcc⟩
    simp only [Value.slice.injEq, Option.some.injEq, Addr.mk.injEq, and_true, true_and] at e1
    obtain ⟨rfl, rfl⟩ := e1
    rw [hg]; exact hg'
theorem OT.below (h : OT w B L g c k ob rows) (hb : Below w.heap.size w w') : OT w' B L g c k ob rows :=
  h.keep (hb.block g h.at_.2.1) fun i hi => hb.block _ (h.rr i hi).lt
theorem OT.far (h : OT w B L g c k ob rows) {p : Addr} (hp : g ≠ p.block) (hr : ∀ i, i < k → ob.getD i 0 ≠ p.block) (v : Value) : OT (w.setCell p v) B L g c k ob rows :=
  h.keep (Below.heap_setCell w p v g hp) fun i hi => Below.heap_setCell w p v _ (hr i hi)
theorem OT.cellO (h : OT w B L g c k ob rows) {i : Nat} (hi : i < k) : w.cell? ⟨g, i, none⟩ = some (.slice (some ⟨ob.getD i 0, 0, none⟩) 6 6) := by
  have hc := h.own.cellAt i (by omega)
  have hol := h.ol
  rw [hc, ov, List.getElem?_map, List.getElem?_eq_getElem (by omega), List.getD_eq_getElem?_getD, List.getElem?_eq_getElem (by omega)]; rfl
theorem OT.cellR (h : OT w B L g c k ob rows) {i j : Nat} (hi : i < k) (hj : j < 6) : w.cell? ⟨ob.getD i 0, j, none⟩ = some (.int .i64 ((rows.getD i []).getD j 0)) := (h.rr i hi).int_cell (by rw [h.six i hi]; exact hj)
theorem OT.tabs (h : OT w B L g c k ob rows) : Tabs w (some ⟨g, 0, none⟩) k rows :=
  ⟨h.rl, fun _ => ⟨g, 0, rfl, h.at_.2.1, fun i hi => ⟨some ⟨ob.getD i 0, 0, none⟩, 6, by rw [Nat.zero_add, h.six i hi]; exact h.cellO hi, by rw [h.six i hi]; exact Nat.le_refl _, Ints.of_blk (h.rr i hi)⟩⟩⟩
theorem OT.new {w : World} {B g c : Nat} (L : Nat) (h : w.ownsRow B 28 1 (.slice (some ⟨g, 0, none⟩) 0 c) 0 []) : OT w B L g c 0 [] [] :=
  ⟨h, rfl, rfl, fun i hi => absurd hi (by omega), fun i hi => absurd hi (by omega), fun i hi => absurd hi (by omega), fun i j hi => absurd hi (by omega), fun i hi => absurd hi (by omega)⟩
/-- a row more: appended -/
theorem OT.app {w1 : World} {b : Nat} {zs : List Int} {o : Obj} {v' : Value} (h : OT w B L g c k ob rows) (hb : Blk w b 3 (ints zs)) (hz : zs.length = 6) (hbg : b ≠ g) (hbl : L ≤ b) (hbo : ∀ i, i < k → ob.getD i 0 ≠ b)
    (ho : w1.ownsRow B 28 1 v' (k + 1) (ov ob ++ [.slice (some ⟨b, 0, none⟩) 6 6])) (hg : (w.alloc o).grownBy w1 (Value.slice (some ⟨g, 0, none⟩) k c).ownBlock) (hf : v'.ownBlock = (Value.slice (some ⟨g, 0, none⟩) k c).ownBlock ∨ v'.ownBlock = some (w.heap.size + 1)) :
    ∃ g' c', v' = .slice (some ⟨g', 0, none⟩) (k + 1) c' ∧ OT w1 B L g' c' (k + 1) (ob ++ [b]) (rows ++ [zs]) ∧ (g' = g ∨ w.heap.size < g') ∧ (∀ x, x < w.heap.size → x ≠ g → w1.heap[x]? = w.heap[x]?) := by
  obtain ⟨g', c', rfl, e1, e2, e3, e4⟩ := own_at ho (by omega)
  have hol := h.ol
  have hrl := h.rl
  have gg := h.at_
  have fr : g' = g ∨ w.heap.size < g' := by
    simp only [Value.ownBlock, Option.some.injEq] at hf
    rcases hf with q | q
    · exact .inl q
    · right; omega
  have kept : ∀ x, x < w.heap.size → x ≠ g → w1.heap[x]? = w.heap[x]? := fun x hx hne => by
    have q1 := hg.block x (by simp; omega) (by simp [Value.ownBlock]; exact hne)
    exact q1.trans (Below.heap_alloc w o x hx)
  have rows1 : ∀ i, i < k → Blk w1 (ob.getD i 0) 3 (ints (rows.getD i [])) := fun i hi => (kept _ (h.rr i hi).lt (h.d1 i hi)).trans (h.rr i hi)
  have rowb : Blk w1 b 3 (ints zs) := (kept b hb.lt hbg).trans hb
  have hbw := hb.lt
  refine ⟨g', c', rfl, ⟨by rw [ov, List.map_append]; exact ho, by simp; omega, by simp; omega, fun i hi => ?_, fun i hi => ?_, fun i hi => ?_, fun i j hi hj hne => ?_, fun i hi => ?_⟩, fr, kept⟩
  · by_cases e : i < k
    · rw [getD_append_lo _ _ _ _ (by omega), getD_append_lo _ _ _ _ (by omega)]; exact rows1 i e
    · rw [getD_append_at _ _ _ _ (by omega), getD_append_at _ _ _ _ (by omega)]; exact rowb
  · by_cases e : i < k
    · rw [getD_append_lo _ _ _ _ (by omega)]; exact h.six i e
    · rw [getD_append_at _ _ _ _ (by omega)]; exact hz
  · by_cases e : i < k
    · rw [getD_append_lo _ _ _ _ (by omega)]
      have := h.d1 i e
      have := (h.rr i e).lt
      omega
    · rw [getD_append_at _ _ _ _ (by omega)]; omega
  · by_cases e : i < k
    · by_cases e2 : j < k
      · rw [getD_append_lo _ _ _ _ (by omega), getD_append_lo _ _ _ _ (by omega)]; exact h.d2 i j e e2 hne
      · rw [getD_append_lo _ _ _ _ (by omega), getD_append_at _ _ _ _ (by omega)]; exact hbo i e
    · rw [getD_append_at _ _ _ _ (by omega), getD_append_lo _ _ _ _ (by omega)]; exact fun q => hbo j (by omega) q.symm
  · by_cases e : i < k
    · rw [getD_append_lo _ _ _ _ (by omega)]; exact h.lo i e
    · rw [getD_append_at _ _ _ _ (by omega)]; exact hbl
end
/-- the rates' outer cells -/
def rv (bl cp : Nat → Nat) (k : Nat) : List Value := (List.range k).map fun i => Value.slice (some ⟨bl i, 0, none⟩) 6 (cp i)
/-- behind the lists of the first needs: ku of them wanted, k rows of rates -/
structure PH (w0 w : World) (ku k gO gU cU gR cR : Nat) (bl cp : Nat → Nat) (us : List Int) (rss : List (List Int)) : Prop where
  oo : w.ownsRow w0.heap.size 28 1 (.slice (some ⟨gO, 0, none⟩) 0 0) 0 []
  un : w.ownsRow w0.heap.size 3 1 (.slice (some ⟨gU, 0, none⟩) ku cU) ku ((us.take ku).map (Value.int .i64))
  ra : w.ownsRow w0.heap.size 28 1 (.slice (some ⟨gR, 0, none⟩) k cR) k (rv bl cp k)
  rr : ∀ i, i < k → Rw w (bl i) 6 (rss.getD i [])
  cc : ∀ i, i < k → 6 ≤ cp i
  d0 : gO ≠ gU ∧ gO ≠ gR ∧ gU ≠ gR
  d1 : ∀ i, i < k → bl i ≠ gO ∧ bl i ≠ gU ∧ bl i ≠ gR ∧ w0.heap.size ≤ bl i
  d2 : ∀ i j, i < k → j < k → i ≠ j → bl i ≠ bl j
  bw : Below w0.heap.size w0 w
theorem own_lt {w : World} {base e s n g c m : Nat} {xs : List Value} (h : w.ownsRow base e s (.slice (some ⟨g, 0, none⟩) n c) m xs) : base ≤ g ∧ g < w.heap.size := h.lt g rfl
theorem own_keep {w w' : World} {base e s n g c m : Nat} {xs : List Value} (h : w.ownsRow base e s (.slice (some ⟨g, 0, none⟩) n c) m xs) (hk : w'.heap[g]? = w.heap[g]?) : w'.ownsRow base e s (.slice (some ⟨g, 0, none⟩) n c) m xs := by
  refine ⟨h.1, ?_⟩
  rcases h.2 with h0 | ⟨g', cap, cur, e1, hb, hg, rest⟩
  · exact .inl h0
  · refine .inr ⟨g', cap, cur, e1, hb, ?_, rest⟩
    simp only [Value.slice.injEq, Option.some.injEq, Addr.mk.injEq, and_true] at e1
    rw [← e1.1, hk, e1.1]; exact hg
section
variable {w0 w w' w1 : World} {ku k gO gU cU gR cR : Nat} {bl cp : Nat → Nat} {us : List Int} {rss : List (List Int)}
theorem PH.keep (h : PH w0 w ku k gO gU cU gR cR bl cp us rss) (hk : ∀ x, x < w.heap.size → (x = gO ∨ x = gU ∨ x = gR ∨ ∃ i, i < k ∧ x = bl i) → w'.heap[x]? = w.heap[x]?) (hb : Below w0.heap.size w0 w') : PH w0 w' ku k gO gU cU gR cR bl cp us rss :=
  ⟨own_keep h.oo (hk _ (own_lt h.oo).2 (.inl rfl)), own_keep h.un (hk _ (own_lt h.un).2 (.inr (.inl rfl))), own_keep h.ra (hk _ (own_lt h.ra).2 (.inr (.inr (.inl rfl)))), fun i hi => (h.rr i hi).keep (hk _ (h.rr i hi).lt (.inr (.inr (.inr ⟨i, hi, rfl⟩)))), h.cc, h.d0, h.d1, h.d2, hb⟩
theorem PH.below (h : PH w0 w ku k gO gU cU gR cR bl cp us rss) (hb : Below w.heap.size w w') : PH w0 w' ku k gO gU cU gR cR bl cp us rss :=
  h.keep (fun x hx _ => hb.block x hx) (h.bw.trans (hb.mono h.bw.size))
/-- a row in the making: b is none of the blocks -/
def Apart (b k gO gU gR : Nat) (bl : Nat → Nat) : Prop := b ≠ gO ∧ b ≠ gU ∧ b ≠ gR ∧ ∀ i, i < k → bl i ≠ b
theorem PH.fresh (h : PH w0 w ku k gO gU cU gR cR bl cp us rss) {b : Nat} (hb : w.heap.size ≤ b) : Apart b k gO gU gR bl := by
  have a := (own_lt h.oo).2
  have a2 := (own_lt h.un).2
  have a3 := (own_lt h.ra).2
  refine ⟨by omega, by omega, by omega, fun i hi => ?_⟩
  have := (h.rr i hi).lt
  omega
/-- the row in the making grows -/
theorem PH.rowapp {b c j : Nat} {zs : List Int} {o : Obj} {v' : Value} {x : Int} (h : PH w0 w ku k gO gU cU gR cR bl cp us rss) (ha : Apart b k gO gU gR bl) (hlo : w0.heap.size ≤ b)
    (ho : w1.ownsRow w0.heap.size 3 1 v' (j + 1) (zs.map (Value.int .i64) ++ [.int .i64 x])) (hg : (w.alloc o).grownBy w1 (Value.slice (some ⟨b, 0, none⟩) j c).ownBlock) (hf : v'.ownBlock = (Value.slice (some ⟨b, 0, none⟩) j c).ownBlock ∨ v'.ownBlock = some (w.heap.size + 1)) :
    ∃ b' c', v' = .slice (some ⟨b', 0, none⟩) (j + 1) c' ∧ PH w0 w1 ku k gO gU cU gR cR bl cp us rss ∧ Apart b' k gO gU gR bl ∧ w0.heap.size ≤ b' ∧ w1.ownsRow w0.heap.size 3 1 (.slice (some ⟨b', 0, none⟩) (j + 1) c') (j + 1) ((zs ++ [x]).map (Value.int .i64)) := by
  obtain ⟨b', c', rfl, e1, e2, e3, e4⟩ := own_at ho (by omega)
  have kept : ∀ y, y < w.heap.size → y ≠ b → w1.heap[y]? = w.heap[y]? := fun y hy hne => by
    have q1 := hg.block y (by simp; omega) (by simp [Value.ownBlock]; exact hne)
    exact q1.trans (Below.heap_alloc w o y hy)
  have hsz := h.bw.size
  refine ⟨b', c', rfl, h.keep (fun y hy hm => kept y hy ?_) ((h.bw.alloc hsz o).grown hg (by simp; omega) (fun q hq => by simp [Value.ownBlock] at hq; omega)), ?_, e1, by rw [List.map_append]; exact ho⟩
  · obtain ⟨a1, a2, a3, a4⟩ := ha
    rcases hm with rfl | rfl | rfl | ⟨i, hi, rfl⟩
    · exact fun q => a1 q.symm
    · exact fun q => a2 q.symm
    · exact fun q => a3 q.symm
    · exact a4 i hi
  · simp only [Value.ownBlock, Option.some.injEq] at hf
    rcases hf with q | q
    · rw [q]; exact ha
    · exact h.fresh (by omega)
/-- one more is wanted -/
theorem PH.unapp {b : Nat} {zs : List Int} {o : Obj} {v' : Value} (h : PH w0 w k k gO gU cU gR cR bl cp us rss) (ha : Apart b k gO gU gR bl) (hk : k < us.length) (hr : Rw w b 6 zs)
    (ho : w1.ownsRow w0.heap.size 3 1 v' (k + 1) ((us.take k).map (Value.int .i64) ++ [.int .i64 (us.getD k 0)])) (hg : (w.alloc o).grownBy w1 (Value.slice (some ⟨gU, 0, none⟩) k cU).ownBlock) (hf : v'.ownBlock = (Value.slice (some ⟨gU, 0, none⟩) k cU).ownBlock ∨ v'.ownBlock = some (w.heap.size + 1)) :
    ∃ g' c', v' = .slice (some ⟨g', 0, none⟩) (k + 1) c' ∧ PH w0 w1 (k + 1) k gO g' c' gR cR bl cp us rss ∧ Apart b k gO g' gR bl ∧ Rw w1 b 6 zs := by
  obtain ⟨g', c', rfl, e1, e2, e3, e4⟩ := own_at ho (by omega)
  have kept : ∀ y, y < w.heap.size → y ≠ gU → w1.heap[y]? = w.heap[y]? := fun y hy hne => by
    have q1 := hg.block y (by simp; omega) (by simp [Value.ownBlock]; exact hne)
    exact q1.trans (Below.heap_alloc w o y hy)
  have hsz := h.bw.size
  obtain ⟨a1, a2, a3, a4⟩ := ha
  have lo := own_lt h.oo
  have lu := own_lt h.un
  have la := own_lt h.ra
  have lb := hr.lt
  have d0 := h.d0
  have fr : g' = gU ∨ w.heap.size < g' := by
    simp only [Value.ownBlock, Option.some.injEq] at hf
    rcases hf with q | q
    · exact .inl q
    · right; omega
  refine ⟨g', c', rfl, ⟨own_keep h.oo (kept gO lo.2 d0.1), by rw [take_push us k 0 hk, List.map_append]; exact ho, own_keep h.ra (kept gR la.2 (fun q => d0.2.2 q.symm)), fun i hi => (h.rr i hi).keep (kept _ (h.rr i hi).lt (h.d1 i hi).2.1), h.cc, ⟨by omega, d0.2.1, by omega⟩, fun i hi => ?_, h.d2, (h.bw.alloc hsz o).grown hg (by simp; omega) (fun q hq => by simp [Value.ownBlock] at hq; omega)⟩, ⟨a1, by omega, a3, a4⟩, hr.keep (kept b lb a2)⟩
  have := h.d1 i hi
  have := (h.rr i hi).lt
  omega
/-- the row is among the rates -/
theorem PH.raapp {b c : Nat} {zs : List Int} {o : Obj} {v' : Value} (h : PH w0 w (k + 1) k gO gU cU gR cR bl cp us rss) (ha : Apart b k gO gU gR bl) (hlo : w0.heap.size ≤ b) (hr : Rw w b 6 zs) (hz : rss.getD k [] = zs) (h6 : 6 ≤ c)
    (ho : w1.ownsRow w0.heap.size 28 1 v' (k + 1) (rv bl cp k ++ [.slice (some ⟨b, 0, none⟩) 6 c])) (hg : (w.alloc o).grownBy w1 (Value.slice (some ⟨gR, 0, none⟩) k cR).ownBlock) (hf : v'.ownBlock = (Value.slice (some ⟨gR, 0, none⟩) k cR).ownBlock ∨ v'.ownBlock = some (w.heap.size + 1)) :
    ∃ g' c' bl' cp', v' = .slice (some ⟨g', 0, none⟩) (k + 1) c' ∧ PH w0 w1 (k + 1) (k + 1) gO gU cU g' c' bl' cp' us rss := by
  obtain ⟨g', c', rfl, e1, e2, e3, e4⟩ := own_at ho (by omega)
  have kept : ∀ y, y < w.heap.size → y ≠ gR → w1.heap[y]? = w.heap[y]? := fun y hy hne => by
    have q1 := hg.block y (by simp; omega) (by simp [Value.ownBlock]; exact hne)
    exact q1.trans (Below.heap_alloc w o y hy)
  have hsz := h.bw.size
  obtain ⟨a1, a2, a3, a4⟩ := ha
  have lo := own_lt h.oo
  have lu := own_lt h.un
  have la := own_lt h.ra
  have lb := hr.lt
  have d0 := h.d0
  have fr : g' = gR ∨ w.heap.size < g' := by
    simp only [Value.ownBlock, Option.some.injEq] at hf
    rcases hf with q | q
    · exact .inl q
    · right; omega
  have er : rv (fun i => if i = k then b else bl i) (fun i => if i = k then c else cp i) (k + 1) = rv bl cp k ++ [.slice (some ⟨b, 0, none⟩) 6 c] := by
    unfold rv
    rw [List.range_succ, List.map_append]
    congr 1
    · apply List.map_congr_left
      intro i hi
      have : i ≠ k := by have := List.mem_range.mp hi; omega
      simp [this]
    · simp
  refine ⟨g', c', fun i => if i = k then b else bl i, fun i => if i = k then c else cp i, rfl, ⟨own_keep h.oo (kept gO lo.2 d0.2.1), own_keep h.un (kept gU lu.2 d0.2.2), by rw [er]; exact ho, fun i hi => ?_, fun i hi => ?_, ⟨d0.1, by omega, by omega⟩, fun i hi => ?_, fun i j hi hj hne => ?_, (h.bw.alloc hsz o).grown hg (by simp; omega) (fun q hq => by simp [Value.ownBlock] at hq; omega)⟩⟩
  · show Rw w1 (if i = k then b else bl i) 6 _
    by_cases e : i = k
    · subst e; rw [if_pos rfl, hz]; exact hr.keep (kept b lb a3)
    · rw [if_neg e]; exact (h.rr i (by omega)).keep (kept _ (h.rr i (by omega)).lt (h.d1 i (by omega)).2.2.1)
  · show 6 ≤ if i = k then c else cp i
    by_cases e : i = k
    · rw [if_pos e]; exact h6
    · rw [if_neg e]; exact h.cc i (by omega)
  · show (if i = k then b else bl i) ≠ gO ∧ (if i = k then b else bl i) ≠ gU ∧ (if i = k then b else bl i) ≠ g' ∧ w0.heap.size ≤ (if i = k then b else bl i)
    by_cases e : i = k
    · rw [if_pos e]; omega
    · rw [if_neg e]
      have := h.d1 i (by omega)
      have := (h.rr i (by omega)).lt
      omega
  · show (if i = k then b else bl i) ≠ (if j = k then b else bl j)
    by_cases e : i = k
    · by_cases e2 : j = k
      · omega
      · rw [if_pos e, if_neg e2]; exact fun q => a4 j (by omega) q.symm
    · by_cases e2 : j = k
      · rw [if_neg e, if_pos e2]; exact a4 i (by omega)
      · rw [if_neg e, if_neg e2]; exact h.d2 i j (by omega) (by omega) hne
/-- behind the lists: what is left joins them -/
theorem PH.mt {σ : Chs} {n gL : Nat} (h : PH w0 w n n gO gU cU gR cR bl cp σ.us σ.rss) (hu : σ.us.length = n) (hr : σ.rss.length = n) (hk : ∀ y, y < w.heap.size → w1.heap[y]? = w.heap[y]?) (hb : Below w0.heap.size w0 w1) (hs : w.heap.size ≤ w1.heap.size) (hl : Rw w1 gL 6 σ.cs) (hg : w.heap.size ≤ gL) :
    MT w0 w1 n gU gR gL w1.heap.size bl cp σ ∧ OT w1 w0.heap.size w1.heap.size gO 0 0 [] [] ∧ Apart gO n gU gR gL bl := by
  have lo := own_lt h.oo
  have lu := own_lt h.un
  have la := own_lt h.ra
  have d0 := h.d0
  have lL := hl.lt
  have P1 : PH w0 w1 n n gO gU cU gR cR bl cp σ.us σ.rss := h.keep (fun x hx _ => hk x hx) hb
  have r1 := fun i hi => (h.rr i hi).lt
  have hun := P1.un
  rw [List.take_of_length_le (by omega)] at hun
  refine ⟨⟨(Rw.of_own hun hu).1, fun i hi => ?_, by omega, hr, P1.rr, hl, d0.2.2, by omega, by omega, fun i hi => ?_, h.d2, ⟨lu.1, la.1, by have := h.bw.size; omega, fun i hi => (h.d1 i hi).2.2.2⟩, ⟨by omega, by omega, lL, fun i hi => (P1.rr i hi).lt⟩, h.cc, hb, Nat.le_refl _⟩, OT.new _ P1.oo, ⟨d0.1, d0.2.1, by omega, fun i hi => (h.d1 i hi).1⟩⟩
  · have hc := P1.ra.cellAt i (by omega)
    rw [hc]
    unfold rv
    rw [List.getElem?_map, List.getElem?_range hi]; rfl
  · have := h.d1 i hi
    have := r1 i hi
    omega
end
section
variable {w0 w w' w1 : World} {n gU gR gL B1 : Nat} {bl cp : Nat → Nat} {σ : Chs}
/-- an append elsewhere -/
theorem MT.kept (h : MT w0 w n gU gR gL B1 bl cp σ) {g : Nat} (ha : Apart g n gU gR gL bl) (hk : ∀ y, y < w.heap.size → y ≠ g → w1.heap[y]? = w.heap[y]?) (hb : Below w0.heap.size w0 w1) (hs : w.heap.size ≤ w1.heap.size) : MT w0 w1 n gU gR gL B1 bl cp σ := by
  obtain ⟨a1, a2, a3, a4⟩ := ha
  exact ⟨h.wn.keep (hk _ h.wn.lt (fun q => a1 q.symm)), fun i hi => (World.cell?_of_block (a := ⟨gR, i, none⟩) (hk gR h.rg (fun q => a2 q.symm))).trans (h.ro i hi), Nat.lt_of_lt_of_le h.rg hs, h.rl, fun i hi => (h.rr i hi).keep (hk _ (h.rr i hi).lt (a4 i hi)), h.lf.keep (hk _ h.lf.lt (fun q => a3 q.symm)), h.d1, h.d2, h.d3, h.d4, h.d5, h.lo, h.hi, h.cc, hb, Nat.le_trans h.b1 hs⟩
end
end Go.Proofs.YtoiaggjjfahabaaDoor
