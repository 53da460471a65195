/- slices.SortFunc at withBook's comparison: a permutation by ascending ids. Condition: at most twelve bookings. -/
import Derived.Test.YtoiaggjjfahabaaSrtSh
import Derived.Test.YtoiaggjjfahabaaMarkB
import Derived.Test.YtoiaggjjfahabaaWSrt
namespace Go.Proofs.Ytoiaggjjfahabaa
open Go.RowKit
set_option linter.unusedVariables false
instance : Inhabited Quad := ⟨q0⟩
theorem wb1_any (x y : Quad) (W : World) : Calls Try.prog 57 #[.agg x.cells.toArray, .agg y.cells.toArray] W fun e w' => e = .returned (.int .i64 (cmpI x.a y.a)) ∧ ∃ q os', w' = Go.Sort.grow (W.drewN q) os' := by
  obtain ⟨a, b, c, d⟩ := x
  obtain ⟨a', b', c', d'⟩ := y
  show Calls Try.prog 57 #[.agg #[.int .i64 a, .int .i64 b, .int .i64 c, .int .i64 d], .agg #[.int .i64 a', .int .i64 b', .int .i64 c', .int .i64 d']] W fun e w' => e = .returned (.int .i64 (cmpI a a')) ∧ _
  have C0 := fun w => cmp_any a a' w
  generalize cmpI a a' = R at C0 ⊢
  go_enter Try.func57, Try.ntmps57
  go_wp2_with (go_at_call 50; refine (C0 _).mono ?_; rintro e w' ⟨rfl, rfl⟩)
  go_ret
  exact ⟨rfl, 0, _, by rw [Go.Sort.alloc_eq_grow, Go.Sort.alloc_eq_grow, Go.Sort.grow_grow]; rfl⟩
/-- the comparison by ids -/
def cfA (x y : Quad) : Int := cmpI x.a y.a
theorem lt_cfA (x y : Quad) : ltOf cfA x y = decide (x.a < y.a) := by
  unfold ltOf cfA
  rw [decide_eq_decide, cmpI_neg]
theorem swo_cfA : Go.Sort.SWO (ltOf cfA) where
  irrefl x := by rw [lt_cfA, decide_eq_false_iff_not]; omega
  trans x y z h1 h2 := by rw [lt_cfA, decide_eq_true_iff] at *; omega
  ntrans x y z h1 h2 := by rw [lt_cfA, decide_eq_false_iff_not] at *; omega
theorem hlenQ (n : Nat) (W : World) (h : n ≤ 12) : Calls Try.prog 61 #[.int .u64 n] W fun e w' => (∃ l : Int, e = .returned (.int .i64 l)) ∧ w' = W :=
  (Try.bits_Len n W (by omega) (by omega)).mono fun _ _ ⟨he, hw⟩ => ⟨⟨_, he⟩, hw⟩
theorem cells_get (q : Quad) : q.cells[0]! = .int .i64 q.a ∧ q.cells[1]! = .int .i64 q.b ∧ q.cells[2]! = .int .i64 q.c ∧ q.cells[3]! = .int .i64 q.d := ⟨rfl, rfl, rfl, rfl⟩
theorem arr_get (qs : List Quad) (k : Nat) (h : k < qs.length) : (qs.toArray)[k]! = qs.getD k q0 := by
  rw [getElem!_pos _ k (by simpa using h), List.getD_eq_getElem?_getD, List.getElem?_eq_getElem h]; simp
theorem holdsK_of {w : World} {g n : Nat} {qs : List Quad} (h : Rq w g n qs) : Go.Sort.HoldsK Quad.cells 4 w g 0 qs.toArray := by
  intro t ht
  have hl := h.1
  rw [Go.Sort.size_flatK] at ht
  rw [Go.Sort.get_flatK _ _ _ _ ht, Nat.zero_add]
  simp only [List.size_toArray] at ht
  rw [arr_get qs (t / 4) (by omega)]
  obtain ⟨c0, c1, c2, c3⟩ := h.cells (k := t / 4) (by omega)
  obtain ⟨e0, e1, e2, e3⟩ := cells_get (qs.getD (t / 4) q0)
  refine ⟨?_, h.frozen t⟩
  show w.cell? ⟨g, t, none⟩ = some (Quad.cells (qs.getD (t / 4) q0))[t % 4]!
  rcases (by omega : t % 4 = 0 ∨ t % 4 = 1 ∨ t % 4 = 2 ∨ t % 4 = 3) with m | m | m | m
  · rw [m, e0, ← c0, show t / 4 * 4 = t by omega]
  · rw [m, e1, ← c1, show t / 4 * 4 + 1 = t by omega]
  · rw [m, e2, ← c2, show t / 4 * 4 + 2 = t by omega]
  · rw [m, e3, ← c3, show t / 4 * 4 + 3 = t by omega]
theorem of_holdsK {w : World} {g : Nat} {d : Array Quad} {cur : Array Value} (hB : Blk w g 46 cur) (h : Go.Sort.HoldsK Quad.cells 4 w g 0 d) : Rq w g d.size d.toList := by
  refine ⟨by simp, cur, hB, fun k hk => ?_⟩
  have key : ∀ i, i < 4 → cur[k * 4 + i]? = some (Quad.cells (d.toList.getD k q0))[i]! := fun i hi => by
    have h1 := (h (k * 4 + i) (by rw [Go.Sort.size_flatK]; omega)).1
    rw [Go.Sort.get_flatK _ _ _ _ (by omega), Nat.zero_add, hB.cell, show (k * 4 + i) / 4 = k by omega, show (k * 4 + i) % 4 = i by omega] at h1
    rw [h1]
    have e := arr_get d.toList k (by simpa using hk)
    simp only [Array.toArray_toList] at e
    rw [e]; rfl
  obtain ⟨e0, e1, e2, e3⟩ := cells_get (d.toList.getD k q0)
  exact ⟨by rw [← e0]; exact key 0 (by omega), by rw [← e1]; exact key 1 (by omega), by rw [← e2]; exact key 2 (by omega), by rw [← e3]; exact key 3 (by omega)⟩
theorem sortWorld_chg {w : World} {g n : Nat} {cur : Array Value} (hB : Blk w g 46 cur) (d' : Array Quad) (os : Array Obj) :
    Chg g (g + 1) w (sortWorldK Quad.cells 4 w g 0 n d' os) ∧ ∃ cur', Blk (sortWorldK Quad.cells 4 w g 0 n d' os) g 46 cur' := by
  have hgl := hB.lt
  have hh : ∀ k, k < w.heap.size → (sortWorldK Quad.cells 4 w g 0 n d' os).heap[k]? = (Go.Sort.putRowK Quad.cells 4 (Go.Sort.ahead w n) g 0 d').heap[k]? := fun k hk => by
    show ((Go.Sort.putRowK Quad.cells 4 (Go.Sort.ahead w n) g 0 d').heap ++ os)[k]? = _
    rw [Array.getElem?_append, if_pos (by rw [Go.Sort.size_putRowK]; exact hk)]
  refine ⟨⟨rfl, rfl, rfl, ?_, fun k hk hd => ?_⟩, ?_⟩
  · show w.heap.size ≤ ((Go.Sort.putRowK Quad.cells 4 (Go.Sort.ahead w n) g 0 d').heap ++ os).size
    rw [Array.size_append, Go.Sort.size_putRowK]
    exact Nat.le_add_right _ _
  · rw [hh k hk]
    show (w.heap.modify g _)[k]? = _
    rw [Array.getElem?_modify, if_neg (by omega)]
  · refine ⟨Go.Sort.putCells id 0 (Go.Sort.flatK Quad.cells 4 d') cur, ?_⟩
    show (sortWorldK Quad.cells 4 w g 0 n d' os).heap[g]? = _
    rw [hh g hgl]
    show (w.heap.modify g _)[g]? = _
    rw [Array.getElem?_modify, if_pos rfl, show w.heap[g]? = _ from hB]
    rfl
set_option maxHeartbeats 1000000 in
theorem sortQ_any (g n c : Nat) (qs : List Quad) (w : World) (h : Rq w g n qs) (hn : n ≤ 12) :
    Calls Try.prog 56 #[.slice (some ⟨g, 0, none⟩) n c, .func (.func 57) #[] #[]] w
      fun e w' => e = .returned (.tuple #[]) ∧ ∃ ys, Rq w' g n ys ∧ ys.Perm qs ∧ (∀ i j, i < j → j < n → (ys.getD i q0).a ≤ (ys.getD j q0).a) ∧ Chg g (g + 1) w w' := by
  have hl := h.1
  obtain ⟨_, cur, hB, _⟩ := id h
  have eg : ∀ args w, (callFunc 57 args).run Try.prog w = .ok (.enter 57 args) w := enters_of Try.func57 (by kernel_rfl) rfl
  have hs : qs.toArray.size = n := by simp [hl]
  have hK := holdsK_of h
  have hcon := AnyQ.slices_SortFunc_small_sorted Try.laysSortQ 4 Try.isAgg46 Try.sizeOf46 Quad.cells (fun _ => rfl) (fun x v hv => by simp [Quad.cells] at hv; rcases hv with rfl | rfl | rfl | rfl <;> rfl) cfA 57 #[] swo_cfA g 0 c qs.toArray w eg
    (fun _ _ _ _ x y => wb1_any x y _) hK hB.lt (by omega) hlenQ
  rw [hs] at hcon
  refine Calls.mono hcon ?_
  rintro e w' ⟨he, d', m, os, hp, hst, rfl⟩
  refine ⟨he, d'.toList, ?_, ?_, fun i j hij hj => ?_, (sortWorld_chg hB d' os).1⟩
  · obtain ⟨cur', hB'⟩ := (sortWorld_chg (n := m) hB d' os).2
    have hsz : d'.size = n := by rw [hp.1, hs]
    have := of_holdsK hB' (holdsK_sortWorldK_c Quad.cells 4 w g 0 qs.toArray d' m os hK hB.lt hp.1)
    rw [hsz] at this
    exact this
  · have := hp.2.2
    have hsz : d'.size = n := by rw [hp.1, hs]
    rw [show d'.extract 0 n = d' by rw [← hsz]; simp, show qs.toArray.extract 0 n = qs.toArray by rw [← hs]; simp] at this
    simpa using this
  · have hsz : d'.size = n := by rw [hp.1, hs]
    have h1 := hst i j (Nat.zero_le _) hij hj
    rw [lt_cfA, decide_eq_false_iff_not] at h1
    have e1 := arr_get d'.toList i (by simp; omega)
    have e2 := arr_get d'.toList j (by simp; omega)
    simp only [Array.toArray_toList] at e1 e2
    rw [e1, e2] at h1
    omega
end Go.Proofs.Ytoiaggjjfahabaa
