/- A region in which every operation yields, in each world of one kind, a value that the world does not turn: one walk for all orders. No program in sight. -/
import Derived.Test.YtoiaggjjfahabaaBase
namespace Go.Proofs.Ytoiaggjjfahabaa
open Go.RowKit
section
variable {P : Program} {ops : Array Oper} {Q : Exit → Act → World → Prop} {md : Region.Mode} {S : World → Prop}
/-- the run yields v, and S holds behind it -/
def Gives (P : Program) (S : World → Prop) (x : Sem Next) (v : Value) (w : World) : Prop :=
  match x.run P w with
  | .ok (.value u) w' => u = v ∧ S w'
  | .ok (.enter f args) w' => Calls P f args w' fun e w'' => e = .returned v ∧ S w''
  | _ => False
/-- the operation yields v at this frame in every world of the kind, or is not wanted -/
def Det (P : Program) (ops : Array Oper) (S : World → Prop) (o : Oper) (v : Value) (a : Act) : Prop :=
  (Region.wanted o (yielded ops a.tmps) = true ∧ ∀ w, S w → Gives P S (execOp a.eval o) v w) ∨ (Region.wanted o (yielded ops a.tmps) = false ∧ v = undef)
theorem Det.step {i : Nat} {o : Oper} {v : Value} {a : Act} (hi : ops[i]? = some o) (hy : Det P ops S o v a) {K : Act → World → Prop} {w : World} (hS : S w) (h : ∀ w', S w' → K (a.put o.dst v) w') : wpOp P ops Q i K a w := by
  unfold wpOp
  simp only [hi]
  rcases hy with ⟨hw, hv⟩ | ⟨hw, rfl⟩
  · simp only [hw, if_true]
    left
    have g := hv w hS
    unfold Gives at g
    unfold Oper.wp
    generalize (execOp a.eval o).run P w = r at *
    cases r with
    | ok n w' =>
      cases n <;> simp only [Oper.upon] at g ⊢
      case value u => obtain ⟨rfl, hs⟩ := g; exact h _ hs
      case enter f args => exact Calls.mono g fun e w'' he => by obtain ⟨rfl, hs⟩ := he; exact h _ hs
    | halt x w' => exact g.elim
  · simp only [hw]; exact h _ hS
theorem Det.of_same {o : Oper} {v : Value} {a a' : Act} (hy : Det P ops S o v a) (he : execOp a'.eval o = execOp a.eval o)
    (hw : Region.wanted o (yielded ops a'.tmps) = Region.wanted o (yielded ops a.tmps)) : Det P ops S o v a' := by
  unfold Det at *
  rw [he, hw]
  exact hy
/-- whatever order is picked from here on -/
def wpD (P : Program) (md : Region.Mode) (ops : Array Oper) (Q : Exit → Act → World → Prop) (S : World → Prop) : Nat → Array Bool → Act → Prop
  | 0, listed, a => Region.ready md ops listed = [] ∧ ∀ w, S w → Q .normal a w
  | fuel + 1, listed, a =>
    (Region.ready md ops listed = [] → ∀ w, S w → Q .normal a w) ∧
    ∀ i ∈ Region.ready md ops listed, ∃ o v, ops[i]? = some o ∧ Det P ops S o v a ∧ wpD P md ops Q S fuel (listed.setIfInBounds i true) (a.put o.dst v)
theorem wpD_sound : ∀ (fuel : Nat) (listed : Array Bool) (a : Act), wpD P md ops Q S fuel listed a → ∀ w, S w → wpAny P md ops Q fuel listed a w
  | 0, _, _, h, w, hS => ⟨h.1, h.2 w hS⟩
  | fuel + 1, _, _, h, w, hS => ⟨fun h0 => h.1 h0 w hS, fun i hi => by
      obtain ⟨o, v, ho, hd, hn⟩ := h.2 i hi
      exact hd.step ho hS (fun w' hS' => wpD_sound fuel _ _ hn w' hS')⟩
theorem wpD_first {i : Nat} {oi : Oper} {v : Value} (hi : ops[i]? = some oi) (hsel : ∀ (j : Nat) (o : Oper) cs b, ops[j]? = some o → o.op ≠ .select cs b) :
    ∀ (fuel : Nat) (listed : Array Bool) (a : Act),
      (∀ j oj, ops[j]? = some oj → j ≠ i → listed.getD j true = false → (∀ e ∈ oj.after, Region.binds md e = true → e.on ≠ i) → oi.apart ops oj = true) →
      i ∈ Region.ready md ops listed → Det P ops S oi v a →
      wpD P md ops Q S fuel (listed.setIfInBounds i true) (a.put oi.dst v) → wpD P md ops Q S (fuel + 1) listed a := by
  intro fuel
  induction fuel with
  | zero =>
    intro listed a _ hr hy H
    refine ⟨fun h => (by rw [h] at hr; cases hr), fun j hj => ?_⟩
    by_cases hji : j = i
    · subst hji; exact ⟨oi, v, hi, hy, H⟩
    · have := ready_mono hj hji
      rw [H.1] at this
      cases this
  | succ fuel ih =>
    intro listed a hfree hr hy H
    refine ⟨fun h => (by rw [h] at hr; cases hr), fun j hj => ?_⟩
    by_cases hji : j = i
    · subst hji; exact ⟨oi, v, hi, hy, H⟩
    · obtain ⟨oj', u, hoj', hd, hn⟩ := H.2 j (ready_mono hj hji)
      obtain ⟨hjun, oj, hoj, hall⟩ := mem_ready.1 hj
      obtain rfl : oj' = oj := Option.some.inj (hoj'.symm.trans hoj)
      have hnot : ∀ e ∈ oj'.after, Region.binds md e = true → e.on ≠ i := fun e he hb heq => by
        have h1 := hall e he hb
        have h0 := (mem_ready.1 hr).1
        rw [heq] at h1
        rcases Nat.lt_or_ge i listed.size with h' | h'
        · simp [h'] at h0 h1; rw [h0] at h1; cases h1
        · simp [Array.getElem?_eq_none h'] at h1
      obtain ⟨h1, h2, h3⟩ := Oper.apart_spec (hfree j oj' hoj hji hjun hnot)
      have hfree' : ∀ k ok, ops[k]? = some ok → k ≠ i → (listed.setIfInBounds j true).getD k true = false →
          (∀ e ∈ ok.after, Region.binds md e = true → e.on ≠ i) → oi.apart ops ok = true := fun k ok hk hki hun hno => by
        refine hfree k ok hk hki ?_ hno
        by_cases hjk : j = k
        · subst hjk; exact hjun
        · rw [getD_set_ne true hjk] at hun; exact hun
      have hdj : Det P ops S oj' u a := hd.of_same (execOp_put oj' (fun cs b => hsel j oj' cs b hoj) a oi.dst v h1).symm (wanted_put oj' a oi.dst v h1).symm
      have hdi : Det P ops S oi v (a.put oj'.dst u) := hy.of_same (execOp_put oi (fun cs b => hsel i oi cs b hi) a oj'.dst u h3) (wanted_put oi a oj'.dst u h3)
      refine ⟨oj', u, hoj, hdj, ih (listed.setIfInBounds j true) (a.put oj'.dst u) hfree' (ready_mono hr (Ne.symm hji)) hdi ?_⟩
      rw [Array.setIfInBounds_comm _ _ hji, ← Act.put_comm a v u h2]
      exact hn
theorem tk_val {i : Nat} {oi : Oper} {v : Value} {fuel : Nat} {listed : Array Bool} {a : Act} (hi : ops[i]? = some oi)
    (hs : Region.noSelect ops = true) (hf : Region.free md ops listed i = true) (hr : (Region.ready md ops listed).contains i = true)
    (hw : Region.wanted oi (yielded ops a.tmps) = true) (hv : ∀ w, S w → (execOp a.eval oi).run P w = .ok (.value v) w)
    (h : wpD P md ops Q S fuel (listed.setIfInBounds i true) (a.put oi.dst v)) : wpD P md ops Q S (fuel + 1) listed a :=
  wpD_first hi (Region.noSelect_spec hs) fuel listed a (Region.free_spec hi hf) (by simpa using hr)
    (.inl ⟨hw, fun w hS => by unfold Gives; rw [hv w hS]; exact ⟨rfl, hS⟩⟩) h
theorem tk_skip {i : Nat} {oi : Oper} {fuel : Nat} {listed : Array Bool} {a : Act} (hi : ops[i]? = some oi)
    (hs : Region.noSelect ops = true) (hf : Region.free md ops listed i = true) (hr : (Region.ready md ops listed).contains i = true)
    (hw : Region.wanted oi (yielded ops a.tmps) = false)
    (h : wpD P md ops Q S fuel (listed.setIfInBounds i true) (a.put oi.dst undef)) : wpD P md ops Q S (fuel + 1) listed a :=
  wpD_first hi (Region.noSelect_spec hs) fuel listed a (Region.free_spec hi hf) (by simpa using hr) (.inr ⟨hw, rfl⟩) h
theorem tk_call {i : Nat} {oi : Oper} {v : Value} {f : FuncId} {args : Array Value} {fuel : Nat} {listed : Array Bool} {a : Act} (hi : ops[i]? = some oi)
    (hs : Region.noSelect ops = true) (hf : Region.free md ops listed i = true) (hr : (Region.ready md ops listed).contains i = true)
    (hw : Region.wanted oi (yielded ops a.tmps) = true) (he : ∀ w, S w → (execOp a.eval oi).run P w = .ok (.enter f args) w)
    (hc : ∀ w, S w → Calls P f args w fun e w' => e = .returned v ∧ S w')
    (h : wpD P md ops Q S fuel (listed.setIfInBounds i true) (a.put oi.dst v)) : wpD P md ops Q S (fuel + 1) listed a :=
  wpD_first hi (Region.noSelect_spec hs) fuel listed a (Region.free_spec hi hf) (by simpa using hr)
    (.inl ⟨hw, fun w hS => by unfold Gives; rw [he w hS]; exact hc w hS⟩) h
theorem wpD_done {listed : Array Bool} {a : Act} (hr : Region.ready md ops listed = []) (h : ∀ w, S w → Q .normal a w) : ∀ fuel, wpD P md ops Q S fuel listed a
  | 0 => ⟨hr, h⟩
  | _ + 1 => ⟨fun _ => h, by rw [hr]; simp⟩
theorem wp_region_det {id : Nat} {a : Act} {w : World} (hm : P.follows .mixedOrders = true) (hS : S w.drew)
    (h : wpD P .any ops Q S ops.size (Array.replicate ops.size false) a) : (Code.region id ops true).wp P Q a w :=
  wp_region_any hm (wpD_sound _ _ _ h _ hS)
end
end Go.Proofs.Ytoiaggjjfahabaa
