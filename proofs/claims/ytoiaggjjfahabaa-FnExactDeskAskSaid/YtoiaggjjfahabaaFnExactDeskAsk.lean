/- laws.FnExactDeskAsk: for every input the call returns true, and each argument reads behind the call as it read before. No condition. -/
import Derived.Test.YtoiaggjjfahabaaLAsk
import Derived.OpenShut
import Derived.ChangeOld
import Derived.Lib.SmallJoins
namespace Go.Proofs.Ytoiaggjjfahabaa.fnExactDeskAsk
open Go.ChangeShapes Go.WideShapes Go.ChangeAt Go.RowKit Go.Joins
set_option linter.unusedVariables false
set_option maxRecDepth 100000 in
theorem lifted (os : Os) (started : os.Started) (H : Type) (enc : TypeId × Value → H) :
    ReturnsInHanded {} Try.checked os 5 .any (Rows.fnExactDeskAskSpec.pre6 enc Try.prog Try.f5 Rows.fnExactDeskAskRow.domain false) (Rows.fnExactDeskAskSpec.post enc Try.prog Try.f5 false true false false) := by
  refine returnsInHanded_of_change (C := Try.checked) ownP started (by kernel_rfl) Try.func5
    (ChangeSpec.witness6 (enc := enc) (C := Try.checked) false ⟨#[], #[.agg #[.int .i64 0, .slice none 0 0, .slice none 0 0], .agg #[.int .i64 0, .int .i64 0, .int .i64 0, .int .i64 0]], []⟩ 8 (by kernel_rfl) (by kernel_rfl) (by kernel_rfl) (by kernel_rfl)) ?_
  intro W base args ds gs before hval0 hW hcnd _
  have hval : ∀ (j : Nat) t v, Try.f5.params[j]? = some t → args[j]? = some v → Value.okWide Try.prog W .any base t v := hval0
  have hW' := hW
  obtain ⟨p, q, hA0, hV, rfl, hfz, hnd⟩ := hW
  have hA : DataW.TrodAll enc Try.prog W 0 (fun _ => true) true Try.f5.params.toList args.toList ds p := hA0
  rw [Try.params5] at hA hval
  obtain ⟨v0, vs0, d0, ds0, p0, q0, hargs, rfl, rfl, h0, r0⟩ := trodAll_cons hA
  obtain ⟨v1, vs1, d1, ds1, p1, q1, rfl, rfl, rfl, h1, r1⟩ := trodAll_cons r0
  obtain ⟨rfl, rfl, rfl⟩ := trodAll_nil r1
  obtain rfl : args = #[v0, v1] := by cases args; simp_all
  obtain ⟨rfl, rfl⟩ := trodVars_none hV
  have k0 := h0
  have lt0 : ∀ x ∈ p0, x.block < W.heap.size := by obtain ⟨m, hm⟩ := k0; exact DataW.trod_lt m _ _ _ hm
  obtain ⟨c0_0, c0_1, c0_2, y0_0, y0_1, y0_2, m0, rfl, rfl, rfl, g0_0, g0_1, g0_2⟩ := open_agg3 Try.underlying34 (by kernel_rfl) (by kernel_rfl) (hval 0 34 v0 rfl rfl) h0
  obtain ⟨b0_0, e0_0, _, z0_0⟩ := DataW.trod_int Try.underlying3 g0_0
  simp at e0_0; subst e0_0
  obtain ⟨A0_1, len0_1, cap0_1, zs0_1, rfl, w0_1⟩ := quads_of_trod_any Try.underlying22 Try.underlying43 (by kernel_rfl) (by kernel_rfl) ⟨rfl, rfl, rfl, rfl⟩ Try.underlying3 g0_1
  obtain ⟨A0_2, len0_2, cap0_2, zs0_2, rfl, w0_2⟩ := quads_of_trod_any Try.underlying22 Try.underlying43 (by kernel_rfl) (by kernel_rfl) ⟨rfl, rfl, rfl, rfl⟩ Try.underlying3 g0_2
  have k1 := h1
  have lt1 : ∀ x ∈ p1, x.block < W.heap.size := by obtain ⟨m, hm⟩ := k1; exact DataW.trod_lt m _ _ _ hm
  obtain ⟨c1_0, c1_1, c1_2, c1_3, y1_0, y1_1, y1_2, y1_3, m1, rfl, rfl, rfl, g1_0, g1_1, g1_2, g1_3⟩ := open_agg4 Try.underlying43 (by kernel_rfl) (by kernel_rfl) (hval 1 43 v1 rfl rfl) h1
  obtain ⟨b1_0, e1_0, _, z1_0⟩ := DataW.trod_int Try.underlying3 g1_0
  simp at e1_0; subst e1_0
  obtain ⟨b1_1, e1_1, _, z1_1⟩ := DataW.trod_int Try.underlying3 g1_1
  simp at e1_1; subst e1_1
  obtain ⟨b1_2, e1_2, _, z1_2⟩ := DataW.trod_int Try.underlying3 g1_2
  simp at e1_2; subst e1_2
  obtain ⟨b1_3, e1_3, _, z1_3⟩ := DataW.trod_int Try.underlying3 g1_3
  simp at e1_3; subst e1_3
  clear hA0 hval0
  refine (FnExactDeskAsk_walk W b0_0 (wf64 z0_0) A0_1 len0_1 cap0_1 zs0_1 w0_1 A0_2 len0_2 cap0_2 zs0_2 w0_2 b1_0 (wf64 z1_0) b1_1 (wf64 z1_1) b1_2 (wf64 z1_2) b1_3 (wf64 z1_3)).mono fun e W' ⟨he, bel⟩ => ?_
  subst he
  exact ⟨_, rfl, _, _, _, [], _, [], hW', trodAll_mk1 (shut_bool Try.underlying4 _), (trodAll_cons_mk (Below.trod laidOutP (by kernel_rfl) (of_decide_eq_true (by kernel_rfl)) k0 bel lt0) (trodAll_cons_mk (Below.trod laidOutP (by kernel_rfl) (of_decide_eq_true (by kernel_rfl)) k1 bel lt1) trodAll_mk0)), rfl, bel.frame _, fun h => by cases h⟩

theorem over : Rows.fnExactDeskAskRow.holds Try.pinned (OpenSpec.ofChange Rows.fnExactDeskAskSpec) :=
  OpenClaim.holds_of_wide 5 Try.f5 rfl rfl rfl rfl rfl rfl rfl ⟨rfl, rfl, rfl, rfl, rfl⟩ rfl rfl rfl rfl rfl (by kernel_rfl) Try.func5 (by kernel_rfl)
    (of_decide_eq_true (by kernel_rfl)) (by unfold Func.isWrapper; first | (rw [if_pos (by decide +kernel)]; kernel_rfl) | (rw [if_neg (by decide +kernel)]; exact ⟨rfl, rfl⟩))
    (fun os started H enc _ => lifted os started H enc)

theorem proved : Rows.FnExactDeskAskSaid := over
#print axioms proved
end Go.Proofs.Ytoiaggjjfahabaa.fnExactDeskAsk
