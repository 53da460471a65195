/- Needs, feeds and rates: what NeedValid, NeedsValid, FeedValid, RateIn compute, of the program and of the reference. No condition but the lengths. -/
import Derived.Test.YtoiaggjjfahabaaDoorMem
import Derived.Test.YtoiaggjjfahabaaDoorSc
import Derived.Test.YtoiaggjjfahabaaDoorQuad
import Derived.Test.YtoiaggjjfahabaaDoorPCheap
namespace Go.Proofs.YtoiaggjjfahabaaDoor
open Go.RowKit
set_option linter.unusedVariables false
def nv (f t r u : Int) : Bool := decide (0 ≤ f ∧ f ≤ 5 ∧ f < t ∧ t ≤ 6 ∧ 1 ≤ r ∧ r ≤ 30 ∧ 1 ≤ u ∧ u ≤ 30)
theorem NeedValid_i (f t r u : Int) (w : World) :
    Calls Tryd.prog 95 #[.agg #[.int .i64 f, .int .i64 t, .int .i64 r, .int .i64 u]] w fun e w' => e = .returned (.bool (nv f t r u)) ∧ Below w.heap.size w w' := by
  go_enter Tryd.func95, Tryd.ntmps95
  go_wp2
  all_goals
    go_ret
    refine ⟨ret_bool (by rw [Bool.eq_iff_iff]; simp [nv]; omega), ?_⟩
    (repeat (first | exact Below.refl _ _ | assumption | refine Below.alloc ?_ (by first | omega | (simp; done) | (simp; omega)) _ | refine Below.drew ?_ | refine bdN ?_ _ | refine Below.setCell ?_ (by first | omega | (simp; done) | (simp; omega)) _))
set_option maxHeartbeats 1000000 in
theorem NeedValid_s (f t r u : Int) (w : World) (hf : -9223372036854775808 ≤ f ∧ f ≤ 9223372036854775806) :
    Calls Tryd.prog 96 #[.agg #[.int .i64 f, .int .i64 t, .int .i64 r, .int .i64 u]] w fun e w' => e = .returned (.bool (nv f t r u)) ∧ Below w.heap.size w w' := by
  have e1 : IntKind.i64.wrap (f + 1) = f + 1 := IntWalk.i64_in _ (by omega)
  go_enter Tryd.func96, Tryd.ntmps96
  go_wp2
  all_goals
    go_ret
    refine ⟨ret_bool (by rw [Bool.eq_iff_iff]; simp [nv]; omega), ?_⟩
    (repeat (first | exact Below.refl _ _ | assumption | refine Below.alloc ?_ (by first | omega | (simp; done) | (simp; omega)) _ | refine Below.drew ?_ | refine bdN ?_ _ | refine Below.setCell ?_ (by first | omega | (simp; done) | (simp; omega)) _))
def nvq (q : Quad) : Bool := nv q.a q.b q.c q.d
def nsV (qs : List Quad) : Bool := decide (qs.length ≤ 5 ∧ ∀ i, i < qs.length → nvq (qs.getD i q0) = true)
def SmA (qs : List Quad) : Prop := ∀ i, -1000000 ≤ (qs.getD i q0).a ∧ (qs.getD i q0).a ≤ 1000000
theorem nsV_no {qs : List Quad} (i : Nat) (hi : i < qs.length) (h : nvq (qs.getD i q0) = false) : nsV qs = false := by
  unfold nsV; rw [decide_eq_false_iff_not]; rintro ⟨_, g⟩; have := g i hi; rw [h] at this; cases this
set_option maxHeartbeats 1000000 in
theorem NeedsValid_s (A : Option Addr) (n cap : Nat) (qs : List Quad) (w : World) (h : Books w A n qs) (hn : n ≤ 1048576) (hq : SmA qs) :
    Calls Tryd.prog 59 #[.slice A n cap] w fun e w' => e = .returned (.bool (nsV qs)) ∧ Below w.heap.size w w' := by
  go_enter Tryd.func59, Tryd.ntmps59
  go_wp2
  go_loopw [3] (fun i wr => ∃ k : Nat, k ≤ n ∧ i = .int .i64 k ∧ (∀ i, i < k → nvq (qs.getD i q0) = true) ∧ Below w.heap.size w wr) (fun i _ => n - (intOf i).toNat)
  case atStart => exact ⟨0, by omega, rfl, (fun i hi => absurd hi (by omega)), by (repeat (first | exact Below.refl _ _ | assumption | refine Below.alloc ?_ (by first | omega | (simp; done) | (simp; omega)) _ | refine Below.drew ?_ | refine bdN ?_ _ | refine Below.setCell ?_ (by first | omega | (simp; done) | (simp; omega)) _))⟩
  case round =>
    obtain ⟨k, hk, rfl, ho, hb⟩ := hrel
    have Ho := Lib.hid ho
    clear ho
    by_cases hlt : k < n
    · have hB := h.below hb
      obtain ⟨b, off, rfl, hbl, hc⟩ := hB.2 (by omega)
      obtain ⟨r0, r1, r2, r3⟩ := hc k hlt
      have hsm := hq k
      have hno := nsV_no (qs := qs) k (by rw [h.1]; exact hlt)
      obtain ⟨q, hqk⟩ : ∃ q, qs.getD k q0 = q := ⟨_, rfl⟩
      rw [hqk] at r0 r1 r2 r3 hsm hno
      have HN := Lib.hid hno
      have HQ := Lib.hid hqk
      clear hc hno hqk
      by_cases hv : nv q.a q.b q.c q.d = true
      · go_wp2_with fail
        refine (NeedValid_s _ _ _ _ _ (by omega)).mono ?_
        rintro e w1 ⟨rfl, hb1⟩
        have HV := Lib.hid hv
        go_wp2
        clear hv
        go_roundw
        case rel => exact ⟨k + 1, hlt, by go_num, (fun i hi => by rcases Nat.lt_or_ge i k with g | g; exact Ho.out i g; obtain rfl : i = k := (by omega); rw [HQ.out]; exact HV.out), bt hb hb1⟩
        case measure => simp [intOf]; omega
      · have hv' : nv q.a q.b q.c q.d = false := by simpa using hv
        clear hv
        go_wp2_with fail
        refine (NeedValid_s _ _ _ _ _ (by omega)).mono ?_
        rintro e w1 ⟨rfl, hb1⟩
        go_wp2
        go_ret
        exact ⟨ret_bool (HN.out hv').symm, bt hb hb1⟩
    · obtain rfl : k = n := by omega
      go_wp2
      go_ret
      exact ⟨ret_bool (by unfold nsV; rw [decide_eq_decide, h.1]; constructor; (intro g; exact ⟨by omega, Ho.out⟩); (rintro ⟨g, _⟩; omega)), hb⟩
set_option maxHeartbeats 1000000 in
theorem NeedsValid_i (A : Option Addr) (n cap : Nat) (qs : List Quad) (w : World) (h : Books w A n qs) (hn : n ≤ 1048576) :
    Calls Tryd.prog 57 #[.slice A n cap] w fun e w' => e = .returned (.bool (nsV qs)) ∧ Below w.heap.size w w' := by
  by_cases hn5 : 5 < n
  · have HO : Hid (nsV qs = false) := by show _ = _; unfold nsV; rw [decide_eq_false_iff_not, h.1]; rintro ⟨g, _⟩; omega
    go_enter Tryd.func57, Tryd.ntmps57
    go_wp2
    go_ret
    exact ⟨ret_bool HO.out.symm, by (repeat (first | exact Below.refl _ _ | assumption | refine Below.alloc ?_ (by first | omega | (simp; done) | (simp; omega)) _ | refine Below.drew ?_ | refine bdN ?_ _ | refine Below.setCell ?_ (by first | omega | (simp; done) | (simp; omega)) _))⟩
  · go_enter Tryd.func57, Tryd.ntmps57
    go_wp2
    go_loopw [10] (fun i wr => ∃ k : Nat, k ≤ n ∧ i = .int .i64 k ∧ (∀ i, i < k → nvq (qs.getD i q0) = true) ∧ Below w.heap.size w wr) (fun i _ => n - (intOf i).toNat)
    case atStart => exact ⟨0, by omega, rfl, (fun i hi => absurd hi (by omega)), by (repeat (first | exact Below.refl _ _ | assumption | refine Below.alloc ?_ (by first | omega | (simp; done) | (simp; omega)) _ | refine Below.drew ?_ | refine bdN ?_ _ | refine Below.setCell ?_ (by first | omega | (simp; done) | (simp; omega)) _))⟩
    case round =>
      obtain ⟨k, hk, rfl, ho, hb⟩ := hrel
      have Ho := Lib.hid ho
      clear ho
      by_cases hlt : k < n
      · have hB := h.below hb
        obtain ⟨b, off, rfl, hbl, hc⟩ := hB.2 (by omega)
        obtain ⟨r0, r1, r2, r3⟩ := hc k hlt
        have hno := nsV_no (qs := qs) k (by rw [h.1]; exact hlt)
        obtain ⟨q, hqk⟩ : ∃ q, qs.getD k q0 = q := ⟨_, rfl⟩
        rw [hqk] at r0 r1 r2 r3 hno
        have HN := Lib.hid hno
        have HQ := Lib.hid hqk
        have hsz := hb.size
        have i1 : (0 : Int) ≤ (k : Int) := by omega
        have i2 : (k : Int) < (n : Int) := by omega
        clear hc hno hqk
        by_cases hv : nv q.a q.b q.c q.d = true
        · have HV := Lib.hid hv
          go_wp2_with (go_at_call 95; refine (NeedValid_i _ _ _ _ _).mono ?_; rintro e w1 ⟨rfl, hb1⟩)
          clear hv
          go_roundw
          case rel => exact ⟨k + 1, hlt, by go_num, (fun i hi => by rcases Nat.lt_or_ge i k with g | g; exact Ho.out i g; obtain rfl : i = k := (by omega); rw [HQ.out]; exact HV.out), bt (hb.alloc (by omega) _) hb1⟩
          case measure => simp [intOf]; omega
        · have hv' : nv q.a q.b q.c q.d = false := by simpa using hv
          clear hv
          go_wp2_with (go_at_call 95; refine (NeedValid_i _ _ _ _ _).mono ?_; rintro e w1 ⟨rfl, hb1⟩)
          go_ret
          exact ⟨ret_bool (HN.out hv').symm, bt (hb.alloc (by omega) _) hb1⟩
      · obtain rfl : k = n := by omega
        go_wp2
        go_ret
        exact ⟨ret_bool (by symm; unfold nsV; rw [decide_eq_true_iff, h.1]; exact ⟨by omega, Ho.out⟩), hb⟩
def fvV (zs : List Int) : Bool := decide (zs.length = 6 ∧ ∀ i, i < zs.length → 0 ≤ zs.getD i 0 ∧ zs.getD i 0 ≤ 30)
theorem fvV_no {zs : List Int} (i : Nat) (hi : i < zs.length) (h : ¬ (0 ≤ zs.getD i 0 ∧ zs.getD i 0 ≤ 30)) : fvV zs = false := by
  unfold fvV; rw [decide_eq_false_iff_not]; rintro ⟨_, g⟩; exact h (g i hi)
set_option maxHeartbeats 1000000 in
theorem FeedValid_s (A : Option Addr) (n cap : Nat) (zs : List Int) (w : World) (h : Ints w A n zs) (hn : n ≤ 1048576) :
    Calls Tryd.prog 60 #[.slice A n cap] w fun e w' => e = .returned (.bool (fvV zs)) ∧ Below w.heap.size w w' := by
  go_enter Tryd.func60, Tryd.ntmps60
  go_wp2
  go_loopw [3] (fun i wr => ∃ k : Nat, k ≤ n ∧ i = .int .i64 k ∧ (∀ i, i < k → 0 ≤ zs.getD i 0 ∧ zs.getD i 0 ≤ 30) ∧ Below w.heap.size w wr) (fun i _ => n - (intOf i).toNat)
  case atStart => exact ⟨0, by omega, rfl, (fun i hi => absurd hi (by omega)), by (repeat (first | exact Below.refl _ _ | assumption | refine Below.alloc ?_ (by first | omega | (simp; done) | (simp; omega)) _ | refine Below.drew ?_ | refine bdN ?_ _ | refine Below.setCell ?_ (by first | omega | (simp; done) | (simp; omega)) _))⟩
  case round =>
    obtain ⟨k, hk, rfl, ho, hb⟩ := hrel
    have Ho := Lib.hid ho
    clear ho
    by_cases hlt : k < n
    · obtain ⟨b, off, rfl, hbl, hc⟩ := h.2 (by omega)
      have c1 : wr.cell? ⟨b, off + k, none⟩ = some (.int .i64 (zs.getD k 0)) := (hb.cell (p := ⟨b, off + k, none⟩) hbl).trans (hc k hlt)
      have hno := fvV_no (zs := zs) k (by rw [h.1]; exact hlt)
      obtain ⟨z, hz⟩ : ∃ z, zs.getD k 0 = z := ⟨_, rfl⟩
      rw [hz] at c1 hno
      have HN := Lib.hid hno
      have HZ := Lib.hid hz
      clear hc hno hz
      by_cases hv : 0 ≤ z ∧ z ≤ 30
      · have hr : inR z 0 30 = true := inR_yes hv
        have HV := Lib.hid hv
        clear hv
        go_wp2_with (go_at_call 44; refine (l1In_any _ _ _ _).mono ?_; rintro e w1 ⟨rfl, rfl⟩)
        clear hr
        go_roundw
        case rel => exact ⟨k + 1, hlt, by go_num, (fun i hi => by rcases Nat.lt_or_ge i k with g | g; exact Ho.out i g; obtain rfl : i = k := (by omega); rw [HZ.out]; exact HV.out), hb⟩
        case measure => simp [intOf]; omega
      · have hr : inR z 0 30 = false := inR_no hv
        have HO := Lib.hid (HN.out hv)
        clear hv
        go_wp2_with (go_at_call 44; refine (l1In_any _ _ _ _).mono ?_; rintro e w1 ⟨rfl, rfl⟩)
        go_ret
        exact ⟨ret_bool HO.out.symm, hb⟩
    · obtain rfl : k = n := by omega
      go_wp2
      go_ret
      exact ⟨ret_bool (by unfold fvV; rw [Bool.eq_iff_iff, decide_eq_true_iff, h.1]; simp; constructor; (intro g; exact ⟨by omega, fun i hi => by have := Ho.out i hi; simpa using this⟩); (rintro ⟨g, _⟩; omega)), hb⟩
set_option maxHeartbeats 1000000 in
theorem FeedValid_i (A : Option Addr) (n cap : Nat) (zs : List Int) (w : World) (h : Ints w A n zs) (hn : n ≤ 1048576) :
    Calls Tryd.prog 58 #[.slice A n cap] w fun e w' => e = .returned (.bool (fvV zs)) ∧ Below w.heap.size w w' := by
  by_cases hn6 : n = 6
  · subst hn6
    go_enter Tryd.func58, Tryd.ntmps58
    go_wp2
    go_loopw [10] (fun i wr => ∃ k : Nat, k ≤ 6 ∧ i = .int .i64 k ∧ (∀ i, i < k → 0 ≤ zs.getD i 0 ∧ zs.getD i 0 ≤ 30) ∧ Below w.heap.size w wr) (fun i _ => 6 - (intOf i).toNat)
    case atStart => exact ⟨0, by omega, rfl, (fun i hi => absurd hi (by omega)), by (repeat (first | exact Below.refl _ _ | assumption | refine Below.alloc ?_ (by first | omega | (simp; done) | (simp; omega)) _ | refine Below.drew ?_ | refine bdN ?_ _ | refine Below.setCell ?_ (by first | omega | (simp; done) | (simp; omega)) _))⟩
    case round =>
      obtain ⟨k, hk, rfl, ho, hb⟩ := hrel
      have Ho := Lib.hid ho
      clear ho
      by_cases hlt : k < 6
      · obtain ⟨b, off, rfl, hbl, hc⟩ := h.2 (by omega)
        have c1 : wr.cell? ⟨b, off + k, none⟩ = some (.int .i64 (zs.getD k 0)) := (hb.cell (p := ⟨b, off + k, none⟩) hbl).trans (hc k hlt)
        have hno := fvV_no (zs := zs) k (by rw [h.1]; exact hlt)
        obtain ⟨z, hz⟩ : ∃ z, zs.getD k 0 = z := ⟨_, rfl⟩
        rw [hz] at c1 hno
        have HN := Lib.hid hno
        have HZ := Lib.hid hz
        clear hc hno hz
        by_cases hv : 0 ≤ z ∧ z ≤ 30
        · have HV := Lib.hid hv
          obtain ⟨hv1, hv2⟩ := hv
          go_wp2
          go_roundw
          case rel => exact ⟨k + 1, hlt, by go_num, (fun i hi => by rcases Nat.lt_or_ge i k with g | g; exact Ho.out i g; obtain rfl : i = k := (by omega); rw [HZ.out]; exact HV.out), hb⟩
          case measure => simp [intOf]; omega
        · have HO := Lib.hid (HN.out hv)
          rcases (show z < 0 ∨ (0 ≤ z ∧ 30 < z) by omega) with g | ⟨g1, g2⟩
          · clear hv
            go_wp2
            go_ret
            exact ⟨ret_bool HO.out.symm, hb⟩
          · clear hv
            go_wp2
            go_ret
            exact ⟨ret_bool HO.out.symm, hb⟩
      · obtain rfl : k = 6 := by omega
        go_wp2
        go_ret
        exact ⟨ret_bool (by symm; unfold fvV; rw [decide_eq_true_iff, h.1]; exact ⟨rfl, Ho.out⟩), hb⟩
  · have HO : Hid (fvV zs = false) := by show _ = _; unfold fvV; rw [decide_eq_false_iff_not, h.1]; rintro ⟨g, _⟩; omega
    have hx : ((n : Int) != 6) = true := by simp; omega
    go_enter Tryd.func58, Tryd.ntmps58
    go_wp2
    go_ret
    exact ⟨ret_bool HO.out.symm, by (repeat (first | exact Below.refl _ _ | assumption | refine Below.alloc ?_ (by first | omega | (simp; done) | (simp; omega)) _ | refine Below.drew ?_ | refine bdN ?_ _ | refine Below.setCell ?_ (by first | omega | (simp; done) | (simp; omega)) _))⟩
def rin (f t r u h : Int) : Int := if nv f t r u = true then (if f ≤ h ∧ h < t then r else 0) else -1
theorem RateIn_i (f t r u h : Int) (w : World) :
    Calls Tryd.prog 98 #[.agg #[.int .i64 f, .int .i64 t, .int .i64 r, .int .i64 u], .int .i64 h] w fun e w' => e = .returned (.int .i64 (rin f t r u h)) ∧ Below w.heap.size w w' := by
  obtain ⟨V, hV⟩ : ∃ V, nv f t r u = V := ⟨_, rfl⟩
  have C := fun w => NeedValid_i f t r u w
  rw [hV] at C
  unfold rin
  rw [hV]
  clear hV
  go_enter Tryd.func98, Tryd.ntmps98
  cases V
  · go_wp2_with (go_at_call 95; refine (C _).mono ?_; rintro e w1 ⟨rfl, hb1⟩)
    go_ret
    exact ⟨rfl, bt (by (repeat (first | exact Below.refl _ _ | assumption | refine Below.alloc ?_ (by first | omega | (simp; done) | (simp; omega)) _ | refine Below.drew ?_ | refine bdN ?_ _ | refine Below.setCell ?_ (by first | omega | (simp; done) | (simp; omega)) _))) hb1⟩
  · go_wp2_with (go_at_call 95; refine (C _).mono ?_; rintro e w1 ⟨rfl, hb1⟩; have hB := (Blk.new w 84 #[.int .i64 f, .int .i64 t, .int .i64 r, .int .i64 u]).below hb1 (by simp); have c0 := hB.cell 0; have c1 := hB.cell 1; have c2 := hB.cell 2; simp at c0 c1 c2)
    all_goals
      go_ret
      refine ⟨ret_int ?_, bt (by (repeat (first | exact Below.refl _ _ | assumption | refine Below.alloc ?_ (by first | omega | (simp; done) | (simp; omega)) _ | refine Below.drew ?_ | refine bdN ?_ _ | refine Below.setCell ?_ (by first | omega | (simp; done) | (simp; omega)) _))) hb1⟩
      first
      | (simp; done)
      | (simp; omega)
end Go.Proofs.YtoiaggjjfahabaaDoor
