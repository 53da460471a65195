/- bookOrder of the program at BookPlaces' function: what it computes. Condition: a short list. -/
import Derived.Test.YtoiaggjjfahabaaPSrt
import Derived.Test.YtoiaggjjfahabaaOI
import Derived.Test.YtoiaggjjfahabaaRws
namespace Go.Proofs.Ytoiaggjjfahabaa
open Go.RowKit
set_option linter.unusedVariables false
theorem isNaN_any (a : Int) (w : World) : Calls Try.prog 59 #[.int .i64 a] w fun e w' => e = .returned (.bool false) ∧ w = w' := by
  have hb : (a != a) = false := by simp
  go_enter Try.func59, Try.ntmps59
  go_wp2
  go_ret
  exact ⟨rfl, rfl⟩
theorem cmp_any (a b : Int) (w : World) : Calls Try.prog 50 #[.int .i64 a, .int .i64 b] w fun e w' => e = .returned (.int .i64 (cmpI a b)) ∧ w = w' := by
  rcases Int.lt_trichotomy a b with h | h | h
  · have h1 : decide (a < b) = true := by simpa using h
    have hc : Hid (cmpI a b = -1) := by show _ = _; unfold cmpI; rw [if_pos h]
    clear h
    go_enter Try.func50, Try.ntmps50
    go_wp2_with (go_at_call 59; refine (isNaN_any _ _).mono ?_; rintro e w' ⟨rfl, rfl⟩)
    go_ret
    exact ⟨ret_int hc.out.symm, rfl⟩
  · subst h
    have h1 : decide (a < a) = false := by simp
    have hc : Hid (cmpI a a = 0) := by show _ = _; unfold cmpI; rw [if_neg (by omega), if_neg (by omega)]
    go_enter Try.func50, Try.ntmps50
    go_wp2_with (go_at_call 59; refine (isNaN_any _ _).mono ?_; rintro e w' ⟨rfl, rfl⟩)
    go_ret
    exact ⟨ret_int hc.out.symm, rfl⟩
  · have h1 : decide (a < b) = false := by simp; omega
    have h2 : decide (b < a) = true := by simpa using h
    have hc : Hid (cmpI a b = 1) := by show _ = _; unfold cmpI; rw [if_neg (by omega), if_pos h]
    clear h
    go_enter Try.func50, Try.ntmps50
    go_wp2_with (go_at_call 59; refine (isNaN_any _ _).mono ?_; rintro e w' ⟨rfl, rfl⟩)
    go_ret
    exact ⟨ret_int hc.out.symm, rfl⟩
theorem from_any (a b c d : Int) (w : World) : Calls Try.prog 30 #[.agg #[.int .i64 a, .int .i64 b, .int .i64 c, .int .i64 d]] w fun e w' => e = .returned (.int .i64 b) ∧ Below w.heap.size w w' := by
  go_enter Try.func30, Try.ntmps30
  go_wp2
  go_ret
  exact ⟨rfl, by (repeat (first | exact Below.refl _ _ | assumption | refine Below.alloc ?_ (by first | omega | (simp; done) | (simp; omega)) _ | refine Below.drew ?_ | refine bdN ?_ _ | refine Below.setCell ?_ (by first | omega | (simp; done) | (simp; omega)) _))⟩
/-- the boxes that the comparison reads -/
structure Box (w : World) (A : Option Addr) (n cap : Nat) (qs : List Quad) (hb lb : Nat) : Prop where
  bk : Books w A n qs
  fh : w.cell? ⟨hb, 0, none⟩ = some (.func (Fn.func 30) #[] #[])
  fl : w.cell? ⟨lb, 0, none⟩ = some (.slice A n cap)
  lh : hb < w.heap.size
  ll : lb < w.heap.size
theorem Box.below {w w' : World} {A : Option Addr} {n cap : Nat} {qs : List Quad} {hb lb : Nat} (h : Box w A n cap qs hb lb) (hw : Below w.heap.size w w') : Box w' A n cap qs hb lb :=
  ⟨h.bk.below hw, (hw.cell (p := ⟨hb, 0, none⟩) h.lh).trans h.fh, (hw.cell (p := ⟨lb, 0, none⟩) h.ll).trans h.fl, Nat.lt_of_lt_of_le h.lh hw.size, Nat.lt_of_lt_of_le h.ll hw.size⟩
set_option maxHeartbeats 1000000 in
theorem ord1_any (A : Option Addr) (n cap : Nat) (qs : List Quad) (hb lb x y : Nat) (w : World) (h : Box w A n cap qs hb lb) (hx : x < n) (hy : y < n) :
    Calls Try.prog 49 #[.int .i64 x, .int .i64 y, .pointer (some ⟨hb, 0, none⟩), .pointer (some ⟨lb, 0, none⟩)] w fun e w' => e = .returned (.int .i64 (cmpI (qs.getD x q0).b (qs.getD y q0).b)) ∧ Below w.heap.size w w' := by
  obtain ⟨nb, no, rfl, hnl, hnc⟩ := h.bk.2 (by omega)
  obtain ⟨x0, x1, x2, x3⟩ := hnc x hx
  obtain ⟨y0, y1, y2, y3⟩ := hnc y hy
  obtain ⟨⟨a1, b1, c1, d1⟩, hq⟩ : ∃ q, qs.getD x q0 = q := ⟨_, rfl⟩
  obtain ⟨⟨a2, b2, c2, d2⟩, hq2⟩ : ∃ q, qs.getD y q0 = q := ⟨_, rfl⟩
  rw [hq] at x0 x1 x2 x3 ⊢
  rw [hq2] at y0 y1 y2 y3 ⊢
  obtain ⟨_, hf, hl, lh, ll⟩ := h
  have i1 : (0 : Int) ≤ (x : Int) := by omega
  have i2 : (x : Int) < (n : Int) := by omega
  have i3 : (0 : Int) ≤ (y : Int) := by omega
  have i4 : (y : Int) < (n : Int) := by omega
  have C0 := fun w => cmp_any b1 b2 w
  have R1 := fun w => from_any a1 b1 c1 d1 w
  have R2 := fun w => from_any a2 b2 c2 d2 w
  obtain ⟨R, hR⟩ : ∃ R, cmpI b1 b2 = R := ⟨_, rfl⟩
  rw [hR] at C0
  show Calls _ _ _ _ fun e w' => e = .returned (.int .i64 (cmpI b1 b2)) ∧ _
  rw [hR]
  clear hR hq hq2 hnc
  go_enter Try.func49, Try.ntmps49
  go_upto_region 1 with fail
  go_region_held3 (fun w' => Below (w.heap.size) (w) w' ∧ ∀ k o, k < w.heap.size → w'.cell? ⟨k, o, none⟩ = World.cell? (w) ⟨k, o, none⟩) (first | assumption | exact kp_start | (refine kp_step ?_ hb ?_; assumption; (first | omega | (simp; done) | (simp; omega))) | (refine kp_drew ?_; assumption) | (refine kp_drew (kp_of hb ?_); (first | omega | (simp; done) | (simp; omega)))) (first
    | (go_at_call 30; (with_reducible refine (R1 _).mono ?_); rintro e w' ⟨rfl, hb⟩)
    | (go_at_call 30; (with_reducible refine (R2 _).mono ?_); rintro e w' ⟨rfl, hb⟩)
    | (go_at_call 50; (with_reducible refine (C0 _).mono ?_); rintro e w' ⟨rfl, rfl⟩))
  all_goals
    go_wp2
    go_ret
    exact ⟨rfl, by (refine kp_end (by assumption) ?_ (by first | omega | (simp; done) | (simp; omega)); (repeat (first | exact Below.refl _ _ | assumption | refine Below.alloc ?_ (by first | omega | (simp; done) | (simp; omega)) _ | refine Below.drew ?_ | refine bdN ?_ _ | refine Below.setCell ?_ (by first | omega | (simp; done) | (simp; omega)) _)))⟩
theorem nI_get {r : List Nat} {n t : Nat} (hl : r.length = n) (h : t < n) : (nI r).getD t 0 = ((r.getD t 0 : Nat) : Int) := nI_at r (by omega)
theorem nI_set (r : List Nat) (k x : Nat) : nI (r.set k x) = (nI r).set k (x : Int) := by unfold nI; rw [List.map_set]; rfl
set_option maxRecDepth 100000 in
set_option maxHeartbeats 4000000 in
theorem insSort_any (A : Option Addr) (n cap c : Nat) (qs : List Quad) (hb lb g : Nat) (W0 w : World) (h : Box W0 A n cap qs hb lb) (hw : Below W0.heap.size W0 w) (hg : W0.heap.size ≤ g) (hR : Rw w g n (nI (List.range n)))
    (hn : n ≤ 9) (hv : bsV qs = true) (hq : qs.length = n) :
    Calls Try.prog 62 #[.slice (some ⟨g, 0, none⟩) n c, .int .i64 0, .int .i64 n, .func (Fn.func 49) #[] #[.pointer (some ⟨hb, 0, none⟩), .pointer (some ⟨lb, 0, none⟩)]] w
      fun e w' => e = .returned (.tuple #[]) ∧ Rw w' g n (nI (ordF qs)) ∧ Below W0.heap.size W0 w' := by
  have HV := Lib.hid hv
  have HQ := Lib.hid hq
  clear hv hq
  go_enter Try.func62, Try.ntmps62
  go_wp2
  go_loopw [8] (fun v wq => ∃ (i : Nat) (r : List Nat), v = .int .i64 i ∧ 1 ≤ i ∧ i ≤ n + 1 ∧ Srt qs n i r ∧ Rw wq g n (nI r) ∧ Below W0.heap.size W0 wq) (fun v _ => n + 1 - (intOf v).toNat)
  case atStart => exact ⟨1, List.range n, rfl, by omega, by omega, Srt.start qs n, hR, hw⟩
  case round =>
    clear hR hw
    obtain ⟨i, r, rfl, hi1, hi2, hS, hR, hw⟩ := hrel
    by_cases hlt : i < n
    · have hI := hS.ins hlt
      clear hS
      go_wp2
      go_loopw [9] (fun v wq => ∃ (j : Nat) (r : List Nat), v = .int .i64 j ∧ Ins qs n i j r ∧ Rw wq g n (nI r) ∧ Below W0.heap.size W0 wq) (fun v _ => (intOf v).toNat)
      case atStart => exact ⟨i, r, rfl, hI, hR, hw⟩
      case round =>
        clear hI hR hw
        obtain ⟨j, r, rfl, hI, hR, hw⟩ := hrel
        have hji := hI.ji
        by_cases hj : 0 < j
        · obtain ⟨p, hp⟩ : ∃ p, p + 1 = j := ⟨j - 1, by omega⟩
          have hlen := hI.len
          have hc1 := hR.cell (k := j) (by omega)
          have hc2 := hR.cell (k := p) (by omega)
          rw [nI_get hlen (by omega)] at hc1 hc2
          rw [hI.here] at hc1
          have hy := hI.lt p (by omega)
          have C0 := fun y hy w h => ord1_any A n cap qs hb lb i y w h hlt hy
          have hgl := hR.lt
          have hsw : Hid ((qs.getD i q0).b < (qs.getD (r.getD p 0) q0).b → Ins qs n i p ((r.set (p + 1) (r.getD p 0)).set p i)) := fun e => (by subst hp; exact hI.swap e)
          have hst : Hid (¬ (qs.getD i q0).b < (qs.getD (r.getD p 0) q0).b → Srt qs n (i + 1) r) := fun e => hI.stop (.inr ⟨p, hp, e⟩)
          have hneg := cmpI_neg (qs.getD i q0).b (qs.getD (r.getD p 0) q0).b
          obtain ⟨y, hyy⟩ : ∃ y, r.getD p 0 = y := ⟨_, rfl⟩
          rw [hyy] at hc2 hy hsw hst hneg
          have C1 := C0 y hy
          obtain ⟨R, hRR⟩ : ∃ R, cmpI (qs.getD i q0).b (qs.getD y q0).b = R := ⟨_, rfl⟩
          rw [hRR] at hneg C1
          have b1 : decide (0 < j) = true := by simpa using hj
          have u1 : IntKind.i64.wrap ((j : Int) - 1) = (p : Int) := by rw [IntWalk.i64_in _ (by omega)]; omega
          have i1 : (0 : Int) ≤ (j : Int) := by omega
          have i2 : (j : Int) < (n : Int) := by omega
          have i3 : (0 : Int) ≤ (p : Int) := by omega
          have i4 : (p : Int) < (n : Int) := by omega
          have HP := Lib.hid hp
          have HBX := h.below hw
          have HX := Lib.hid HBX
          have HR := Lib.hid hR
          have HW := Lib.hid hw
          have HS := Lib.hid hneg
          have HL := Lib.hid hlen
          have hHere := Lib.hid hI.here
          have HYY := Lib.hid hyy
          clear hI hR hw hp C0 hneg hRR hyy hlen HBX
          by_cases hz : R < 0
          · have b2 : decide (R < 0) = true := by simpa using hz
            have HI := Lib.hid (hsw.out (HS.out.1 hz))
            clear hsw hst hz HS
            go_upto_region 4 with fail
            go_region_held3 (fun w' => Below (wr.heap.size) (wr) w' ∧ ∀ k o, k < wr.heap.size → w'.cell? ⟨k, o, none⟩ = World.cell? (wr) ⟨k, o, none⟩) (first | assumption | exact kp_start | (refine kp_step ?_ hb ?_; assumption; (first | omega | (simp; done) | (simp; omega))) | (refine kp_drew ?_; assumption) | (refine kp_drew (kp_of hb ?_); (first | omega | (simp; done) | (simp; omega)))) (first | (go_at_call 49; (with_reducible refine (C1 _ (HX.out.below (by (refine kp_end (by assumption) ?_ (by first | omega | (simp; done) | (simp; omega)); (repeat (first | exact Below.refl _ _ | assumption | refine Below.alloc ?_ (by first | omega | (simp; done) | (simp; omega)) _ | refine Below.drew ?_ | refine bdN ?_ _ | refine Below.setCell ?_ (by first | omega | (simp; done) | (simp; omega)) _)))))).mono ?_); rintro e w' ⟨rfl, hb⟩))
            all_goals
              have hRU := HR.out.below (B := wr.heap.size) (by (refine kp_end (by assumption) ?_ (by first | omega | (simp; done) | (simp; omega)); (repeat (first | exact Below.refl _ _ | assumption | refine Below.alloc ?_ (by first | omega | (simp; done) | (simp; omega)) _ | refine Below.drew ?_ | refine bdN ?_ _ | refine Below.setCell ?_ (by first | omega | (simp; done) | (simp; omega)) _)))) hgl
              have hwU := bt HW.out (by (refine kp_end (by assumption) ?_ (by first | omega | (simp; done) | (simp; omega)); (repeat (first | exact Below.refl _ _ | assumption | refine Below.alloc ?_ (by first | omega | (simp; done) | (simp; omega)) _ | refine Below.drew ?_ | refine bdN ?_ _ | refine Below.setCell ?_ (by first | omega | (simp; done) | (simp; omega)) _))))
              have hR1 := hRU.set j (y : Int)
              have hR2 := hR1.set p (i : Int)
              have hR3 := hRU.set p (i : Int)
              have hR4 := hR3.set j (y : Int)
              have d1 := hRU.cell (k := j) (by omega)
              have d2 := hRU.cell (k := p) (by omega)
              have f1 := hRU.frozen j
              have f2 := hRU.frozen p
              rw [nI_get HL.out (by omega), hHere.out] at d1
              rw [nI_get HL.out (by omega), HYY.out] at d2
              have e1 : Hid (((nI r).set j (y : Int)).set p (i : Int) = nI ((r.set (p + 1) y).set p i)) := by show _ = _; rw [nI_set, nI_set, HP.out]
              have e2 : Hid (((nI r).set p (i : Int)).set j (y : Int) = nI ((r.set (p + 1) y).set p i)) := by show _ = _; rw [nI_set, nI_set, HP.out, List.set_comm _ _ (by have := HP.out; omega)]
              have w1 := hwU.setCell (p := ⟨g, j, none⟩) hg (Value.int .i64 (y : Int))
              have w2 := w1.setCell (p := ⟨g, p, none⟩) hg (Value.int .i64 (i : Int))
              have w3 := hwU.setCell (p := ⟨g, p, none⟩) hg (Value.int .i64 (i : Int))
              have w4 := w3.setCell (p := ⟨g, j, none⟩) hg (Value.int .i64 (y : Int))
              have d3 := hR1.cell (k := p) (by omega)
              have d4 := hR3.cell (k := j) (by omega)
              have e3 : ((nI r).set j (y : Int)).getD p 0 = (y : Int) := by rw [getD_set, if_neg (by have := HP.out; omega), nI_get HL.out (by omega), HYY.out]
              have e4 : ((nI r).set p (i : Int)).getD j 0 = (i : Int) := by rw [getD_set, if_neg (by have := HP.out; omega), nI_get HL.out (by omega), hHere.out]
              rw [e3] at d3
              rw [e4] at d4
              have R2 := Lib.hid hR2
              have R4 := Lib.hid hR4
              have W2 := Lib.hid w2
              have W4 := Lib.hid w4
              clear hR1 hR2 hR3 hR4 hRU hwU e3 e4 w1 w2 w3 w4
              go_upto_region 6 with fail
              go_region
              all_goals
                clear u1
                go_wp2
                go_roundw
                case rel => exact ⟨p, _, by have := HP.out; first | rfl | (congr 1; omega), HI.out, by first | (rw [← e1.out]; exact R2.out.keep rfl) | (rw [← e2.out]; exact R4.out.keep rfl), by first | exact W2.out.drew | exact W4.out.drew⟩
                case measure => simp [intOf]; omega
          · have b2 : decide (R < 0) = false := by simpa using hz
            have HI := Lib.hid (hst.out (fun e => hz (HS.out.2 e)))
            clear hsw hst hz HS
            go_upto_region 4 with fail
            go_region_held3 (fun w' => Below (wr.heap.size) (wr) w' ∧ ∀ k o, k < wr.heap.size → w'.cell? ⟨k, o, none⟩ = World.cell? (wr) ⟨k, o, none⟩) (first | assumption | exact kp_start | (refine kp_step ?_ hb ?_; assumption; (first | omega | (simp; done) | (simp; omega))) | (refine kp_drew ?_; assumption) | (refine kp_drew (kp_of hb ?_); (first | omega | (simp; done) | (simp; omega)))) (first | (go_at_call 49; (with_reducible refine (C1 _ (HX.out.below (by (refine kp_end (by assumption) ?_ (by first | omega | (simp; done) | (simp; omega)); (repeat (first | exact Below.refl _ _ | assumption | refine Below.alloc ?_ (by first | omega | (simp; done) | (simp; omega)) _ | refine Below.drew ?_ | refine bdN ?_ _ | refine Below.setCell ?_ (by first | omega | (simp; done) | (simp; omega)) _)))))).mono ?_); rintro e w' ⟨rfl, hb⟩))
            all_goals
              clear u1
              go_wp2_with fail
              go_roundw
              case rel => exact ⟨i + 1, r, by go_num, by omega, by omega, HI.out, HR.out.below (B := wr.heap.size) (by (refine kp_end (by assumption) ?_ (by first | omega | (simp; done) | (simp; omega)); (repeat (first | exact Below.refl _ _ | assumption | refine Below.alloc ?_ (by first | omega | (simp; done) | (simp; omega)) _ | refine Below.drew ?_ | refine bdN ?_ _ | refine Below.setCell ?_ (by first | omega | (simp; done) | (simp; omega)) _)))) hgl, bt HW.out (by (refine kp_end (by assumption) ?_ (by first | omega | (simp; done) | (simp; omega)); (repeat (first | exact Below.refl _ _ | assumption | refine Below.alloc ?_ (by first | omega | (simp; done) | (simp; omega)) _ | refine Below.drew ?_ | refine bdN ?_ _ | refine Below.setCell ?_ (by first | omega | (simp; done) | (simp; omega)) _))))⟩
              case measure => simp [intOf]; omega
        · obtain rfl : j = 0 := by omega
          have HI := Lib.hid (hI.stop (.inl rfl))
          have b1 : decide ((0 : Int) < (0 : Int)) = false := by simp
          have HR := Lib.hid hR
          have HW := Lib.hid hw
          have hgl := hR.lt
          clear hI hR hw
          go_upto_region 4 with fail
          go_quiet (fail)
          all_goals
            go_wp2_with fail
            go_roundw
            case rel => exact ⟨i + 1, r, by go_num, by omega, by omega, HI.out, HR.out.below (B := wr.heap.size) (by (repeat (first | exact Below.refl _ _ | assumption | refine Below.alloc ?_ (by first | omega | (simp; done) | (simp; omega)) _ | refine Below.drew ?_ | refine bdN ?_ _ | refine Below.setCell ?_ (by first | omega | (simp; done) | (simp; omega)) _))) hgl, bt HW.out (by (repeat (first | exact Below.refl _ _ | assumption | refine Below.alloc ?_ (by first | omega | (simp; done) | (simp; omega)) _ | refine Below.drew ?_ | refine bdN ?_ _ | refine Below.setCell ?_ (by first | omega | (simp; done) | (simp; omega)) _)))⟩
            case measure => simp [intOf]; omega
    · have he := hS.done HV.out HQ.out (by omega)
      rw [he] at hR
      go_wp2
      go_end0
      exact ⟨rfl, hR, hw⟩
set_option maxRecDepth 100000 in
set_option maxHeartbeats 2000000 in
theorem stable_any (A : Option Addr) (n cap c : Nat) (qs : List Quad) (hb lb g : Nat) (W0 w : World) (h : Box W0 A n cap qs hb lb) (hw : Below W0.heap.size W0 w) (hg : W0.heap.size ≤ g) (hR : Rw w g n (nI (List.range n)))
    (hn : n ≤ 9) (hv : bsV qs = true) (hq : qs.length = n) :
    Calls Try.prog 58 #[.slice (some ⟨g, 0, none⟩) n c, .int .i64 n, .func (Fn.func 49) #[] #[.pointer (some ⟨hb, 0, none⟩), .pointer (some ⟨lb, 0, none⟩)]] w
      fun e w' => e = .returned (.tuple #[]) ∧ Rw w' g n (nI (ordF qs)) ∧ Below W0.heap.size W0 w' := by
  have b1 : decide (20 ≤ n) = false := by simp; omega
  have b2 : decide (20 < n) = false := by simp; omega
  have I0 := insSort_any A n cap c qs hb lb g W0 w h hw hg hR hn hv hq
  have HX := Lib.hid hR
  clear hR hw hv hq
  go_enter Try.func58, Try.ntmps58
  go_wp2
  go_loopw [7, 8] (fun a b wq => a = .int .i64 0 ∧ b = .int .i64 20 ∧ w = wq) (fun _ _ _ => 0)
  case atStart => exact ⟨rfl, rfl, rfl⟩
  case round =>
    obtain ⟨rfl, rfl, rfl⟩ := hrel
    go_wp2_with (go_at_call 62; ((with_reducible refine I0.mono ?_); rintro e w2 ⟨rfl, hR, hb⟩; clear I0))
    go_loopw [6] (fun b wq => b = .int .i64 20 ∧ Rw wq g n (nI (ordF qs)) ∧ Below W0.heap.size W0 wq) (fun _ _ => 0)
    case atStart => exact ⟨rfl, hR, hb⟩
    case round =>
      clear hR hb
      obtain ⟨rfl, hR, hb⟩ := hrel
      go_wp2
      go_end0
      exact ⟨rfl, hR, hb⟩
theorem sortStable_any (A : Option Addr) (n cap c : Nat) (qs : List Quad) (hb lb g : Nat) (W0 w : World) (h : Box W0 A n cap qs hb lb) (hw : Below W0.heap.size W0 w) (hg : W0.heap.size ≤ g) (hR : Rw w g n (nI (List.range n)))
    (hn : n ≤ 9) (hv : bsV qs = true) (hq : qs.length = n) :
    Calls Try.prog 48 #[.slice (some ⟨g, 0, none⟩) n c, .func (Fn.func 49) #[] #[.pointer (some ⟨hb, 0, none⟩), .pointer (some ⟨lb, 0, none⟩)]] w
      fun e w' => e = .returned (.tuple #[]) ∧ Rw w' g n (nI (ordF qs)) ∧ Below W0.heap.size W0 w' := by
  have I0 := stable_any A n cap c qs hb lb g W0 w h hw hg hR hn hv hq
  clear hR hw hv hq
  go_enter Try.func48, Try.ntmps48
  go_wp2_with (go_at_call 58; ((with_reducible refine I0.mono ?_); rintro e w2 ⟨rfl, hR, hb⟩; clear I0))
  go_end0
  exact ⟨rfl, hR, hb⟩
theorem range_fill (n k : Nat) (hk : k < n) : ((List.range k).map Int.ofNat ++ List.replicate (n - k) 0).set k (k : Int) = (List.range (k + 1)).map Int.ofNat ++ List.replicate (n - (k + 1)) 0 := by
  obtain ⟨d, rfl⟩ : ∃ d, n = k + 1 + d := ⟨n - (k + 1), by omega⟩
  rw [show k + 1 + d - k = d + 1 by omega, show k + 1 + d - (k + 1) = d by omega, List.replicate_succ, List.range_succ, List.map_append]
  rw [List.set_append_right _ _ (by simp)]
  simp
set_option maxRecDepth 100000 in
set_option maxHeartbeats 2000000 in
theorem bookOrder_any (A : Option Addr) (n cap : Nat) (qs : List Quad) (w : World) (h : Books w A n qs) (hv : bsV qs = true) :
    Calls Try.prog 29 #[.slice A n cap, .func (Fn.func 30) #[] #[]] w
      fun e w' => ∃ g, e = .returned (.slice (some ⟨g, 0, none⟩) n n) ∧ w.heap.size ≤ g ∧ Rw w' g n (nI (ordF qs)) ∧ Below w.heap.size w w' := by
  have hlen := h.1
  have h7 := (bs_from hv).1
  rw [hlen] at h7
  have HV := Lib.hid hv
  have HL := Lib.hid hlen
  have hmf : ∀ (fn : Fn) (first cap : Array Value) (w : World), (Instr.makeFunc fn first cap).run Try.prog w = .ok (.func fn first cap) w := fun _ _ _ _ => rfl
  have hmk := run_make_row' (P := Try.prog) 24 3 (.int .i64 0) 8 Try.underlying24 infoInt rfl .i64 .i64 n (by omega) (by omega)
  clear hv hlen
  go_enter Try.func29, Try.ntmps29
  go_upto_region 1 with fail
  have hBX : Box ((w.alloc (Obj.cells #[Value.slice A n cap] 26)).alloc (Obj.cells #[Value.func (Fn.func 30) #[] #[]] 53)) A n cap qs (w.heap.size + 1) w.heap.size :=
    ⟨h.below (by (repeat (first | exact Below.refl _ _ | assumption | refine Below.alloc ?_ (by first | omega | (simp; done) | (simp; omega)) _ | refine Below.drew ?_ | refine bdN ?_ _ | refine Below.setCell ?_ (by first | omega | (simp; done) | (simp; omega)) _))), by simp, by simp, by simp, by simp; omega⟩
  have hbw : Below w.heap.size w ((w.alloc (Obj.cells #[Value.slice A n cap] 26)).alloc (Obj.cells #[Value.func (Fn.func 30) #[] #[]] 53)) := by (repeat (first | exact Below.refl _ _ | assumption | refine Below.alloc ?_ (by first | omega | (simp; done) | (simp; omega)) _ | refine Below.drew ?_ | refine bdN ?_ _ | refine Below.setCell ?_ (by first | omega | (simp; done) | (simp; omega)) _))
  generalize hW0 : (w.alloc (Obj.cells #[Value.slice A n cap] 26)).alloc (Obj.cells #[Value.func (Fn.func 30) #[] #[]] 53) = W0 at hBX hbw ⊢
  clear hW0
  have hsz := hbw.size
  have hl1 := hBX.fl
  have hB0 : Blk (W0.alloc (.cells (madeCells #[.int .i64 0] n) 3)) W0.heap.size 3 (ints ((List.range 0).map Int.ofNat ++ List.replicate (n - 0) 0)) := by
    rw [show (List.range 0).map Int.ofNat ++ List.replicate (n - 0) (0 : Int) = List.replicate n 0 by simp, ← ints_made]; exact Blk.new _ _ _
  have hb0 : Below W0.heap.size W0 (W0.alloc (.cells (madeCells #[.int .i64 0] n) 3)) := (Below.refl _ _).alloc (Nat.le_refl _) _
  have HBX := Lib.hid hBX
  clear hBX
  obtain ⟨g, hg⟩ : ∃ g, W0.heap.size = g := ⟨_, rfl⟩
  have HG := Lib.hid hg
  clear hg
  go_wp2
  clear hmk hl1
  go_loopw [12] (fun i wr => ∃ k : Nat, k ≤ n ∧ i = .int .i64 k ∧ Blk wr W0.heap.size 3 (ints ((List.range k).map Int.ofNat ++ List.replicate (n - k) 0)) ∧ Below W0.heap.size W0 wr) (fun i _ => n - (intOf i).toNat)
  case atStart => exact ⟨0, by omega, rfl, hB0, hb0⟩
  case round =>
    clear hB0 hb0
    obtain ⟨k, hk, rfl, hB, hb⟩ := hrel
    by_cases hlt : k < n
    · have r0 := hB.int_cell (k := k) (by simp; omega)
      have f0 := hB.frozen k
      have hB2 := hB.int_set k (k : Int)
      rw [range_fill n k hlt] at hB2
      have hb2 : Below W0.heap.size W0 (wr.setCell ⟨W0.heap.size, k, none⟩ (.int .i64 k)) := hb.setCell (Nat.le_refl _) _
      have HB2 := Lib.hid hB2
      have HB3 := Lib.hid hb2
      have i1 : (0 : Int) ≤ (k : Int) := by omega
      have i2 : (k : Int) < (n : Int) := by omega
      clear hB hb hB2 hb2
      go_wp2
      go_roundw
      case rel => exact ⟨k + 1, hlt, by go_num, HB2.out, HB3.out⟩
      case measure => simp [intOf]; omega
    · obtain rfl : k = n := by omega
      rw [Nat.sub_self, List.replicate_zero, List.append_nil] at hB
      have S0 := sortStable_any A k cap k qs (w.heap.size + 1) w.heap.size W0.heap.size W0 wr HBX.out hb (Nat.le_refl _) (Rw.of_blk (zs := nI (List.range k)) hB (by rw [nI_len, List.length_range])) (by omega) HV.out HL.out
      clear hB
      go_wp2_with (go_at_call 48; ((with_reducible refine S0.mono ?_); rintro e w2 ⟨rfl, hR, hb2⟩; clear S0))
      go_ret
      exact ⟨W0.heap.size, rfl, hsz, hR, hbw.trans (hb2.mono hsz)⟩
end Go.Proofs.Ytoiaggjjfahabaa
