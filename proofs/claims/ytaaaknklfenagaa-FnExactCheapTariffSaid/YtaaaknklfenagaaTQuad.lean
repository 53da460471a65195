/- Slices of tariffs: what toTariffS, eqTariffS, szTariffS compute. No condition but the length that make bears. -/
import Derived.Test.YtaaaknklfenagaaQuad
namespace Go.Proofs.Ytaaaknklfenagaa
open Go.RowKit Go.ChangeShapes Go.WideShapes Go.Deep

theorem infoTariff : (Try.prog.info? 27).map (fun i => (i.zero, i.size, i.bytes)) = some (some (.agg #[.int .i64 0, .int .i64 0, .int .i64 0, .int .i64 0]), 4, 32) := by kernel_rfl
theorem make_tariff (n : Nat) (hn : n ≤ 1048576) (w : World) : (Instr.makeSlice 53 (.int .i64 (n : Int)) (.int .i64 (n : Int))).run Try.prog w = .ok (.slice (some ⟨w.heap.size, 0, none⟩) n n) (w.alloc (.cells (bks (List.replicate n q0)) 27)) := by
  obtain ⟨i, hi, hzz⟩ := Option.map_eq_some_iff.1 infoTariff
  simp only [Prod.mk.injEq] at hzz
  obtain ⟨hz, hs, hb⟩ := hzz
  have hr := run_make (P := Try.prog) w 53 27 i _ Try.underlying53 hi hz .i64 .i64 n n (by omega) (Int.le_refl _) (by rw [hb]; omega) (by omega)
  simp only [Int.toNat_natCast, hs] at hr
  rw [← bks_made]
  exact hr
theorem toTariffS_any (A : Option Addr) (n cap : Nat) (zs : List Quad) (w : World) (h : Books w A n zs) (hn : n ≤ 1048576) :
    Calls Try.prog 34 #[.slice A n cap] w (MadeQ w n zs 27) := by
  have hmk := make_tariff n hn
  go_enter Try.func34, Try.ntmps34
  go_wp2
  have hB0 := Blk.new w 27 (bks (List.replicate n q0))
  go_loopw [4] (fun i wr => ∃ k : Nat, k ≤ n ∧ i = .int .i64 k ∧ Blk wr w.heap.size 27 (bks (zs.take k ++ List.replicate (n - k) q0)) ∧ Below w.heap.size w wr) (fun i _ => n - (intOf i).toNat)
  case atStart => exact ⟨0, by omega, rfl, hB0, by (repeat (first | exact Below.refl _ _ | assumption | refine Below.alloc ?_ (by first | omega | (simp; done) | (simp; omega)) _ | refine Below.drew ?_ | refine bdN ?_ _ | refine Below.setCell ?_ (by first | omega | (simp; done) | (simp; omega)) _))⟩
  case round =>
    obtain ⟨k, hk, rfl, hB, hb⟩ := hrel
    clear hmk hB0
    by_cases hlt : k < n
    · obtain ⟨b, off, rfl, hbl, hc⟩ := h.2 (by omega)
      obtain ⟨r0, r1, r2, r3⟩ := hc k hlt
      have i1 : (0 : Int) ≤ (k : Int) := by omega
      have i2 : (k : Int) < (n : Int) := by omega
      have c0 : wr.cell? ⟨b, off + k * 4, none⟩ = _ := (hb.cell (p := ⟨b, off + k * 4, none⟩) hbl).trans r0
      have c1 : wr.cell? ⟨b, off + k * 4 + 1, none⟩ = _ := (hb.cell (p := ⟨b, off + k * 4 + 1, none⟩) hbl).trans r1
      have c2 : wr.cell? ⟨b, off + k * 4 + 2, none⟩ = _ := (hb.cell (p := ⟨b, off + k * 4 + 2, none⟩) hbl).trans r2
      have c3 : wr.cell? ⟨b, off + k * 4 + 3, none⟩ = _ := (hb.cell (p := ⟨b, off + k * 4 + 3, none⟩) hbl).trans r3
      clear hc r0 r1 r2 r3
      generalize hq : zs.getD k q0 = q at *
      have Hq := Lib.hid hq
      clear hq
      go_wp2_with fail
      refine (toTariff_any _ _ _ _ _).mono ?_
      rintro e w' ⟨rfl, hb'⟩
      have hB2 := hB.below hb' hB.lt
      have hb2 := bt hb hb'
      obtain ⟨s0, s1, s2, s3⟩ := hB2.bk_cells (k := k) (by simp [h.1]; omega)
      have f0 := hB2.frozen (k * 4)
      have f1 := hB2.frozen (k * 4 + 1)
      have f2 := hB2.frozen (k * 4 + 2)
      have f3 := hB2.frozen (k * 4 + 3)
      clear hB hb hb' c0 c1 c2 c3
      go_wp2
      go_roundw
      case rel => exact ⟨k + 1, hlt, by go_num, by rw [← fillq_set zs n k q h.1 hlt Hq.out.symm]; exact hB2.bk_set k _ _ _ _, by (repeat (first | exact Below.refl _ _ | assumption | refine Below.alloc ?_ (by first | omega | (simp; done) | (simp; omega)) _ | refine Below.drew ?_ | refine bdN ?_ _ | refine Below.setCell ?_ (by first | omega | (simp; done) | (simp; omega)) _))⟩
      case measure => simp [intOf]; omega
    · obtain rfl : k = n := by omega
      go_wp2
      go_ret
      have hB' : Blk wr w.heap.size 27 (bks zs) := by simpa [h.1, List.take_of_length_le] using hB
      exact ⟨_, rfl, Nat.le_refl _, Books.of_blk hB' h.1, hB', hb⟩

theorem eqTariff_any (a b c d a' b' c' d' : Int) (w : World) :
    Calls Try.prog 62 #[.agg #[.int .i64 a, .int .i64 b, .int .i64 c, .int .i64 d], .agg #[.int .i64 a', .int .i64 b', .int .i64 c', .int .i64 d']] w fun e w' => e = .returned (.bool (decide ((⟨a, b, c, d⟩ : Quad) = ⟨a', b', c', d'⟩))) ∧ Below w.heap.size w w' := by
  have e0 : decide ((⟨a, b, c, d⟩ : Quad) = ⟨a', b', c', d'⟩) = decide (a = a' ∧ b = b' ∧ c = c' ∧ d = d') := by simp
  rw [e0]
  clear e0
  go_enter Try.func62, Try.ntmps62
  go_wp2
  all_goals
    go_ret
    exact ⟨ret_bool (by simp_all), by (repeat (first | exact Below.refl _ _ | assumption | refine Below.alloc ?_ (by first | omega | (simp; done) | (simp; omega)) _ | refine Below.drew ?_ | refine bdN ?_ _ | refine Below.setCell ?_ (by first | omega | (simp; done) | (simp; omega)) _))⟩
theorem eqTariff_yes (x y : Quad) (h : x = y) (w : World) :
    Calls Try.prog 62 #[.agg #[.int .i64 x.a, .int .i64 x.b, .int .i64 x.c, .int .i64 x.d], .agg #[.int .i64 y.a, .int .i64 y.b, .int .i64 y.c, .int .i64 y.d]] w fun e w' => e = .returned (.bool true) ∧ Below w.heap.size w w' :=
  (eqTariff_any x.a x.b x.c x.d y.a y.b y.c y.d w).mono fun _ _ ⟨e, b⟩ => ⟨by rw [e, decide_eq_true]; exact h, b⟩
theorem eqTariff_no (x y : Quad) (h : ¬ x = y) (w : World) :
    Calls Try.prog 62 #[.agg #[.int .i64 x.a, .int .i64 x.b, .int .i64 x.c, .int .i64 x.d], .agg #[.int .i64 y.a, .int .i64 y.b, .int .i64 y.c, .int .i64 y.d]] w fun e w' => e = .returned (.bool false) ∧ Below w.heap.size w w' :=
  (eqTariff_any x.a x.b x.c x.d y.a y.b y.c y.d w).mono fun _ _ ⟨e, b⟩ => ⟨by rw [e, decide_eq_false]; exact h, b⟩
set_option maxHeartbeats 1000000 in
theorem eqTariffS_any (A B : Option Addr) (n m c1 c2 : Nat) (xs ys : List Quad) (w : World) (h1 : Books w A n xs) (h2 : Books w B m ys) (b1 : n ≤ 9223372036854775807) :
    Calls Try.prog 36 #[.slice A n c1, .slice B m c2] w fun e w' => e = .returned (.bool (eqQ xs ys)) ∧ Below w.heap.size w w' := by
  by_cases hnm : n = m
  · subst hnm
    go_enter Try.func36, Try.ntmps36
    go_wp2
    go_loopw [5] (fun i wr => ∃ k : Nat, k ≤ n ∧ i = .int .i64 k ∧ xs.take k = ys.take k ∧ Below w.heap.size w wr) (fun i _ => n - (intOf i).toNat)
    case atStart => exact ⟨0, by omega, rfl, rfl, by (repeat (first | exact Below.refl _ _ | assumption | refine Below.alloc ?_ (by first | omega | (simp; done) | (simp; omega)) _ | refine Below.drew ?_ | refine bdN ?_ _ | refine Below.setCell ?_ (by first | omega | (simp; done) | (simp; omega)) _))⟩
    case round =>
      obtain ⟨k, hk, rfl, he, hb⟩ := hrel
      have He := Lib.hid he
      clear he
      by_cases hlt : k < n
      · obtain ⟨b, off, rfl, hbl, hc⟩ := (h1.below hb).2 (by omega)
        obtain ⟨b', off', rfl, hbl', hc'⟩ := (h2.below hb).2 (by omega)
        obtain ⟨r0, r1, r2, r3⟩ := hc k hlt
        obtain ⟨s0, s1, s2, s3⟩ := hc' k hlt
        have i1 : (0 : Int) ≤ (k : Int) := by omega
        have i2 : (k : Int) < (n : Int) := by omega
        clear hc hc'
        generalize hx : xs.getD k q0 = x at *
        generalize hy : ys.getD k q0 = y at *
        have Hx := Lib.hid hx
        have Hy := Lib.hid hy
        clear hx hy
        have hsz := hb.size
        by_cases hxy : x = y
        all_goals
          have Hxy := Lib.hid hxy
          clear hxy
          go_wp2
          go_region_held3 (fun w' => Below (wr.heap.size) (wr) w' ∧ ∀ k o, k < wr.heap.size → w'.cell? ⟨k, o, none⟩ = World.cell? (wr) ⟨k, o, none⟩) (first | assumption | exact kp_start | (refine kp_step ?_ hb ?_; assumption; (first | omega | (simp; done) | (simp; omega))) | (refine kp_drew ?_; assumption) | (refine kp_drew (kp_of hb ?_); (first | omega | (simp; done) | (simp; omega)))) (first | (go_at_call 62; (first | refine (eqTariff_yes x y Hxy.out _).mono ?_ | refine (eqTariff_no x y Hxy.out _).mono ?_); rintro e w' ⟨rfl, hb⟩))
          first
          | go_wp2
            go_roundw
            case rel => exact ⟨k + 1, hlt, by go_num, takeq_succ_eq He.out (by rw [Hx.out, Hy.out]; exact Hxy.out) (by rw [h1.1]; exact hlt) (by rw [h2.1]; exact hlt), by (refine kp_end (by assumption) ?_ (by first | omega | (simp; done) | (simp; omega)); (repeat (first | exact Below.refl _ _ | assumption | refine Below.alloc ?_ (by first | omega | (simp; done) | (simp; omega)) _ | refine Below.drew ?_ | refine bdN ?_ _ | refine Below.setCell ?_ (by first | omega | (simp; done) | (simp; omega)) _)))⟩
            case measure => simp [intOf]; omega
          | go_wp2
            go_ret
            exact ⟨ret_bool (by symm; unfold eqQ; rw [decide_eq_false_iff_not]; intro e; exact Hxy.out (by rw [← Hx.out, ← Hy.out, e])), by (refine kp_end (by assumption) ?_ (by first | omega | (simp; done) | (simp; omega)); (repeat (first | exact Below.refl _ _ | assumption | refine Below.alloc ?_ (by first | omega | (simp; done) | (simp; omega)) _ | refine Below.drew ?_ | refine bdN ?_ _ | refine Below.setCell ?_ (by first | omega | (simp; done) | (simp; omega)) _)))⟩
      · obtain rfl : k = n := by omega
        go_wp2
        go_ret
        refine ⟨ret_bool ?_, by (repeat (first | exact Below.refl _ _ | assumption | refine Below.alloc ?_ (by first | omega | (simp; done) | (simp; omega)) _ | refine Below.drew ?_ | refine bdN ?_ _ | refine Below.setCell ?_ (by first | omega | (simp; done) | (simp; omega)) _))⟩
        have e1 := He.out
        rw [List.take_of_length_le (by rw [h1.1]; exact Nat.le_refl _), List.take_of_length_le (by rw [h2.1]; exact Nat.le_refl _)] at e1
        simp [eqQ, e1]
  · have hx : ((n : Int) != (m : Int)) = true := by simp; omega
    have hxs : eqQ xs ys = false := by
      unfold eqQ
      rw [decide_eq_false_iff_not]
      intro e
      have a1 := h1.1
      have a2 := h2.1
      rw [e] at a1
      omega
    go_enter Try.func36, Try.ntmps36
    go_wp2
    go_ret
    exact ⟨ret_bool hxs.symm, by (repeat (first | exact Below.refl _ _ | assumption | refine Below.alloc ?_ (by first | omega | (simp; done) | (simp; omega)) _ | refine Below.drew ?_ | refine bdN ?_ _ | refine Below.setCell ?_ (by first | omega | (simp; done) | (simp; omega)) _))⟩
theorem szTariffS_any (A : Option Addr) (n cap : Nat) (m : Int) (w : World) (hn : n ≤ 9223372036854775807) (hm : 0 ≤ m ∧ m ≤ 1048576) (hl : (n : Int) ≤ m) :
    Calls Try.prog 32 #[.slice A n cap, .int .i64 m] w fun e w' => e = .returned (.int .i64 (m - n)) ∧ w = w' := by
  go_enter Try.func32, Try.ntmps32
  go_wp2
  go_ret
  exact ⟨rfl, rfl⟩
theorem szTariffS_big (A : Option Addr) (n cap : Nat) (m : Int) (w : World) (hn : n ≤ 9223372036854775807) (hm : 0 ≤ m ∧ m ≤ 1048576) (hl : m < (n : Int)) :
    Calls Try.prog 32 #[.slice A n cap, .int .i64 m] w fun e w' => e = .returned (.int .i64 (-1)) ∧ w = w' := by
  go_enter Try.func32, Try.ntmps32
  go_wp2
  go_ret
  exact ⟨rfl, rfl⟩
end Go.Proofs.Ytaaaknklfenagaa
