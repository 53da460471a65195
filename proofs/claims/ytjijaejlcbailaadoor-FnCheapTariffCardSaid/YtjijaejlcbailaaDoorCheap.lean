/- CheapTariff: what it computes, of the program and of the reference. No condition but the length. -/
import Derived.Test.YtjijaejlcbailaaDoorTQuad
import Derived.Test.YtjijaejlcbailaaDoorFee
namespace Go.Proofs.YtjijaejlcbailaaDoor
open Go.RowKit

def feeQ (q : Quad) (m : Int) : Int := feeV q.a q.b q.c q.d m
def ctTo (qs : List Quad) (m : Int) : Nat → Int
  | 0 => -1
  | k + 1 => if ctTo qs m k < 0 ∨ feeQ (qs.getD k q0) m < feeQ (qs.getD (ctTo qs m k).toNat q0) m then (k : Int) else ctTo qs m k
def ctOk (qs : List Quad) (m : Int) (n : Nat) : Prop := ∀ i, i < n → 0 ≤ feeQ (qs.getD i q0) m
instance (qs : List Quad) (m : Int) (n : Nat) : Decidable (ctOk qs m n) := by unfold ctOk; infer_instance
def ctV (qs : List Quad) (m : Int) : Int := if ctOk qs m qs.length then ctTo qs m qs.length else -1
theorem ctTo_bd (qs : List Quad) (m : Int) (k : Nat) : -1 ≤ ctTo qs m k ∧ ctTo qs m k < k ∧ (0 < k → 0 ≤ ctTo qs m k) := by
  induction k with
  | zero => simp [ctTo]
  | succ k ih => unfold ctTo; split <;> omega
theorem feeQ_bd (q : Quad) (m : Int) : -1 ≤ feeQ q m ∧ feeQ q m ≤ 693 := by
  unfold feeQ feeV
  split
  · rename_i h
    have := fee_bd h.1 h.2.1 h.2.2
    omega
  · omega
theorem ctV_no {qs : List Quad} {m : Int} (i : Nat) (hi : i < qs.length) (h : feeQ (qs.getD i q0) m < 0) : ctV qs m = -1 := by
  unfold ctV; rw [if_neg]; intro g; have := g i hi; omega
theorem if_neg_or {a b : Prop} [Decidable a] [Decidable b] (h : ¬ a) {x y : Int} : (if a ∨ b then x else y) = (if b then x else y) := by
  by_cases hb : b
  · rw [if_pos (.inr hb), if_pos hb]
  · rw [if_neg (fun g => g.elim h hb), if_neg hb]
theorem FeeOf_iq (q : Quad) (m : Int) (w : World) :
    Calls Tryd.prog 28 #[.agg #[.int .i64 q.a, .int .i64 q.b, .int .i64 q.c, .int .i64 q.d], .int .i64 m] w fun e w' => e = .returned (.int .i64 (feeQ q m)) ∧ Below w.heap.size w w' := FeeOf_i q.a q.b q.c q.d m w
theorem FeeOf_sq (q : Quad) (m : Int) (w : World) :
    Calls Tryd.prog 70 #[.agg #[.int .i64 q.a, .int .i64 q.b, .int .i64 q.c, .int .i64 q.d], .int .i64 m] w fun e w' => e = .returned (.int .i64 (feeQ q m)) ∧ Below w.heap.size w w' := FeeOf_s q.a q.b q.c q.d m w
theorem CheapTariff_i (A : Option Addr) (n cap : Nat) (qs : List Quad) (m : Int) (w : World) (h : Books w A n qs) (hn : n ≤ 1048576) :
    Calls Tryd.prog 26 #[.slice A n cap, .int .i64 m] w fun e w' => e = .returned (.int .i64 (ctV qs m)) ∧ Below w.heap.size w w' := by
  go_enter Tryd.func26, Tryd.ntmps26
  go_wp2
  go_loopw [5, 6, 12] (fun v l i wr => ∃ k : Nat, k ≤ n ∧ i = .int .i64 k ∧ v = .int .i64 (ctTo qs m k) ∧ l = .int .i64 (if k = 0 then 0 else feeQ (qs.getD (ctTo qs m k).toNat q0) m) ∧ ctOk qs m k ∧ Below w.heap.size w wr) (fun _ _ i _ => n - (intOf i).toNat)
  case atStart => exact ⟨0, by omega, rfl, rfl, rfl, (fun i hi => absurd hi (by omega)), by (repeat (first | exact Below.refl _ _ | assumption | refine Below.alloc ?_ (by first | omega | (simp; done) | (simp; omega)) _ | refine Below.drew ?_ | refine bdN ?_ _ | refine Below.setCell ?_ (by first | omega | (simp; done) | (simp; omega)) _))⟩
  case round =>
    obtain ⟨k, hk, rfl, rfl, rfl, ho, hb⟩ := hrel
    have bd := ctTo_bd qs m k
    have Ho := Lib.hid ho
    clear ho
    obtain ⟨L, hL⟩ : ∃ L : Int, L = (if k = 0 then 0 else feeQ (qs.getD (ctTo qs m k).toNat q0) m) := ⟨_, rfl⟩
    rw [← hL]
    have HL := Lib.hid hL
    clear hL
    by_cases hlt : k < n
    · obtain ⟨b, off, rfl, hbl, hc⟩ := (h.below hb).2 (by omega)
      obtain ⟨r0, r1, r2, r3⟩ := hc k hlt
      have hsz := hb.size
      have hs := show ctTo qs m (k + 1) = (if ctTo qs m k < 0 ∨ feeQ (qs.getD k q0) m < feeQ (qs.getD (ctTo qs m k).toNat q0) m then (k : Int) else ctTo qs m k) from rfl
      have HS := Lib.hid hs
      generalize hq : qs.getD k q0 = q at r0 r1 r2 r3
      have Hq := Lib.hid hq
      clear hc hs hq
      by_cases hf : feeQ q m < 0
      · have HO : Hid (ctV qs m = -1) := ctV_no k (by rw [h.1]; exact hlt) (by rw [Hq.out]; exact hf)
        go_wp2_with (go_at_call 28; refine (FeeOf_iq q _ _).mono ?_; rintro e w' ⟨rfl, hb'⟩)
        go_ret
        exact ⟨ret_int HO.out.symm, bt (by (repeat (first | exact Below.refl _ _ | assumption | refine Below.alloc ?_ (by first | omega | (simp; done) | (simp; omega)) _ | refine Below.drew ?_ | refine bdN ?_ _ | refine Below.setCell ?_ (by first | omega | (simp; done) | (simp; omega)) _))) hb'⟩
      · have hf0 : 0 ≤ feeQ q m := by omega
        by_cases hB : ctTo qs m k < 0 ∨ feeQ q m < L
        · have HE : Hid (ctTo qs m (k + 1) = k) := by
            show _ = _
            rw [HS.out, if_pos]
            rcases hB with g | g
            · exact .inl g
            · by_cases hk0 : k = 0
              · subst hk0; exact .inl (by simp [ctTo])
              · have e := HL.out; rw [if_neg hk0] at e; rw [Hq.out, ← e]; exact .inr g
          rcases hB with g | g
          all_goals
            clear hf
            go_wp2_with (go_at_call 28; refine (FeeOf_iq q _ _).mono ?_; rintro e w' ⟨rfl, hb'⟩)
            all_goals
              go_roundw
              case rel => exact ⟨k + 1, hlt, by go_num, by rw [HE.out], by rw [HE.out, if_neg (by omega), Int.toNat_natCast, Hq.out], (fun i hi => by rcases Nat.lt_or_ge i k with g | g; exact Ho.out i g; obtain rfl : i = k := (by omega); rw [Hq.out]; exact hf0), bt (by (repeat (first | exact Below.refl _ _ | assumption | refine Below.alloc ?_ (by first | omega | (simp; done) | (simp; omega)) _ | refine Below.drew ?_ | refine bdN ?_ _ | refine Below.setCell ?_ (by first | omega | (simp; done) | (simp; omega)) _))) hb'⟩
              case measure => simp [intOf]; omega
        · have g1 : 0 ≤ ctTo qs m k := by omega
          have g2 : L ≤ feeQ q m := by omega
          have hk0 : ¬ k = 0 := by intro e; subst e; simp [ctTo] at g1
          have HE : Hid (ctTo qs m (k + 1) = ctTo qs m k) := by
            show _ = _
            rw [HS.out, if_neg]
            have e := HL.out
            rw [if_neg hk0] at e
            rw [Hq.out, ← e]
            omega
          clear hf hB
          go_wp2_with (go_at_call 28; refine (FeeOf_iq q _ _).mono ?_; rintro e w' ⟨rfl, hb'⟩)
          go_roundw
          case rel => exact ⟨k + 1, hlt, by go_num, by rw [HE.out], by rw [HE.out, if_neg (by omega), HL.out, if_neg hk0], (fun i hi => by rcases Nat.lt_or_ge i k with g | g; exact Ho.out i g; obtain rfl : i = k := (by omega); rw [Hq.out]; exact hf0), bt (by (repeat (first | exact Below.refl _ _ | assumption | refine Below.alloc ?_ (by first | omega | (simp; done) | (simp; omega)) _ | refine Below.drew ?_ | refine bdN ?_ _ | refine Below.setCell ?_ (by first | omega | (simp; done) | (simp; omega)) _))) hb'⟩
          case measure => simp [intOf]; omega
    · obtain rfl : k = n := by omega
      go_wp2
      go_ret
      exact ⟨ret_int (by unfold ctV; rw [if_pos (by rw [h.1]; exact Ho.out), h.1]), hb⟩
set_option maxHeartbeats 2000000 in
theorem CheapTariff_s (A : Option Addr) (n cap : Nat) (qs : List Quad) (m : Int) (w : World) (h : Books w A n qs) (hn : n ≤ 1048576) :
    Calls Tryd.prog 27 #[.slice A n cap, .int .i64 m] w fun e w' => e = .returned (.int .i64 (ctV qs m)) ∧ Below w.heap.size w w' := by
  go_enter Tryd.func27, Tryd.ntmps27
  go_wp2
  go_loopw [5, 6] (fun v i wr => ∃ k : Nat, k ≤ n ∧ i = .int .i64 k ∧ v = .int .i64 (ctTo qs m k) ∧ ctOk qs m k ∧ Below w.heap.size w wr) (fun _ i _ => n - (intOf i).toNat)
  case atStart => exact ⟨0, by omega, rfl, rfl, (fun i hi => absurd hi (by omega)), by (repeat (first | exact Below.refl _ _ | assumption | refine Below.alloc ?_ (by first | omega | (simp; done) | (simp; omega)) _ | refine Below.drew ?_ | refine bdN ?_ _ | refine Below.setCell ?_ (by first | omega | (simp; done) | (simp; omega)) _))⟩
  case round =>
    obtain ⟨k, hk, rfl, rfl, ho, hb⟩ := hrel
    have bd := ctTo_bd qs m k
    have Ho := Lib.hid ho
    clear ho
    by_cases hlt : k < n
    · have hB := h.below hb
      obtain ⟨b, off, rfl, hbl, hc⟩ := hB.2 (by omega)
      obtain ⟨r0, r1, r2, r3⟩ := hc k hlt
      have hsz := hb.size
      have hs := show ctTo qs m (k + 1) = (if ctTo qs m k < 0 ∨ feeQ (qs.getD k q0) m < feeQ (qs.getD (ctTo qs m k).toNat q0) m then (k : Int) else ctTo qs m k) from rfl
      have HS := Lib.hid hs
      have Hc := Lib.hid hc
      generalize hq : qs.getD k q0 = q at r0 r1 r2 r3
      have Hq := Lib.hid hq
      have i1 : (0 : Int) ≤ (k : Int) := by omega
      have i2 : (k : Int) < (n : Int) := by omega
      clear hc hs hq
      by_cases hf : feeQ q m < 0
      · have HO : Hid (ctV qs m = -1) := ctV_no k (by rw [h.1]; exact hlt) (by rw [Hq.out]; exact hf)
        go_wp2_with fail
        have hf' : feeV q.a q.b q.c q.d m < 0 := hf
        clear hf
        refine (FeeOf_s _ _ _ _ _ _).mono ?_
        rintro e w' ⟨rfl, hb'⟩
        go_wp2_with fail
        go_ret
        exact ⟨ret_int HO.out.symm, bt hb hb'⟩
      · have hf0 : 0 ≤ feeQ q m := by omega
        by_cases hB0 : ctTo qs m k < 0
        · have HE : Hid (ctTo qs m (k + 1) = k) := by show _ = _; rw [HS.out, if_pos (.inl hB0)]
          go_wp2_with fail
          have hf' : 0 ≤ feeV q.a q.b q.c q.d m := hf0
          refine (FeeOf_s _ _ _ _ _ _).mono ?_
          rintro e w1 ⟨rfl, hb1⟩
          go_wp2_with fail
          go_quiet (fail)
          go_wp2_with fail
          go_roundw
          case rel => exact ⟨k + 1, hlt, by go_num, by rw [HE.out], (fun i hi => by rcases Nat.lt_or_ge i k with g | g; exact Ho.out i g; obtain rfl : i = k := (by omega); rw [Hq.out]; exact hf0), by have := bt hb hb1; (repeat (first | exact Below.refl _ _ | assumption | refine Below.alloc ?_ (by first | omega | (simp; done) | (simp; omega)) _ | refine Below.drew ?_ | refine bdN ?_ _ | refine Below.setCell ?_ (by first | omega | (simp; done) | (simp; omega)) _))⟩
          case measure => simp [intOf]; omega
        · obtain ⟨p, hp⟩ : ∃ p : Nat, p = (ctTo qs m k).toNat := ⟨_, rfl⟩
          have hpk : p < n := by omega
          have ep : ctTo qs m k = (p : Int) := by omega
          obtain ⟨s0, s1, s2, s3⟩ := Hc.out p hpk
          have hE := HS.out
          rw [Hq.out, ← hp, ep] at hE
          generalize qs.getD p q0 = x at s0 s1 s2 s3 hE
          have j1 : (0 : Int) ≤ (p : Int) := by omega
          have j2 : (p : Int) < (n : Int) := by omega
          have EP := Lib.hid ep
          rw [ep]
          rw [if_neg_or (by omega : ¬ (p : Int) < 0)] at hE
          clear hp ep hB0 bd
          by_cases hx : feeQ q m < feeQ x m
          · have HE : Hid (ctTo qs m (k + 1) = k) := by show _ = _; rw [hE, if_pos hx]
            have hx' : feeV q.a q.b q.c q.d m < feeV x.a x.b x.c x.d m := hx
            have hf' : 0 ≤ feeV q.a q.b q.c q.d m := hf0
            have HF := Lib.hid hf0
            clear hE hx hf hf0
            go_wp2_with fail
            refine (FeeOf_s _ _ _ _ _ _).mono ?_
            rintro e w1 ⟨rfl, hb1⟩
            have hk := kp_of (B := wr.heap.size) hb1 (Nat.le_refl _)
            go_wp2_with fail
            go_region_held3 (fun w' => Below (wr.heap.size) (wr) w' ∧ ∀ k o, k < wr.heap.size → w'.cell? ⟨k, o, none⟩ = World.cell? (wr) ⟨k, o, none⟩) (first | assumption | exact kp_start | (refine kp_step ?_ hb ?_; assumption; (first | omega | (simp; done) | (simp; omega))) | (refine kp_drew ?_; assumption) | (refine kp_drew (kp_of hb ?_); (first | omega | (simp; done) | (simp; omega)))) (first | (go_at_call 70; refine (FeeOf_s _ _ _ _ _ _).mono ?_; rintro e w' ⟨rfl, hb⟩))
            go_wp2_with fail
            go_roundw
            case rel => exact ⟨k + 1, hlt, by go_num, by rw [HE.out], (fun i hi => by rcases Nat.lt_or_ge i k with g | g; exact Ho.out i g; obtain rfl : i = k := (by omega); rw [Hq.out]; exact HF.out), by (refine kp_end (by assumption) ?_ (by first | omega | (simp; done) | (simp; omega)); (repeat (first | exact Below.refl _ _ | assumption | refine Below.alloc ?_ (by first | omega | (simp; done) | (simp; omega)) _ | refine Below.drew ?_ | refine bdN ?_ _ | refine Below.setCell ?_ (by first | omega | (simp; done) | (simp; omega)) _)))⟩
            case measure => simp [intOf]; omega
          · have HE : Hid (ctTo qs m (k + 1) = p) := by show _ = _; rw [hE, if_neg hx]
            have hx' : ¬ feeV q.a q.b q.c q.d m < feeV x.a x.b x.c x.d m := hx
            have hf' : 0 ≤ feeV q.a q.b q.c q.d m := hf0
            have HF := Lib.hid hf0
            clear hE hx hf hf0
            go_wp2_with fail
            refine (FeeOf_s _ _ _ _ _ _).mono ?_
            rintro e w1 ⟨rfl, hb1⟩
            have hk := kp_of (B := wr.heap.size) hb1 (Nat.le_refl _)
            go_wp2_with fail
            go_region_held3 (fun w' => Below (wr.heap.size) (wr) w' ∧ ∀ k o, k < wr.heap.size → w'.cell? ⟨k, o, none⟩ = World.cell? (wr) ⟨k, o, none⟩) (first | assumption | exact kp_start | (refine kp_step ?_ hb ?_; assumption; (first | omega | (simp; done) | (simp; omega))) | (refine kp_drew ?_; assumption) | (refine kp_drew (kp_of hb ?_); (first | omega | (simp; done) | (simp; omega)))) (first | (go_at_call 70; refine (FeeOf_s _ _ _ _ _ _).mono ?_; rintro e w' ⟨rfl, hb⟩))
            go_wp2_with fail
            go_roundw
            case rel => exact ⟨k + 1, hlt, by go_num, by rw [HE.out], (fun i hi => by rcases Nat.lt_or_ge i k with g | g; exact Ho.out i g; obtain rfl : i = k := (by omega); rw [Hq.out]; exact HF.out), by (refine kp_end (by assumption) ?_ (by first | omega | (simp; done) | (simp; omega)); (repeat (first | exact Below.refl _ _ | assumption | refine Below.alloc ?_ (by first | omega | (simp; done) | (simp; omega)) _ | refine Below.drew ?_ | refine bdN ?_ _ | refine Below.setCell ?_ (by first | omega | (simp; done) | (simp; omega)) _)))⟩
            case measure => simp [intOf]; omega
    · obtain rfl : k = n := by omega
      go_wp2
      go_ret
      exact ⟨ret_int (by unfold ctV; rw [if_pos (by rw [h.1]; exact Ho.out), h.1]), hb⟩
end Go.Proofs.YtjijaejlcbailaaDoor
