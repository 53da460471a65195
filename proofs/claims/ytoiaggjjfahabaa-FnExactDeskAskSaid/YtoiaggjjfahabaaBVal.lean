/- BooksValid: what it computes, of the program and of the reference. No condition but the length. -/
import Derived.Test.YtoiaggjjfahabaaQuad
namespace Go.Proofs.Ytoiaggjjfahabaa
open Go.RowKit

/-- the index of the first of the first n bookings with an id, or -1 -/
def fnd (qs : List Quad) (id : Int) : Nat → Int
  | 0 => -1
  | n + 1 => if 0 ≤ fnd qs id n then fnd qs id n else if (qs.getD n q0).a = id then (n : Int) else -1
theorem fnd_bd (qs : List Quad) (id : Int) (n : Nat) : -1 ≤ fnd qs id n ∧ fnd qs id n < n := by
  induction n with
  | zero => simp [fnd]
  | succ n ih => unfold fnd; split <;> (try split) <;> omega
theorem fnd_more (qs : List Quad) (id : Int) (k d : Nat) (h : 0 ≤ fnd qs id k) : fnd qs id (k + d) = fnd qs id k := by
  induction d with
  | zero => rfl
  | succ d ih =>
    rw [← Nat.add_assoc]
    conv => lhs; unfold fnd
    rw [ih, if_pos h]
theorem fnd_hit (qs : List Quad) (id : Int) (k n : Nat) (hk : k < n) (h : fnd qs id k = -1) (hq : (qs.getD k q0).a = id) : fnd qs id n = k := by
  have e : fnd qs id (k + 1) = k := by unfold fnd; rw [if_neg (by omega), if_pos hq]
  rw [show n = (k + 1) + (n - (k + 1)) by omega, fnd_more _ _ _ _ (by rw [e]; omega), e]
theorem fnd_miss (qs : List Quad) (id : Int) (k : Nat) (h : fnd qs id k = -1) (hq : ¬ (qs.getD k q0).a = id) : fnd qs id (k + 1) = -1 := by
  unfold fnd; rw [if_neg (by omega), if_neg hq]
theorem l6Find_any (A : Option Addr) (n cap : Nat) (qs : List Quad) (id : Int) (w : World) (h : Books w A n qs) (hn : n ≤ 9223372036854775807) :
    Calls Try.prog 37 #[.slice A n cap, .int .i64 id] w fun e w' => e = .returned (.int .i64 (fnd qs id n)) ∧ Below w.heap.size w w' := by
  go_enter Try.func37, Try.ntmps37
  go_wp2
  go_loopw [5] (fun i wr => ∃ k : Nat, k ≤ n ∧ i = .int .i64 k ∧ fnd qs id k = -1 ∧ Below w.heap.size w wr) (fun i _ => n - (intOf i).toNat)
  case atStart => exact ⟨0, by omega, rfl, rfl, by (repeat (first | exact Below.refl _ _ | assumption | refine Below.alloc ?_ (by first | omega | (simp; done) | (simp; omega)) _ | refine Below.drew ?_ | refine bdN ?_ _ | refine Below.setCell ?_ (by first | omega | (simp; done) | (simp; omega)) _))⟩
  case round =>
    obtain ⟨k, hk, rfl, hf, hb⟩ := hrel
    have Hf := Lib.hid hf
    clear hf
    by_cases hlt : k < n
    · obtain ⟨b, off, rfl, hbl, hc⟩ := (h.below hb).2 (by omega)
      obtain ⟨r0, r1, r2, r3⟩ := hc k hlt
      clear hc r1 r2 r3
      by_cases hq : (qs.getD k q0).a = id
      · have HQ := Lib.hid hq
        have hqb : ((qs.getD k q0).a == id) = true := by simpa using hq
        generalize hqe : qs.getD k q0 = q at *
        have HE := Lib.hid hqe
        clear hq hqe
        go_wp2
        go_ret
        exact ⟨ret_int (by rw [fnd_hit qs id k n hlt Hf.out (by rw [HE.out]; exact HQ.out)]), hb⟩
      · have HQ := Lib.hid hq
        have hqb : ((qs.getD k q0).a == id) = false := by simpa using hq
        generalize hqe : qs.getD k q0 = q at *
        have HE := Lib.hid hqe
        clear hq hqe
        go_wp2
        go_roundw
        case rel => exact ⟨k + 1, hlt, by go_num, fnd_miss qs id k Hf.out (by rw [HE.out]; exact HQ.out), hb⟩
        case measure => simp [intOf]; omega
    · obtain rfl : k = n := by omega
      go_wp2
      go_ret
      exact ⟨ret_int Hf.out.symm, hb⟩
theorem idx1_any (a b c d id : Int) (pb po : Nat) (w : World) (hp : w.cell? ⟨pb, po, none⟩ = some (.int .i64 id)) (hl : pb < w.heap.size) :
    Calls Try.prog 54 #[.agg #[.int .i64 a, .int .i64 b, .int .i64 c, .int .i64 d], .pointer (some ⟨pb, po, none⟩)] w fun e w' => e = .returned (.bool (a == id)) ∧ Below w.heap.size w w' := by
  have hne : pb ≠ w.heap.size := by omega
  go_enter Try.func54, Try.ntmps54
  go_wp2
  go_ret
  exact ⟨rfl, by (repeat (first | exact Below.refl _ _ | assumption | refine Below.alloc ?_ (by first | omega | (simp; done) | (simp; omega)) _ | refine Below.drew ?_ | refine bdN ?_ _ | refine Below.setCell ?_ (by first | omega | (simp; done) | (simp; omega)) _))⟩
theorem IndexFunc_any (A : Option Addr) (n cap : Nat) (qs : List Quad) (id : Int) (pb po : Nat) (w : World) (h : Books w A n qs) (hn : n ≤ 9223372036854775807) (hp : w.cell? ⟨pb, po, none⟩ = some (.int .i64 id)) (hl : pb < w.heap.size) :
    Calls Try.prog 53 #[.slice A n cap, .func (Fn.func 54) #[] #[.pointer (some ⟨pb, po, none⟩)]] w fun e w' => e = .returned (.int .i64 (fnd qs id n)) ∧ Below w.heap.size w w' := by
  go_enter Try.func53, Try.ntmps53
  go_wp2
  go_loopw [8] (fun i wr => ∃ k : Nat, k ≤ n ∧ i = .int .i64 k ∧ fnd qs id k = -1 ∧ Below w.heap.size w wr) (fun i _ => n - (intOf i).toNat)
  case atStart => exact ⟨0, by omega, rfl, rfl, by (repeat (first | exact Below.refl _ _ | assumption | refine Below.alloc ?_ (by first | omega | (simp; done) | (simp; omega)) _ | refine Below.drew ?_ | refine bdN ?_ _ | refine Below.setCell ?_ (by first | omega | (simp; done) | (simp; omega)) _))⟩
  case round =>
    obtain ⟨k, hk, rfl, hf, hb⟩ := hrel
    have Hf := Lib.hid hf
    clear hf
    by_cases hlt : k < n
    · obtain ⟨b, off, rfl, hbl, hc⟩ := (h.below hb).2 (by omega)
      obtain ⟨r0, r1, r2, r3⟩ := hc k hlt
      have hp' : wr.cell? ⟨pb, po, none⟩ = some (.int .i64 id) := (hb.cell (p := ⟨pb, po, none⟩) hl).trans hp
      have hl' : pb < wr.heap.size := Nat.lt_of_lt_of_le hl hb.size
      clear hc hp
      generalize hqe : qs.getD k q0 = q at *
      have HE := Lib.hid hqe
      clear hqe
      by_cases hq : q.a = id
      · have hqb : (q.a == id) = true := by simpa using hq
        have HQ := Lib.hid hq
        clear hq
        go_wp2_with (go_at_call 54; refine (idx1_any _ _ _ _ id pb po _ hp' hl').mono ?_; rintro e w' ⟨rfl, hb'⟩)
        go_ret
        exact ⟨ret_int (by rw [fnd_hit qs id k n hlt Hf.out (by rw [HE.out]; exact HQ.out)]), bt hb hb'⟩
      · have hqb : (q.a == id) = false := by simpa using hq
        have HQ := Lib.hid hq
        clear hq
        go_wp2_with (go_at_call 54; refine (idx1_any _ _ _ _ id pb po _ hp' hl').mono ?_; rintro e w' ⟨rfl, hb'⟩)
        go_roundw
        case rel => exact ⟨k + 1, hlt, by go_num, fnd_miss qs id k Hf.out (by rw [HE.out]; exact HQ.out), bt hb hb'⟩
        case measure => simp [intOf]; omega
    · obtain rfl : k = n := by omega
      go_wp2
      go_ret
      exact ⟨ret_int Hf.out.symm, hb⟩
theorem bookIndex_any (A : Option Addr) (n cap : Nat) (qs : List Quad) (id : Int) (w : World) (h : Books w A n qs) (hn : n ≤ 9223372036854775807) :
    Calls Try.prog 41 #[.slice A n cap, .int .i64 id] w fun e w' => e = .returned (.int .i64 (fnd qs id n)) ∧ Below w.heap.size w w' := by
  have hmf : ∀ (fn : Fn) (first cap : Array Value) (w : World), (Instr.makeFunc fn first cap).run Try.prog w = .ok (.func fn first cap) w := fun _ _ _ _ => rfl
  go_enter Try.func41, Try.ntmps41
  have h' : Books (w.alloc (.cells #[.int .i64 id] 3)) A n qs := h.below (by (repeat (first | exact Below.refl _ _ | assumption | refine Below.alloc ?_ (by first | omega | (simp; done) | (simp; omega)) _ | refine Below.drew ?_ | refine bdN ?_ _ | refine Below.setCell ?_ (by first | omega | (simp; done) | (simp; omega)) _)))
  go_wp2_with (go_at_call 53; refine (IndexFunc_any _ _ _ qs id w.heap.size 0 _ h' hn (by simp [go_sem]) (by simp)).mono ?_; rintro e w' ⟨rfl, hb⟩)
  go_ret
  exact ⟨rfl, bt (by (repeat (first | exact Below.refl _ _ | assumption | refine Below.alloc ?_ (by first | omega | (simp; done) | (simp; omega)) _ | refine Below.drew ?_ | refine bdN ?_ _ | refine Below.setCell ?_ (by first | omega | (simp; done) | (simp; omega)) _))) hb⟩

def bOk (qs : List Quad) (i : Nat) : Prop := bv (qs.getD i q0).a (qs.getD i q0).b (qs.getD i q0).c (qs.getD i q0).d = true ∧ fnd qs (qs.getD i q0).a i = -1
instance (qs : List Quad) (i : Nat) : Decidable (bOk qs i) := by unfold bOk; infer_instance
def bsV (qs : List Quad) : Bool := decide (qs.length ≤ 7 ∧ ∀ i, i < qs.length → bOk qs i)
theorem Books.pre {w : World} {A : Option Addr} {n k : Nat} {qs : List Quad} (h : Books w A n qs) (hk : k ≤ n) : Books w A k (qs.take k) := by
  refine ⟨by simp [h.1]; omega, fun hk0 => ?_⟩
  obtain ⟨b, off, e, hl, hc⟩ := h.2 (by omega)
  refine ⟨b, off, e, hl, fun j hj => ?_⟩
  have e1 : (qs.take k).getD j q0 = qs.getD j q0 := by simp [List.getD_eq_getElem?_getD, hj]
  rw [e1]
  exact hc j (by omega)
theorem fnd_take (qs : List Quad) (id : Int) (k m : Nat) (hm : m ≤ k) : fnd (qs.take k) id m = fnd qs id m := by
  induction m with
  | zero => rfl
  | succ m ih =>
    have e1 : (qs.take k).getD m q0 = qs.getD m q0 := by simp [List.getD_eq_getElem?_getD, show m < k by omega]
    unfold fnd
    rw [ih (by omega), e1]
theorem bookIndex_pre (A : Option Addr) (n k cap : Nat) (qs : List Quad) (id : Int) (w : World) (h : Books w A n qs) (hk : k ≤ n) (hn : n ≤ 9223372036854775807) :
    Calls Try.prog 41 #[.slice A k cap, .int .i64 id] w fun e w' => e = .returned (.int .i64 (fnd qs id k)) ∧ Below w.heap.size w w' :=
  (bookIndex_any A k cap (qs.take k) id w (h.pre hk) (by omega)).mono fun _ _ ⟨e, b⟩ => ⟨by rw [e, fnd_take qs id k k (Nat.le_refl _)], b⟩
theorem bsV_no {qs : List Quad} (i : Nat) (hi : i < qs.length) (h : ¬ bOk qs i) : bsV qs = false := by
  unfold bsV; rw [decide_eq_false_iff_not]; rintro ⟨_, g⟩; exact h (g i hi)
set_option maxHeartbeats 1000000 in
theorem BooksValid_s (A : Option Addr) (n cap : Nat) (qs : List Quad) (w : World) (h : Books w A n qs) (hn : n ≤ 1048576) :
    Calls Try.prog 25 #[.slice A n cap] w fun e w' => e = .returned (.bool (bsV qs)) ∧ Below w.heap.size w w' := by
  go_enter Try.func25, Try.ntmps25
  go_wp2
  go_loopw [3] (fun i wr => ∃ k : Nat, k ≤ n ∧ i = .int .i64 k ∧ (∀ i, i < k → bOk qs i) ∧ Below w.heap.size w wr) (fun i _ => n - (intOf i).toNat)
  case atStart => exact ⟨0, by omega, rfl, (fun i hi => absurd hi (by omega)), by (repeat (first | exact Below.refl _ _ | assumption | refine Below.alloc ?_ (by first | omega | (simp; done) | (simp; omega)) _ | refine Below.drew ?_ | refine bdN ?_ _ | refine Below.setCell ?_ (by first | omega | (simp; done) | (simp; omega)) _))⟩
  case round =>
    obtain ⟨k, hk, rfl, ho, hb⟩ := hrel
    have Ho := Lib.hid ho
    clear ho
    by_cases hlt : k < n
    · have hB := h.below hb
      obtain ⟨b, off, rfl, hbl, hc⟩ := hB.2 (by omega)
      obtain ⟨r0, r1, r2, r3⟩ := hc k hlt
      have hok := show bOk qs k = (bv (qs.getD k q0).a (qs.getD k q0).b (qs.getD k q0).c (qs.getD k q0).d = true ∧ fnd qs (qs.getD k q0).a k = -1) from rfl
      have hf1 := fnd_hit qs (qs.getD k q0).a k n hlt
      have hf2 := fnd_more qs (qs.getD k q0).a k (n - k)
      have hf3 := fnd_bd qs (qs.getD k q0).a k
      rw [show k + (n - k) = n by omega] at hf2
      replace hf1 := fun g => hf1 g rfl
      generalize qs.getD k q0 = q at *
      clear hc
      by_cases hv : bv q.a q.b q.c q.d = true
      · by_cases hz : fnd qs q.a k = -1
        · have hf : (k : Int) ≤ fnd qs q.a n := by rw [hf1 hz]; exact Int.le_refl _
          have HO : Hid (bOk qs k) := by show bOk qs k; rw [hok]; exact ⟨hv, hz⟩
          clear hok hf1 hf2 hz
          go_wp2_with fail
          refine (BookValid_s _ _ _ _ _).mono ?_
          rintro e w1 ⟨rfl, hb1⟩
          have hc1 := (bcell hb1).1
          go_wp2_with fail
          refine (l6Find_any _ _ _ qs _ _ (hB.below hb1) (by omega)).mono ?_
          rintro e w2 ⟨rfl, hb2⟩
          clear hc1
          go_wp2
          go_roundw
          case rel => exact ⟨k + 1, hlt, by go_num, (fun i hi => by rcases Nat.lt_or_ge i k with g | g; exact Ho.out i g; obtain rfl : i = k := (by omega); exact HO.out), bt (bt hb hb1) hb2⟩
          case measure => simp [intOf]; omega
        · have hf : fnd qs q.a n < (k : Int) := by rw [hf2 (by omega)]; omega
          have HO : Hid (bsV qs = false) := bsV_no k (by rw [h.1]; exact hlt) (by rw [hok]; rintro ⟨_, g⟩; exact hz g)
          clear hok hf1 hf2 hz
          go_wp2_with fail
          refine (BookValid_s _ _ _ _ _).mono ?_
          rintro e w1 ⟨rfl, hb1⟩
          have hc1 := (bcell hb1).1
          go_wp2_with fail
          refine (l6Find_any _ _ _ qs _ _ (hB.below hb1) (by omega)).mono ?_
          rintro e w2 ⟨rfl, hb2⟩
          clear hc1
          go_wp2
          go_ret
          exact ⟨ret_bool HO.out.symm, bt (bt hb hb1) hb2⟩
      · have hv' : bv q.a q.b q.c q.d = false := by simpa using hv
        have HO : Hid (bsV qs = false) := bsV_no k (by rw [h.1]; exact hlt) (by rw [hok]; rintro ⟨g, _⟩; exact hv g)
        clear hok hf1 hf2 hv
        go_wp2_with fail
        refine (BookValid_s _ _ _ _ _).mono ?_
        rintro e w1 ⟨rfl, hb1⟩
        go_wp2
        go_ret
        exact ⟨ret_bool HO.out.symm, bt hb hb1⟩
    · obtain rfl : k = n := by omega
      go_wp2
      go_ret
      exact ⟨ret_bool (by unfold bsV; rw [decide_eq_decide, h.1]; constructor; (intro g; exact ⟨by omega, Ho.out⟩); (rintro ⟨g, _⟩; omega)), hb⟩
set_option maxHeartbeats 1000000 in
theorem BooksValid_i (A : Option Addr) (n cap : Nat) (qs : List Quad) (w : World) (h : Books w A n qs) (hn : n ≤ 1048576) (hcap : n ≤ cap) :
    Calls Try.prog 28 #[.slice A n cap] w fun e w' => e = .returned (.bool (bsV qs)) ∧ Below w.heap.size w w' := by
  by_cases hn7 : 7 < n
  · have HO : Hid (bsV qs = false) := by show _ = _; unfold bsV; rw [decide_eq_false_iff_not, h.1]; rintro ⟨g, _⟩; omega
    go_enter Try.func28, Try.ntmps28
    go_wp2
    go_ret
    exact ⟨ret_bool HO.out.symm, by (repeat (first | exact Below.refl _ _ | assumption | refine Below.alloc ?_ (by first | omega | (simp; done) | (simp; omega)) _ | refine Below.drew ?_ | refine bdN ?_ _ | refine Below.setCell ?_ (by first | omega | (simp; done) | (simp; omega)) _))⟩
  · go_enter Try.func28, Try.ntmps28
    go_wp2
    go_loopw [10] (fun i wr => ∃ k : Nat, k ≤ n ∧ i = .int .i64 k ∧ (∀ i, i < k → bOk qs i) ∧ Below w.heap.size w wr) (fun i _ => n - (intOf i).toNat)
    case atStart => exact ⟨0, by omega, rfl, (fun i hi => absurd hi (by omega)), by (repeat (first | exact Below.refl _ _ | assumption | refine Below.alloc ?_ (by first | omega | (simp; done) | (simp; omega)) _ | refine Below.drew ?_ | refine bdN ?_ _ | refine Below.setCell ?_ (by first | omega | (simp; done) | (simp; omega)) _))⟩
    case round =>
      obtain ⟨k, hk, rfl, ho, hb⟩ := hrel
      have Ho := Lib.hid ho
      clear ho
      by_cases hlt : k < n
      · have hB := h.below hb
        obtain ⟨b, off, rfl, hbl, hc⟩ := hB.2 (by omega)
        obtain ⟨r0, r1, r2, r3⟩ := hc k hlt
        have hok := show bOk qs k = (bv (qs.getD k q0).a (qs.getD k q0).b (qs.getD k q0).c (qs.getD k q0).d = true ∧ fnd qs (qs.getD k q0).a k = -1) from rfl
        have hf3 := fnd_bd qs (qs.getD k q0).a k
        generalize qs.getD k q0 = q at *
        have hsz := hb.size
        have i1 : (0 : Int) ≤ (k : Int) := by omega
        have i2 : (k : Int) < (n : Int) := by omega
        have i3 : (k : Int) ≤ (cap : Int) := by omega
        have i4 : k ≤ cap := by omega
        clear hc
        by_cases hv : bv q.a q.b q.c q.d = true
        · by_cases hz : fnd qs q.a k = -1
          · have hf : fnd qs q.a k < 0 := by omega
            have HO : Hid (bOk qs k) := by show bOk qs k; rw [hok]; exact ⟨hv, hz⟩
            clear hok hz
            go_wp2
            go_region_held3 (fun w' => Below (wr.heap.size + 1) (wr.alloc (.cells #[.int .i64 q.a, .int .i64 q.b, .int .i64 q.c, .int .i64 q.d] 46)) w' ∧ ∀ k o, k < wr.heap.size + 1 → w'.cell? ⟨k, o, none⟩ = World.cell? (wr.alloc (.cells #[.int .i64 q.a, .int .i64 q.b, .int .i64 q.c, .int .i64 q.d] 46)) ⟨k, o, none⟩) (first | assumption | exact kp_start | (refine kp_step ?_ hb ?_; assumption; (first | omega | (simp; done) | (simp; omega))) | (refine kp_drew ?_; assumption) | (refine kp_drew (kp_of hb ?_); (first | omega | (simp; done) | (simp; omega)))) (first | (go_at_call 40; refine (BookValid_i _ _ _ _ _).mono ?_; rintro e w' ⟨rfl, hb⟩) | (go_at_call 41; refine (bookIndex_pre _ n _ _ qs _ _ (hB.below (by (refine kp_end (by assumption) ?_ (by first | omega | (simp; done) | (simp; omega)); (repeat (first | exact Below.refl _ _ | assumption | refine Below.alloc ?_ (by first | omega | (simp; done) | (simp; omega)) _ | refine Below.drew ?_ | refine bdN ?_ _ | refine Below.setCell ?_ (by first | omega | (simp; done) | (simp; omega)) _))))) hk (by omega)).mono ?_; rintro e w' ⟨rfl, hb⟩))
            clear hb
            go_wp2
            go_roundw
            case rel => exact ⟨k + 1, hlt, by go_num, (fun i hi => by rcases Nat.lt_or_ge i k with g | g; exact Ho.out i g; obtain rfl : i = k := (by omega); exact HO.out), bt (by assumption) (by (refine kp_end (by assumption) ?_ (by first | omega | (simp; done) | (simp; omega)); (repeat (first | exact Below.refl _ _ | assumption | refine Below.alloc ?_ (by first | omega | (simp; done) | (simp; omega)) _ | refine Below.drew ?_ | refine bdN ?_ _ | refine Below.setCell ?_ (by first | omega | (simp; done) | (simp; omega)) _))))⟩
            case measure => simp [intOf]; omega
          · have hf : 0 ≤ fnd qs q.a k := by omega
            have HO : Hid (bsV qs = false) := bsV_no k (by rw [h.1]; exact hlt) (by rw [hok]; rintro ⟨_, g⟩; exact hz g)
            clear hok hz
            go_wp2
            go_region_held3 (fun w' => Below (wr.heap.size + 1) (wr.alloc (.cells #[.int .i64 q.a, .int .i64 q.b, .int .i64 q.c, .int .i64 q.d] 46)) w' ∧ ∀ k o, k < wr.heap.size + 1 → w'.cell? ⟨k, o, none⟩ = World.cell? (wr.alloc (.cells #[.int .i64 q.a, .int .i64 q.b, .int .i64 q.c, .int .i64 q.d] 46)) ⟨k, o, none⟩) (first | assumption | exact kp_start | (refine kp_step ?_ hb ?_; assumption; (first | omega | (simp; done) | (simp; omega))) | (refine kp_drew ?_; assumption) | (refine kp_drew (kp_of hb ?_); (first | omega | (simp; done) | (simp; omega)))) (first | (go_at_call 40; refine (BookValid_i _ _ _ _ _).mono ?_; rintro e w' ⟨rfl, hb⟩) | (go_at_call 41; refine (bookIndex_pre _ n _ _ qs _ _ (hB.below (by (refine kp_end (by assumption) ?_ (by first | omega | (simp; done) | (simp; omega)); (repeat (first | exact Below.refl _ _ | assumption | refine Below.alloc ?_ (by first | omega | (simp; done) | (simp; omega)) _ | refine Below.drew ?_ | refine bdN ?_ _ | refine Below.setCell ?_ (by first | omega | (simp; done) | (simp; omega)) _))))) hk (by omega)).mono ?_; rintro e w' ⟨rfl, hb⟩))
            clear hb
            go_wp2
            go_ret
            exact ⟨ret_bool HO.out.symm, bt (by assumption) (by (refine kp_end (by assumption) ?_ (by first | omega | (simp; done) | (simp; omega)); (repeat (first | exact Below.refl _ _ | assumption | refine Below.alloc ?_ (by first | omega | (simp; done) | (simp; omega)) _ | refine Below.drew ?_ | refine bdN ?_ _ | refine Below.setCell ?_ (by first | omega | (simp; done) | (simp; omega)) _))))⟩
        · have hv' : bv q.a q.b q.c q.d = false := by simpa using hv
          have HO : Hid (bsV qs = false) := bsV_no k (by rw [h.1]; exact hlt) (by rw [hok]; rintro ⟨g, _⟩; exact hv g)
          clear hok hv
          go_wp2
          first
          | (go_region_with (go_at_call 40; refine (BookValid_i _ _ _ _ _).mono ?_; rintro e w' ⟨rfl, hb2⟩; have hk := kp_step (kp_start (B := wr.heap.size) (W := wr.alloc (.cells #[.int .i64 q.a, .int .i64 q.b, .int .i64 q.c, .int .i64 q.d] 46))) hb2 (by simp)))
          | fail
          all_goals
            clear hb2
            go_wp2
            go_ret
            exact ⟨ret_bool HO.out.symm, bt hb (by (refine kp_end (by assumption) ?_ (by first | omega | (simp; done) | (simp; omega)); (repeat (first | exact Below.refl _ _ | assumption | refine Below.alloc ?_ (by first | omega | (simp; done) | (simp; omega)) _ | refine Below.drew ?_ | refine bdN ?_ _ | refine Below.setCell ?_ (by first | omega | (simp; done) | (simp; omega)) _))))⟩
      · obtain rfl : k = n := by omega
        go_wp2
        go_ret
        exact ⟨ret_bool (by symm; unfold bsV; rw [decide_eq_true_iff, h.1]; exact ⟨by omega, Ho.out⟩), hb⟩
end Go.Proofs.Ytoiaggjjfahabaa
