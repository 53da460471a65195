/- BooksValue: what it computes, of the program and of the reference. No condition but the length. -/
import Derived.Test.YtjijaejlcbailaaDoorBVal
import Derived.Test.YtjijaejlcbailaaDoorSl
namespace Go.Proofs.YtjijaejlcbailaaDoor
open Go.RowKit

/-- the best for the hour, with the first k bookings looked at, over the table of the hours before it; b: the best of the hour before -/
def vTo (qs : List Quad) (tab : List Int) (h : Nat) (b : Int) : Nat → Int
  | 0 => b
  | k + 1 => if (qs.getD k q0).c = h then max (vTo qs tab h b k) (tab[(qs.getD k q0).b.toNat]?.getD 0 + (qs.getD k q0).d) else vTo qs tab h b k
/-- the table for the hours 0 .. h -/
def vTab (qs : List Quad) : Nat → List Int
  | 0 => [0]
  | h + 1 => vTab qs h ++ [vTo qs (vTab qs h) (h + 1) ((vTab qs h)[h]?.getD 0) qs.length]
def vEnd (qs : List Quad) : Int := (vTab qs 30)[30]?.getD 0
theorem vEnd_eq (qs : List Quad) (s : Nat) (h : s = 30) : (vTab qs s)[s]?.getD 0 = vEnd qs := by subst h; unfold vEnd; rfl
def bvalV (qs : List Quad) : Int := if bsV qs = true then vEnd qs else -1
theorem vTab_len (qs : List Quad) (h : Nat) : (vTab qs h).length = h + 1 := by
  induction h with
  | zero => rfl
  | succ h ih => simp [vTab, ih]
theorem bs_at {qs : List Quad} (h : bsV qs = true) (i : Nat) (hi : i < qs.length) : 0 ≤ (qs.getD i q0).b ∧ (qs.getD i q0).b < (qs.getD i q0).c ∧ (qs.getD i q0).c ≤ 30 ∧ 0 ≤ (qs.getD i q0).d ∧ (qs.getD i q0).d ≤ 99 := by
  unfold bsV at h
  rw [decide_eq_true_iff] at h
  have := (h.2 i hi).1
  simp only [bv, decide_eq_true_iff] at this
  omega
def VBd (tab : List Int) (m : Int) : Prop := ∀ i : Nat, 0 ≤ tab[i]?.getD 0 ∧ tab[i]?.getD 0 ≤ m
theorem vTo_bd (qs : List Quad) (tab : List Int) (h : Nat) (b m : Int) (hv : bsV qs = true) (ht : VBd tab m) (hb : 0 ≤ b ∧ b ≤ m) (k : Nat) (hk : k ≤ qs.length) : 0 ≤ vTo qs tab h b k ∧ vTo qs tab h b k ≤ m + 99 := by
  induction k with
  | zero => unfold vTo; omega
  | succ k ih =>
    have i1 := ih (by omega)
    have i2 := bs_at hv k (by omega)
    have i3 := ht (qs.getD k q0).b.toNat
    unfold vTo
    split <;> omega
theorem vTab_bd (qs : List Quad) (hv : bsV qs = true) (h : Nat) : VBd (vTab qs h) (99 * h) := by
  induction h with
  | zero =>
    intro i
    rcases i with _ | i <;> simp [vTab]
  | succ h ih =>
    intro i
    have e := vTo_bd qs (vTab qs h) (h + 1) ((vTab qs h)[h]?.getD 0) (99 * h) hv ih (ih h) qs.length (Nat.le_refl _)
    unfold vTab
    rcases Nat.lt_trichotomy i (h + 1) with g | g | g
    · rw [List.getElem?_append_left (by rw [vTab_len]; exact g)]
      have := ih i
      omega
    · rw [List.getElem?_append_right (by rw [vTab_len]; omega), vTab_len, show i - (h + 1) = 0 by omega]
      simp; omega
    · rw [List.getElem?_eq_none (by simp [vTab_len]; omega)]
      simp; omega
def vRow (qs : List Quad) (h k : Nat) : List Int := vTab qs h ++ vTo qs (vTab qs h) (h + 1) ((vTab qs h)[h]?.getD 0) k :: List.replicate (30 - (h + 1)) 0
theorem vRow_lo (qs : List Quad) (h k i : Nat) (hi : i ≤ h) : (vRow qs h k)[i]?.getD 0 = (vTab qs h)[i]?.getD 0 := by
  unfold vRow
  rw [List.getElem?_append_left (by rw [vTab_len]; omega)]
theorem vRow_at (qs : List Quad) (h k : Nat) : (vRow qs h k)[h + 1]?.getD 0 = vTo qs (vTab qs h) (h + 1) ((vTab qs h)[h]?.getD 0) k := by
  unfold vRow
  rw [List.getElem?_append_right (by rw [vTab_len]; omega), vTab_len]
  simp
theorem vRow_len (qs : List Quad) (h k : Nat) (hh : h < 30) : (vRow qs h k).length = 31 := by
  unfold vRow; simp [vTab_len]; omega
theorem vRow_set (qs : List Quad) (h k k' : Nat) (v : Int) (hv : v = vTo qs (vTab qs h) (h + 1) ((vTab qs h)[h]?.getD 0) k') : (vRow qs h k).set (h + 1) v = vRow qs h k' := by
  unfold vRow
  rw [List.set_append_right _ _ (by rw [vTab_len]; omega), vTab_len, Nat.sub_self, List.set_cons_zero, hv]
theorem vRow_first (qs : List Quad) (h : Nat) (hh : h < 30) (v : Int) (hv : v = (vTab qs h)[h]?.getD 0) : (vTab qs h ++ List.replicate (30 - h) 0).set (h + 1) v = vRow qs h 0 := by
  unfold vRow
  rw [List.set_append_right _ _ (by rw [vTab_len]; omega), vTab_len, Nat.sub_self, show 30 - h = (30 - (h + 1)) + 1 by omega, List.replicate_succ, List.set_cons_zero, hv]
  rfl
theorem vRow_last (qs : List Quad) (h : Nat) : vRow qs h qs.length = vTab qs (h + 1) ++ List.replicate (30 - (h + 1)) 0 := by
  unfold vRow
  conv => rhs; unfold vTab
  simp
theorem BooksValue_i_no (A : Option Addr) (n cap : Nat) (qs : List Quad) (w : World) (h : Books w A n qs) (hn : n ≤ 1048576) (hcap : n ≤ cap) (hv : bsV qs = false) :
    Calls Tryd.prog 51 #[.slice A n cap] w fun e w' => e = .returned (.int .i64 (-1)) ∧ Below w.heap.size w w' := by
  go_enter Tryd.func51, Tryd.ntmps51
  go_wp2_with fail
  refine (BooksValid_i _ _ _ qs _ h hn hcap).mono ?_
  rintro e w0 ⟨rfl, hb0⟩
  go_wp2
  go_ret
  exact ⟨rfl, hb0⟩
theorem BooksValue_s_no (A : Option Addr) (n cap : Nat) (qs : List Quad) (w : World) (h : Books w A n qs) (hn : n ≤ 1048576) (hv : bsV qs = false) :
    Calls Tryd.prog 52 #[.slice A n cap] w fun e w' => e = .returned (.int .i64 (-1)) ∧ Below w.heap.size w w' := by
  go_enter Tryd.func52, Tryd.ntmps52
  go_wp2_with fail
  refine (BooksValid_s _ _ _ qs _ h hn).mono ?_
  rintro e w0 ⟨rfl, hb0⟩
  go_wp2
  go_ret
  exact ⟨rfl, hb0⟩
set_option maxRecDepth 100000 in
set_option maxHeartbeats 2000000 in
theorem BooksValue_i_yes (A : Option Addr) (n cap : Nat) (qs : List Quad) (w : World) (h : Books w A n qs) (hn : n ≤ 1048576) (hcap : n ≤ cap) (hv : bsV qs = true) :
    Calls Tryd.prog 51 #[.slice A n cap] w fun e w' => e = .returned (.int .i64 (vEnd qs)) ∧ Below w.heap.size w w' := by
  go_enter Tryd.func51, Tryd.ntmps51
  go_wp2_with fail
  refine (BooksValid_i _ _ _ qs _ h hn hcap).mono ?_
  rintro e w1 ⟨rfl, hb1⟩
  replace h := h.below hb1
  go_wp2
  have hB0 : Blk (w1.alloc (.cells (ints (List.replicate 31 0)) 76)) w1.heap.size 76 (ints (vTab qs 0 ++ List.replicate (30 - 0) 0)) := Blk.new _ _ _
  go_loopw [4] (fun i wr => ∃ s : Nat, s ≤ 30 ∧ i = .int .i64 ((s : Int) + 1) ∧ Blk wr w1.heap.size 76 (ints (vTab qs s ++ List.replicate (30 - s) 0)) ∧ Below w1.heap.size w1 wr) (fun i _ => 31 - (intOf i).toNat)
  case atStart => exact ⟨0, by omega, rfl, hB0, by (repeat (first | exact Below.refl _ _ | assumption | refine Below.alloc ?_ (by first | omega | (simp; done) | (simp; omega)) _ | refine Below.drew ?_ | refine bdN ?_ _ | refine Below.setCell ?_ (by first | omega | (simp; done) | (simp; omega)) _))⟩
  case round =>
    clear hB0
    obtain ⟨s, hs, rfl, hB, hb⟩ := hrel
    obtain ⟨wo, rfl⟩ : ∃ wo : World, wo = wr := ⟨_, rfl⟩
    have htb := vTab_bd qs hv s
    by_cases hlt : s < 30
    · have hlb0 : decide ((s : Int) + 1 ≤ 30) = true := by simp; omega
      have Htb := Lib.hid htb
      have c0 := hB.int_cell (k := s) (by simp [vTab_len]; omega)
      have c1 := hB.int_cell (k := s + 1) (by simp [vTab_len]; omega)
      have c2 := hB.frozen (s + 1)
      have e0 : (vTab qs s ++ List.replicate (30 - s) 0).getD s 0 = (vTab qs s)[s]?.getD 0 := by
        rw [List.getD_eq_getElem?_getD, List.getElem?_append_left (by rw [vTab_len]; omega)]
      rw [e0] at c0
      clear htb e0
      go_wp2
      clear c0 c1 c2
      have hB1 : Blk (wo.setCell ⟨w1.heap.size, s + 1, none⟩ (.int .i64 ((vTab qs s)[s]?.getD 0))) w1.heap.size 76 (ints (vRow qs s 0)) := by rw [← vRow_first qs s hlt _ rfl]; exact hB.int_set _ _
      have hb2 : Below w1.heap.size w1 (wo.setCell ⟨w1.heap.size, s + 1, none⟩ (.int .i64 ((vTab qs s)[s]?.getD 0))) := by (repeat (first | exact Below.refl _ _ | assumption | refine Below.alloc ?_ (by first | omega | (simp; done) | (simp; omega)) _ | refine Below.drew ?_ | refine bdN ?_ _ | refine Below.setCell ?_ (by first | omega | (simp; done) | (simp; omega)) _))
      clear hB hb
      go_loopw [22] (fun i wr => ∃ k : Nat, k ≤ n ∧ i = .int .i64 k ∧ Blk wr w1.heap.size 76 (ints (vRow qs s k)) ∧ Below w1.heap.size w1 wr) (fun i _ => n - (intOf i).toNat)
      case atStart => exact ⟨0, by omega, rfl, hB1, hb2⟩
      case round =>
        clear hB1 hb2
        obtain ⟨k, hk, rfl, hB2, hb⟩ := hrel
        by_cases hlt2 : k < n
        · obtain ⟨b, off, rfl, hbl, hc⟩ := (h.below hb).2 (by omega)
          obtain ⟨r0, r1, r2, r3⟩ := hc k hlt2
          have z := bs_at hv k (by rw [h.1]; exact hlt2)
          have bd := vTo_bd qs (vTab qs s) (s + 1) ((vTab qs s)[s]?.getD 0) (99 * s) hv Htb.out (Htb.out s) k (by rw [h.1]; omega)
          have c3 := hB2.int_cell (k := s + 1) (by rw [vRow_len qs s k hlt]; omega)
          rw [List.getD_eq_getElem?_getD, vRow_at] at c3
          have hs1 := show vTo qs (vTab qs s) (s + 1) ((vTab qs s)[s]?.getD 0) (k + 1) = (if (qs.getD k q0).c = ((s + 1 : Nat) : Int) then max (vTo qs (vTab qs s) (s + 1) ((vTab qs s)[s]?.getD 0) k) ((vTab qs s)[(qs.getD k q0).b.toNat]?.getD 0 + (qs.getD k q0).d) else vTo qs (vTab qs s) (s + 1) ((vTab qs s)[s]?.getD 0) k) from rfl
          have hset := vRow_set qs s k (k + 1)
          generalize hBe : vTo qs (vTab qs s) (s + 1) ((vTab qs s)[s]?.getD 0) k = B at *
          have HBe := Lib.hid hBe
          clear hBe
          generalize qs.getD k q0 = q at *
          have hsz := hb.size
          clear hc
          by_cases hq : q.c = (s : Int) + 1
          · have hqb : (q.c == (s : Int) + 1) = true := by simpa using hq
            have tb := Htb.out q.b.toNat
            have c4 := hB2.int_cell (k := q.b.toNat) (by rw [vRow_len qs s k hlt]; omega)
            rw [List.getD_eq_getElem?_getD, vRow_lo _ _ _ _ (by omega)] at c4
            rw [if_pos (by omega)] at hs1
            generalize (vTab qs s)[q.b.toNat]?.getD 0 = T at *
            have c5 := hB2.frozen (s + 1)
            have HB := Lib.hid hB2
            have Hb := Lib.hid hb
            have i1 : (s : Int) + 1 < 31 := by omega
            have i2 : 0 ≤ (s : Int) + 1 := by omega
            have i3 : q.b < 31 := by omega
            have e1 : IntKind.i64.wrap (T + q.d) = T + q.d := IntWalk.i64_in _ (by omega)
            clear hq hB2 hb
            have hlt3 : w1.heap.size < wr.heap.size := HB.out.lt
            by_cases hm : T + q.d < B
            · have HS : Hid (B = vTo qs (vTab qs s) (s + 1) ((vTab qs s)[s]?.getD 0) (k + 1)) := by show _ = _; rw [hs1]; omega
              clear hs1
              go_wp2
              go_region
              go_wp2
              go_roundw
              case rel => exact ⟨k + 1, hlt2, by go_num, by rw [← hset _ HS.out]; first | exact ((HB.out.int_set _ _).alloc _).drew | (rw [show (if B < T + q.d then T + q.d else B) = T + q.d from by split <;> omega]; exact ((HB.out.int_set _ _).alloc _).drew), by have hb := Hb.out; (repeat (first | exact Below.refl _ _ | assumption | refine Below.alloc ?_ (by first | omega | (simp; done) | (simp; omega)) _ | refine Below.drew ?_ | refine bdN ?_ _ | refine Below.setCell ?_ (by first | omega | (simp; done) | (simp; omega)) _))⟩
              case measure => simp [intOf]; omega
            · have HS : Hid ((T + q.d) = vTo qs (vTab qs s) (s + 1) ((vTab qs s)[s]?.getD 0) (k + 1)) := by show _ = _; rw [hs1]; omega
              clear hs1
              go_wp2
              go_region
              go_wp2
              go_roundw
              case rel => exact ⟨k + 1, hlt2, by go_num, by rw [← hset _ HS.out]; first | exact ((HB.out.int_set _ _).alloc _).drew | (rw [show (if B < T + q.d then T + q.d else B) = T + q.d from by split <;> omega]; exact ((HB.out.int_set _ _).alloc _).drew), by have hb := Hb.out; (repeat (first | exact Below.refl _ _ | assumption | refine Below.alloc ?_ (by first | omega | (simp; done) | (simp; omega)) _ | refine Below.drew ?_ | refine bdN ?_ _ | refine Below.setCell ?_ (by first | omega | (simp; done) | (simp; omega)) _))⟩
              case measure => simp [intOf]; omega
          · have hqb : (q.c == (s : Int) + 1) = false := by simpa using hq
            have HS : Hid (vRow qs s k = vRow qs s (k + 1)) := by
              show _ = _
              rw [if_neg (by omega)] at hs1
              unfold vRow
              rw [HBe.out, hs1]
            have HB := Lib.hid hB2
            have Hb := Lib.hid hb
            have hlt3 : w1.heap.size < wr.heap.size := hB2.lt
            clear hset hq hs1 hB2 hb
            go_wp2
            go_roundw
            case rel => exact ⟨k + 1, hlt2, by go_num, by rw [← HS.out]; exact HB.out.alloc _, by have hb := Hb.out; (repeat (first | exact Below.refl _ _ | assumption | refine Below.alloc ?_ (by first | omega | (simp; done) | (simp; omega)) _ | refine Below.drew ?_ | refine bdN ?_ _ | refine Below.setCell ?_ (by first | omega | (simp; done) | (simp; omega)) _))⟩
            case measure => simp [intOf]; omega
        · obtain rfl : k = n := by omega
          have hB3 : Blk wr w1.heap.size 76 (ints (vTab qs (s + 1) ++ List.replicate (30 - (s + 1)) 0)) := by
            rw [← vRow_last qs s, h.1]; exact hB2
          clear hB2
          go_wp2
          go_roundw
          case rel => exact ⟨s + 1, hlt, by go_num, hB3, hb⟩
          case measure => simp [intOf]; omega
    · have hs30 : s = 30 := by omega
      have c0 := hB.int_cell (k := s) (by simp [vTab_len]; omega)
      have e0 : (vTab qs s ++ List.replicate (30 - s) 0).getD s 0 = (vTab qs s)[s]?.getD 0 := by
        rw [List.getD_eq_getElem?_getD, List.getElem?_append_left (by rw [vTab_len]; omega)]
      rw [e0, vEnd_eq qs s hs30] at c0
      have c0' : wo.cell? ⟨w1.heap.size, 30, none⟩ = some (.int .i64 (vEnd qs)) := by rw [← hs30]; exact c0
      have hlb0 : decide ((s : Int) + 1 ≤ 30) = false := by simp; omega
      clear e0 htb c0 hs30
      have hT : Below w.heap.size w wo := bt hb1 hb
      go_wp2
      go_ret
      exact ⟨rfl, hT⟩
theorem vtab_vals (qs : List Quad) (s : Nat) : ((vTab qs s).map (Value.int .i64)).length = s + 1 := by simp [vTab_len]
theorem own_form' {w : World} {base n e : Nat} {v : Value} {xs : List Value} (h : w.ownsRow base e 1 v n xs) (hn : 0 < n) : ∃ g cap, v = .slice (some ⟨g, 0, none⟩) n cap ∧ base ≤ g ∧ g < w.heap.size ∧ n ≤ cap := by
  rcases h.2 with ⟨_, h0⟩ | ⟨g, cap, cur, rfl, hb, hg, hc, _⟩
  · omega
  · refine ⟨g, cap, rfl, hb, ?_, hc⟩
    rcases Nat.lt_or_ge g w.heap.size with h1 | h1
    · exact h1
    · rw [Array.getElem?_eq_none h1] at hg; cases hg
theorem own_empty (w : World) (base e : Nat) (hb : base ≤ w.heap.size) : (w.alloc (.cells #[] e)).ownsRow base e 1 (.slice (some ⟨w.heap.size, 0, none⟩) 0 0) 0 [] :=
  ⟨rfl, .inr ⟨w.heap.size, 0, #[], rfl, hb, heap_alloc_new w _, Nat.le_refl _, by simp [maxLen], rfl, rfl⟩⟩
/-- the table of the first n hours -/
def pTab (qs : List Quad) : Nat → List Int
  | 0 => []
  | h + 1 => vTab qs h
theorem pTab_len (qs : List Quad) (h : Nat) : (pTab qs h).length = h := by cases h <;> simp [pTab, vTab_len]
theorem vTo_none (qs : List Quad) (tab : List Int) (h : Nat) (hh : h = 0) (b : Int) (hv : bsV qs = true) (k : Nat) (hk : k ≤ qs.length) : vTo qs tab h b k = b := by
  induction k with
  | zero => rfl
  | succ k ih =>
    have := bs_at hv k (by omega)
    unfold vTo
    rw [if_neg (by subst hh; omega)]
    exact ih (by omega)
/-- the table of one hour more -/
theorem pTab_succ (qs : List Quad) (hv : bsV qs = true) (h : Nat) : pTab qs (h + 1) = pTab qs h ++ [vTo qs (pTab qs h) h (if h = 0 then 0 else (pTab qs h)[h - 1]?.getD 0) qs.length] := by
  cases h with
  | zero => rw [vTo_none qs _ 0 rfl _ hv _ (Nat.le_refl _)]; rfl
  | succ h => rfl
theorem pTab_bd (qs : List Quad) (hv : bsV qs = true) (h : Nat) : VBd (pTab qs h) (99 * h) := by
  cases h with
  | zero => intro i; simp [pTab]
  | succ h => intro i; have := vTab_bd qs hv h i; simp only [pTab]; omega
set_option maxRecDepth 100000 in
set_option maxHeartbeats 2000000 in
theorem BooksValue_s_yes (A : Option Addr) (n cap : Nat) (qs : List Quad) (w : World) (h : Books w A n qs) (hn : n ≤ 1048576) (hv : bsV qs = true) :
    Calls Tryd.prog 52 #[.slice A n cap] w fun e w' => e = .returned (.int .i64 (vEnd qs)) ∧ Below w.heap.size w w' := by
  obtain ⟨i0, hi, hz0, hz1, hz2⟩ := info_parts infoInt
  go_enter Tryd.func52, Tryd.ntmps52
  go_wp2_with fail
  refine (BooksValid_s _ _ _ qs _ h hn).mono ?_
  rintro e w1 ⟨rfl, hb1⟩
  replace h := h.below hb1
  go_wp2
  have ho0 := own_empty w1 w1.heap.size 3 (Nat.le_refl _)
  go_loopw [3, 4] (fun v i wr => ∃ s g c : Nat, s ≤ 31 ∧ i = .int .i64 s ∧ v = .slice (some ⟨g, 0, none⟩) s c ∧ w1.heap.size ≤ g ∧ s ≤ c ∧ wr.ownsRow w1.heap.size 3 1 (.slice (some ⟨g, 0, none⟩) s c) s ((pTab qs s).map (Value.int .i64)) ∧ Below w1.heap.size w1 wr) (fun _ i _ => 31 - (intOf i).toNat)
  case atStart => exact ⟨0, _, _, by omega, rfl, rfl, Nat.le_refl _, by omega, ho0, by (repeat (first | exact Below.refl _ _ | assumption | refine Below.alloc ?_ (by first | omega | (simp; done) | (simp; omega)) _ | refine Below.drew ?_ | refine bdN ?_ _ | refine Below.setCell ?_ (by first | omega | (simp; done) | (simp; omega)) _))⟩
  case round =>
    clear ho0
    obtain ⟨s, g, c, hs, rfl, rfl, hg, hc, hown, hb⟩ := hrel
    obtain ⟨wo, rfl⟩ : ∃ wo : World, wo = wr := ⟨_, rfl⟩
    have htb := pTab_bd qs hv s
    have Htb := Lib.hid htb
    have Hown := Lib.hid hown
    clear htb hown
    by_cases hlt : s < 31
    · have hlb0 : decide ((s : Int) ≤ 30) = true := by simp; omega
      obtain ⟨P0, hP0⟩ : ∃ P0 : Int, P0 = (if s = 0 then 0 else (pTab qs s)[s - 1]?.getD 0) := ⟨_, rfl⟩
      have HP0 := Lib.hid hP0
      have hP0b : 0 ≤ P0 ∧ P0 ≤ 99 * s := by
        rw [hP0]
        split
        · omega
        · exact Htb.out (s - 1)
      by_cases hs0 : s = 0
      · have hs0' : decide (0 < s) = false := by simp; omega
        have e0 : P0 = 0 := by rw [hP0, if_pos hs0]
        have HS0 := Lib.hid hs0
        have E0 := Lib.hid e0
        clear hP0 hs0 e0
        go_wp2
        go_loopw [5, 6] (fun b i wr => ∃ k : Nat, k ≤ n ∧ i = .int .i64 k ∧ b = .int .i64 (vTo qs (pTab qs s) s P0 k) ∧ Below w1.heap.size w1 wr ∧ Hid (wr.ownsRow w1.heap.size 3 1 (.slice (some ⟨g, 0, none⟩) s c) s ((pTab qs s).map (Value.int .i64)))) (fun _ i _ => n - (intOf i).toNat)
        case atStart => exact ⟨0, by omega, rfl, by first | rfl | (show _ = Value.int .i64 P0; rw [E0.out]), hb, Hown⟩
        case round =>
          clear hb Hown
          obtain ⟨k, hk, rfl, rfl, hb, Hown⟩ := hrel
          by_cases hlt2 : k < n
          · obtain ⟨b, off, rfl, hbl, hcl⟩ := (h.below hb).2 (by omega)
            obtain ⟨r0, r1, r2, r3⟩ := hcl k hlt2
            have z := bs_at hv k (by rw [h.1]; exact hlt2)
            have bd := vTo_bd qs (pTab qs s) s P0 (99 * s) hv Htb.out hP0b k (by rw [h.1]; omega)
            have hs1 := show vTo qs (pTab qs s) s P0 (k + 1) = (if (qs.getD k q0).c = (s : Int) then max (vTo qs (pTab qs s) s P0 k) ((pTab qs s)[(qs.getD k q0).b.toNat]?.getD 0 + (qs.getD k q0).d) else vTo qs (pTab qs s) s P0 k) from rfl
            generalize vTo qs (pTab qs s) s P0 k = B at *
            generalize qs.getD k q0 = q at *
            have i8 : (0 : Int) ≤ (k : Int) := by omega
            have i9 : (k : Int) < (n : Int) := by omega
            clear hcl
            by_cases hq : q.c = (s : Int)
            · have hqb : (q.c == (s : Int)) = true := by simpa using hq
              have tb := Htb.out q.b.toNat
              have c4 := Hown.out.cellAt q.b.toNat (by omega)
              have e7 : ((pTab qs s).map (Value.int .i64))[q.b.toNat]? = some (.int .i64 ((pTab qs s)[q.b.toNat]?.getD 0)) := by
                rw [List.getElem?_map, List.getElem?_eq_getElem (by rw [pTab_len]; omega)]; rfl
              rw [e7] at c4
              rw [if_pos hq] at hs1
              clear e7
              generalize (pTab qs s)[q.b.toNat]?.getD 0 = T at *
              have i3 : q.b < (s : Int) := by omega
              have e1 : IntKind.i64.wrap (T + q.d) = T + q.d := IntWalk.i64_in _ (by omega)
              have HS := Lib.hid hs1
              clear hq hs1
              by_cases hm : B < T + q.d
              all_goals
                go_wp2
                go_quiet (fail)
                go_wp2
                go_roundw
                case rel => exact ⟨k + 1, hlt2, by go_num, by rw [HS.out]; congr 1; (try split) <;> omega, by (repeat (first | exact Below.refl _ _ | assumption | refine Below.alloc ?_ (by first | omega | (simp; done) | (simp; omega)) _ | refine Below.drew ?_ | refine bdN ?_ _ | refine Below.setCell ?_ (by first | omega | (simp; done) | (simp; omega)) _)), Hown⟩
                case measure => simp [intOf]; omega
            · have hqb : (q.c == (s : Int)) = false := by simpa using hq
              rw [if_neg hq] at hs1
              have HS := Lib.hid hs1
              clear hq hs1
              go_wp2
              go_roundw
              case rel => exact ⟨k + 1, hlt2, by go_num, by rw [HS.out], hb, Hown⟩
              case measure => simp [intOf]; omega
          · obtain rfl : k = n := by omega
            go_wp2_with (at_builtin; refine wpList_append_own _ rfl _ _ 30 rfl w1.heap.size 3 i0 (.int .i64 0) 1 8 Tryd.underlying30 hi hz0 hz1 hz2 rfl (by decide) _ _ _ rfl (Hown.out.alloc _) ⟨wr.heap.size, 0, none⟩ 1 1 [.int .i64 (vTo qs (pTab qs s) s P0 k)] rfl rfl ?c1 ?c2 ?c3 ?c4 ?c5 ?_)
            case c1 => exact cell_one_new _ _ _
            case c2 => simp [Value.oneCell']
            case c3 => unfold maxLen; omega
            case c4 => omega
            case c5 => have := hb.size; simp; omega
            intro v' w2 hown1 hgrow _
            have hown2 : w2.ownsRow w1.heap.size 3 1 v' (s + 1) ((pTab qs (s + 1)).map (Value.int .i64)) := by
              have e1 : pTab qs (s + 1) = pTab qs s ++ [vTo qs (pTab qs s) s P0 k] := by rw [pTab_succ qs hv s, ← HP0.out, h.1]
              rw [e1, List.map_append]; exact hown1
            have hb' : Below w1.heap.size w1 w2 := (hb.alloc hb.size _).grown hgrow (by have := hb.size; simp; omega) (fun q hq => by simp [Value.ownBlock] at hq; omega)
            obtain ⟨g', c', hv', hg', _, hc'⟩ := own_form' hown2 (by omega)
            subst hv'
            have Hown2 := Lib.hid hown2
            clear hown1 hgrow hown2 hb Hown
            go_wp2
            go_roundw
            case rel => exact ⟨s + 1, g', c', by omega, by go_num, rfl, hg', hc', Hown2.out, hb'⟩
            case measure => simp [intOf]; omega
      · have hs0' : decide (0 < s) = true := by simp; omega
        have hs1 : 1 ≤ s := by omega
        have c0 := Hown.out.cellAt (s - 1) (by omega)
        have e7 : ((pTab qs s).map (Value.int .i64))[s - 1]? = some (.int .i64 P0) := by
          rw [hP0, if_neg hs0, List.getElem?_map, List.getElem?_eq_getElem (by rw [pTab_len]; omega)]; rfl
        rw [e7] at c0
        have i6 : 0 ≤ (s : Int) - 1 := by omega
        clear hP0 e7 hs0
        go_wp2
        clear c0
        go_loopw [5, 6] (fun b i wr => ∃ k : Nat, k ≤ n ∧ i = .int .i64 k ∧ b = .int .i64 (vTo qs (pTab qs s) s P0 k) ∧ Below w1.heap.size w1 wr ∧ Hid (wr.ownsRow w1.heap.size 3 1 (.slice (some ⟨g, 0, none⟩) s c) s ((pTab qs s).map (Value.int .i64)))) (fun _ i _ => n - (intOf i).toNat)
        case atStart => exact ⟨0, by omega, rfl, rfl, hb, Hown⟩
        case round =>
          clear hb Hown
          obtain ⟨k, hk, rfl, rfl, hb, Hown⟩ := hrel
          by_cases hlt2 : k < n
          · obtain ⟨b, off, rfl, hbl, hcl⟩ := (h.below hb).2 (by omega)
            obtain ⟨r0, r1, r2, r3⟩ := hcl k hlt2
            have z := bs_at hv k (by rw [h.1]; exact hlt2)
            have bd := vTo_bd qs (pTab qs s) s P0 (99 * s) hv Htb.out hP0b k (by rw [h.1]; omega)
            have hs1 := show vTo qs (pTab qs s) s P0 (k + 1) = (if (qs.getD k q0).c = (s : Int) then max (vTo qs (pTab qs s) s P0 k) ((pTab qs s)[(qs.getD k q0).b.toNat]?.getD 0 + (qs.getD k q0).d) else vTo qs (pTab qs s) s P0 k) from rfl
            generalize vTo qs (pTab qs s) s P0 k = B at *
            generalize qs.getD k q0 = q at *
            have i8 : (0 : Int) ≤ (k : Int) := by omega
            have i9 : (k : Int) < (n : Int) := by omega
            clear hcl
            by_cases hq : q.c = (s : Int)
            · have hqb : (q.c == (s : Int)) = true := by simpa using hq
              have tb := Htb.out q.b.toNat
              have c4 := Hown.out.cellAt q.b.toNat (by omega)
              have e7 : ((pTab qs s).map (Value.int .i64))[q.b.toNat]? = some (.int .i64 ((pTab qs s)[q.b.toNat]?.getD 0)) := by
                rw [List.getElem?_map, List.getElem?_eq_getElem (by rw [pTab_len]; omega)]; rfl
              rw [e7] at c4
              rw [if_pos hq] at hs1
              clear e7
              generalize (pTab qs s)[q.b.toNat]?.getD 0 = T at *
              have i3 : q.b < (s : Int) := by omega
              have e1 : IntKind.i64.wrap (T + q.d) = T + q.d := IntWalk.i64_in _ (by omega)
              have HS := Lib.hid hs1
              clear hq hs1
              by_cases hm : B < T + q.d
              all_goals
                go_wp2
                go_quiet (fail)
                go_wp2
                go_roundw
                case rel => exact ⟨k + 1, hlt2, by go_num, by rw [HS.out]; congr 1; (try split) <;> omega, by (repeat (first | exact Below.refl _ _ | assumption | refine Below.alloc ?_ (by first | omega | (simp; done) | (simp; omega)) _ | refine Below.drew ?_ | refine bdN ?_ _ | refine Below.setCell ?_ (by first | omega | (simp; done) | (simp; omega)) _)), Hown⟩
                case measure => simp [intOf]; omega
            · have hqb : (q.c == (s : Int)) = false := by simpa using hq
              rw [if_neg hq] at hs1
              have HS := Lib.hid hs1
              clear hq hs1
              go_wp2
              go_roundw
              case rel => exact ⟨k + 1, hlt2, by go_num, by rw [HS.out], hb, Hown⟩
              case measure => simp [intOf]; omega
          · obtain rfl : k = n := by omega
            go_wp2_with (at_builtin; refine wpList_append_own _ rfl _ _ 30 rfl w1.heap.size 3 i0 (.int .i64 0) 1 8 Tryd.underlying30 hi hz0 hz1 hz2 rfl (by decide) _ _ _ rfl (Hown.out.alloc _) ⟨wr.heap.size, 0, none⟩ 1 1 [.int .i64 (vTo qs (pTab qs s) s P0 k)] rfl rfl ?c1 ?c2 ?c3 ?c4 ?c5 ?_)
            case c1 => exact cell_one_new _ _ _
            case c2 => simp [Value.oneCell']
            case c3 => unfold maxLen; omega
            case c4 => omega
            case c5 => have := hb.size; simp; omega
            intro v' w2 hown1 hgrow _
            have hown2 : w2.ownsRow w1.heap.size 3 1 v' (s + 1) ((pTab qs (s + 1)).map (Value.int .i64)) := by
              have e1 : pTab qs (s + 1) = pTab qs s ++ [vTo qs (pTab qs s) s P0 k] := by rw [pTab_succ qs hv s, ← HP0.out, h.1]
              rw [e1, List.map_append]; exact hown1
            have hb' : Below w1.heap.size w1 w2 := (hb.alloc hb.size _).grown hgrow (by have := hb.size; simp; omega) (fun q hq => by simp [Value.ownBlock] at hq; omega)
            obtain ⟨g', c', hv', hg', _, hc'⟩ := own_form' hown2 (by omega)
            subst hv'
            have Hown2 := Lib.hid hown2
            clear hown1 hgrow hown2 hb Hown
            go_wp2
            go_roundw
            case rel => exact ⟨s + 1, g', c', by omega, by go_num, rfl, hg', hc', Hown2.out, hb'⟩
            case measure => simp [intOf]; omega
    · have hs31 : s = 31 := by omega
      have c0 := Hown.out.cellAt 30 (by omega)
      have e7 : ((pTab qs s).map (Value.int .i64))[30]? = some (.int .i64 (vEnd qs)) := by
        rw [List.getElem?_map, List.getElem?_eq_getElem (by rw [pTab_len]; omega)]
        have e8 : (pTab qs s)[30]?.getD 0 = vEnd qs := by subst hs31; exact vEnd_eq qs 30 rfl
        rw [List.getElem?_eq_getElem (by rw [pTab_len]; omega)] at e8
        simp only [Option.getD_some] at e8
        rw [Option.map_some, e8]
      rw [e7] at c0
      have hlb0 : decide ((s : Int) ≤ 30) = false := by simp; omega
      have i1 : 31 ≤ s := by omega
      have hT : Below w.heap.size w wo := bt hb1 hb
      clear e7 hs31
      go_wp2
      go_ret
      exact ⟨rfl, hT⟩
theorem BooksValue_i (A : Option Addr) (n cap : Nat) (qs : List Quad) (w : World) (h : Books w A n qs) (hn : n ≤ 1048576) (hcap : n ≤ cap) :
    Calls Tryd.prog 51 #[.slice A n cap] w fun e w' => e = .returned (.int .i64 (bvalV qs)) ∧ Below w.heap.size w w' := by
  by_cases hv : bsV qs = true
  · rw [bvalV, if_pos hv]; exact BooksValue_i_yes A n cap qs w h hn hcap hv
  · rw [bvalV, if_neg hv]; exact BooksValue_i_no A n cap qs w h hn hcap (by simpa using hv)
theorem BooksValue_s (A : Option Addr) (n cap : Nat) (qs : List Quad) (w : World) (h : Books w A n qs) (hn : n ≤ 1048576) :
    Calls Tryd.prog 52 #[.slice A n cap] w fun e w' => e = .returned (.int .i64 (bvalV qs)) ∧ Below w.heap.size w w' := by
  by_cases hv : bsV qs = true
  · rw [bvalV, if_pos hv]; exact BooksValue_s_yes A n cap qs w h hn hv
  · rw [bvalV, if_neg hv]; exact BooksValue_s_no A n cap qs w h hn (by simpa using hv)
end Go.Proofs.YtjijaejlcbailaaDoor
