/- BooksPick: what it computes, of the program and of the reference. Conditions: at most 1048576 bookings. -/
import Derived.Test.YtghfdkalblipgaaDoorPSets
import Derived.Test.YtghfdkalblipgaaDoorBMost
import Derived.Test.YtghfdkalblipgaaDoorOQ
import Derived.Laws.Shifts
namespace Go.Proofs.YtghfdkalblipgaaDoor
open Go.RowKit
set_option linter.unusedVariables false
theorem p_shr (s k : Nat) : (Int.tmod ((s : Int) / 2 ^ k) 2 == 1) = s.testBit k ∧ (Int.tmod ((s : Int) / 2 ^ k) 2 == 0) = (!s.testBit k) ∧ ((s : Int) / 2 ^ k % 2 == 1) = s.testBit k ∧ ((s : Int) / 2 ^ k % 2 == 0) = (!s.testBit k) := by
  have e : (s : Int) / 2 ^ k = ((s / 2 ^ k : Nat) : Int) := by rw [Int.natCast_ediv, Int.natCast_pow]; rfl
  rw [e, Nat.testBit_eq_decide_div_mod_eq]
  generalize s / 2 ^ k = Q
  have h2 : Int.tmod (Q : Int) 2 = (Q : Int) % 2 := Int.tmod_eq_emod_of_nonneg (by omega)
  rw [h2]
  by_cases h : Q % 2 = 1
  · have h3 : (Q : Int) % 2 = 1 := by omega
    rw [h3]; simp [h]
  · have h3 : (Q : Int) % 2 = 0 := by omega
    rw [h3]; simp [h]
theorem p_shl (k : Nat) (hk : k ≤ 40) : IntKind.i64.wrap (2 ^ min k 64) = ((2 ^ k : Nat) : Int) := by
  rw [Nat.min_eq_left (by omega)]
  have h1 : 2 ^ k ≤ 2 ^ 40 := Nat.pow_le_pow_right (by omega) hk
  have e : (2 : Int) ^ k = ((2 ^ k : Nat) : Int) := by rw [Int.natCast_pow]; rfl
  rw [e]
  generalize 2 ^ k = P at h1
  exact IntWalk.i64_in _ (by constructor <;> omega)
theorem p_nat_and (s k : Nat) : s &&& 2 ^ k = if s.testBit k = true then 2 ^ k else 0 := by
  apply Nat.eq_of_testBit_eq
  intro j
  rw [Nat.testBit_and, Nat.testBit_two_pow]
  by_cases e : k = j
  · subst e
    cases h : s.testBit k <;> simp
  · have e2 : decide (k = j) = false := by simpa using e
    rw [e2, Bool.and_false]
    split
    · rw [Nat.testBit_two_pow, e2]
    · simp
theorem p_and_bit (s k : Nat) (hs : s < 1048576) (hk : k ≤ 40) : bits .and .i64 (s : Int) ((2 ^ k : Nat) : Int) = if s.testBit k = true then ((2 ^ k : Nat) : Int) else 0 := by
  have h1 : 2 ^ k ≤ 2 ^ 40 := Nat.pow_le_pow_right (by omega) hk
  have hb := p_nat_and s k
  generalize 2 ^ k = P at h1 hb
  have e1 : (BitVec.ofInt 64 (s : Int)).toNat = s := by
    rw [BitVec.ofInt_natCast, BitVec.toNat_ofNat]; exact Nat.mod_eq_of_lt (by omega)
  have e2 : (BitVec.ofInt 64 (P : Int)).toNat = P := by
    rw [BitVec.ofInt_natCast, BitVec.toNat_ofNat]; exact Nat.mod_eq_of_lt (by omega)
  have e : bits .and .i64 (s : Int) (P : Int) = IntKind.i64.wrap ((s &&& P : Nat) : Int) := by
    show IntKind.i64.wrap ((BitVec.ofInt 64 (s : Int) &&& BitVec.ofInt 64 (P : Int)).toNat : Int) = _
    rw [BitVec.toNat_and, e1, e2]
  rw [e, hb]
  split
  · exact IntWalk.i64_in _ (by constructor <;> omega)
  · rfl
theorem p_and (s k : Nat) (hs : s < 1048576) (hk : k ≤ 40) : (bits .and .i64 (s : Int) (wrap64 (2 ^ k)) != 0) = s.testBit k ∧ (bits .and .i64 (s : Int) (wrap64 (2 ^ k)) == 0) = !s.testBit k := by
  have e : wrap64 ((2 : Int) ^ k) = ((2 ^ k : Nat) : Int) := by
    have := p_shl k hk
    rw [Nat.min_eq_left (by omega)] at this
    rw [← IntWalk.i64_left]; exact this
  rw [e, p_and_bit s k hs hk]
  have h0 := Nat.two_pow_pos k
  generalize 2 ^ k = P at h0
  cases s.testBit k
  · simp
  · have h : (P : Int) ≠ 0 := by omega
    simp
    omega
theorem infoBk : (Tryd.prog.info? 47).map (fun i => (i.zero, i.size, i.bytes)) = some (some (.agg #[.int .i64 0, .int .i64 0, .int .i64 0, .int .i64 0]), 4, 32) := by kernel_rfl
/-- a list of bookings of the call's own -/
def PB (t : TypeId) (w0 w : World) (v : Value) (n : Nat) (qs : List Quad) : Prop :=
  Below w0.heap.size w0 w ∧ w.ownsRow w0.heap.size t 4 v n (qs.flatMap Quad.cells) ∧ qs.length = n
theorem PB.alloc {t : TypeId} {w0 w : World} {v : Value} {n : Nat} {qs : List Quad} (h : PB t w0 w v n qs) (o : Obj) : PB t w0 (w.alloc o) v n qs := ⟨h.1.alloc h.1.size o, h.2.1.alloc o, h.2.2⟩
theorem PB.app {t : TypeId} {w0 w w1 : World} {v v' : Value} {n : Nat} {qs : List Quad} {o : Obj} {q : Quad} (h : PB t w0 w v n qs) (ho : w1.ownsRow w0.heap.size t 4 v' (n + 1) (qs.flatMap Quad.cells ++ q.cells)) (hg : (w.alloc o).grownBy w1 v.ownBlock) : PB t w0 w1 v' (n + 1) (qs ++ [q]) := by
  have hsz := h.1.size
  refine ⟨(h.1.alloc hsz o).grown hg (by simp; omega) (fun q hq => (h.2.1.lt q hq).1), by rw [List.flatMap_append]; simpa using ho, by simp [h.2.2]⟩
set_option maxRecDepth 100000 in
set_option maxHeartbeats 2000000 in
theorem l6Set_s (A : Option Addr) (n cap : Nat) (qs : List Quad) (s : Nat) (w : World) (h : Books w A n qs) (hn : n ≤ 9) :
    Calls Tryd.prog 40 #[.slice A n cap, .int .i64 s] w fun e w' => ∃ B m c, e = .returned (.slice B m c) ∧ Books w' B m (subTo qs s n) ∧ m ≤ n ∧ m ≤ c ∧ c ≤ maxLen ∧ Below w.heap.size w w' := by
  obtain ⟨i0, hi, ia, ib, ic⟩ := info_parts infoBk
  have T : PB 47 w (w.alloc (.cells #[] 47)) (.slice (some ⟨w.heap.size, 0, none⟩) 0 0) 0 [] := ⟨(Below.refl _ _).alloc (Nat.le_refl _) _, o_new0 w w.heap.size 47 4 (Nat.le_refl _), rfl⟩
  go_enter Tryd.func40, Tryd.ntmps40
  go_wp2
  go_loopw [5, 6] (fun v i wr => ∃ (j m : Nat), i = .int .i64 j ∧ j ≤ n ∧ m ≤ j ∧ PB 47 w wr v m (subTo qs s j)) (fun _ i _ => n - (intOf i).toNat)
  case atStart => exact ⟨0, 0, rfl, by omega, by omega, T⟩
  case round =>
    clear T
    obtain ⟨j, m, rfl, hj, hm, T⟩ := hrel
    by_cases hlt : j < n
    · have an := p_shr s j
      have hs1 := show subTo qs s (j + 1) = if s.testBit j then subTo qs s j ++ [qs.getD j q0] else subTo qs s j from rfl
      have hsz := T.1.size
      cases hbit : s.testBit j
      · rw [hbit] at an hs1
        obtain ⟨an1, an2, an3, an4⟩ := an
        have HS := Lib.hid hs1
        clear hs1 hbit
        go_wp2
        go_roundw
        case rel => exact ⟨j + 1, m, by go_num, hlt, by omega, by rw [HS.out]; exact T⟩
        case measure => simp [intOf]; omega
      · rw [hbit] at an hs1
        obtain ⟨an1, an2, an3, an4⟩ := an
        obtain ⟨nb, no, rfl, hnl, hnc⟩ := h.2 (by omega)
        obtain ⟨r0, r1, r2, r3⟩ := hnc j hlt
        replace r0 := (T.1.cell (p := ⟨nb, no + j * 4, none⟩) hnl).trans r0
        replace r1 := (T.1.cell (p := ⟨nb, no + j * 4 + 1, none⟩) hnl).trans r1
        replace r2 := (T.1.cell (p := ⟨nb, no + j * 4 + 2, none⟩) hnl).trans r2
        replace r3 := (T.1.cell (p := ⟨nb, no + j * 4 + 3, none⟩) hnl).trans r3
        obtain ⟨q, hq⟩ : ∃ q, qs.getD j q0 = q := ⟨_, rfl⟩
        rw [hq] at r0 r1 r2 r3 hs1
        obtain ⟨xs, hxs⟩ : ∃ xs, subTo qs s j = xs := ⟨_, rfl⟩
        rw [hxs] at T hs1
        obtain ⟨a, b, c', d⟩ := q
        obtain ⟨G, c, rfl, g1, g2, _⟩ := o_books T.2.1 T.2.2
        have HS := Lib.hid hs1
        have i1 : (0 : Int) ≤ (j : Int) := by omega
        have i2 : (j : Int) < (n : Int) := by omega
        clear hs1 hbit hnc hq hxs
        go_wp2_with (at_builtin; refine wpList_append_own _ rfl _ _ 37 rfl w.heap.size 47 i0 (.agg #[.int .i64 0, .int .i64 0, .int .i64 0, .int .i64 0]) 4 32 Tryd.underlying37 hi ia ib ic rfl (by decide) _ _ _ rfl (T.2.1.alloc _) ⟨wr.heap.size, 0, none⟩ 1 1 (Quad.cells ⟨a, b, c', d⟩) rfl rfl (o_cells wr _ ⟨a, b, c', d⟩) ?c2 ?c3 ?c4 ?c5 ?_)
        case c2 => simp [Quad.cells, Value.oneCell']
        case c3 => unfold maxLen; omega
        case c4 => omega
        case c5 => first | omega | (simp; omega)
        intro v' w1 hown1 hgrow _
        have T' := T.app hown1 hgrow
        clear hown1 hgrow T
        go_wp2
        go_roundw
        case rel => exact ⟨j + 1, m + 1, by go_num, hlt, by omega, by rw [HS.out]; exact T'⟩
        case measure => simp [intOf]; omega
    · obtain rfl : j = n := by omega
      obtain ⟨G, c, rfl, g1, g2, hB⟩ := o_books T.2.1 T.2.2
      go_wp2
      go_ret
      exact ⟨G, m, c, rfl, hB, hm, g1, g2, T.1⟩
theorem pick_bound {qs : List Quad} (h : bsV qs = true) : qs.length ≤ 7 := ((bsV_pw qs).1 h).1
set_option maxRecDepth 100000 in
set_option maxHeartbeats 2000000 in
theorem BooksPick_s (A : Option Addr) (n cap : Nat) (qs : List Quad) (p : Int) (w : World) (h : Books w A n qs) (hn : n ≤ 1048576) :
    Calls Tryd.prog 20 #[.slice A n cap, .int .i64 p] w fun e w' => e = .returned (.int .i64 (pkV qs p)) ∧ Below w.heap.size w w' := by
  have hlen := h.1
  have V := fun w h => BooksValid_s A n cap qs w h hn
  by_cases hv : bsV qs = true
  · rw [hv] at V
    have h7 := pick_bound hv
    rw [hlen] at h7
    obtain ⟨P, hP⟩ : ∃ P : Nat, 2 ^ n = P := ⟨_, rfl⟩
    have hP1 : P ≤ 128 := by rw [← hP]; exact Nat.pow_le_pow_right (by omega) h7
    have hP0 : 0 < P := by rw [← hP]; exact Nat.two_pow_pos n
    have hsh : Hid (((2 : Int) ^ n) = (P : Int)) := by show _ = _; rw [← hP]; simp
    by_cases hp : 0 ≤ p
    · have hpb : decide (0 ≤ p) = true := by simpa using hp
      have hr : Hid (pkV qs p = pkTo qs p (-1) P) := by
        show _ = _
        unfold pkV
        rw [if_pos ⟨hv, hp⟩, hlen, hP]
        obtain ⟨t, rfl⟩ : ∃ t, P = t + 1 := ⟨P - 1, by omega⟩
        exact (pkTo_start qs p hp t).symm
      have hbd : Hid (∀ s, -1 ≤ pkTo qs p (-1) s ∧ pkTo qs p (-1) s ≤ 7) := by
        intro s
        rcases s with _ | s
        · simp [pkTo]
        · rw [pkTo_start qs p hp s]
          have := pkTo_bd qs p hp (s + 1)
          omega
      have HSV : Hid (∀ s, subTo qs s n = subV qs s) := fun s => by unfold subV; rw [hlen]
      clear hP hv hlen
      go_enter Tryd.func20, Tryd.ntmps20
      go_wp2
      go_loopw [5, 6] (fun f i wr => ∃ s : Nat, s ≤ P ∧ i = .int .i64 s ∧ f = .int .i64 (pkTo qs p (-1) s) ∧ Below w.heap.size w wr) (fun _ i _ => P - (intOf i).toNat)
      case atStart => exact ⟨0, by omega, rfl, rfl, by (repeat (first | exact Below.refl _ _ | assumption | refine Below.alloc ?_ (by first | omega | (simp; done) | (simp; omega)) _ | refine Below.drew ?_ | refine bdN ?_ _ | refine Below.setCell ?_ (by first | omega | (simp; done) | (simp; omega)) _))⟩
      case round =>
        obtain ⟨s, hs, rfl, rfl, hb⟩ := hrel
        have hB := h.below hb
        by_cases hlt : s < P
        · have t0 : decide ((s : Int) < wrap64 (2 ^ n)) = true := by
            rw [hsh.out, show wrap64 (P : Int) = (P : Int) by unfold wrap64; omega]; simp; omega
          have hnx := show pkTo qs p (-1) (s + 1) = if pkTo qs p (-1) s < (subV qs s).length ∧ bmV (subV qs s) ≤ p then ((subV qs s).length : Int) else pkTo qs p (-1) s from rfl
          have bd := hbd.out s
          have SB := fun w h => l6Set_s A n cap qs s w h (by omega)
          rw [HSV.out s] at SB
          obtain ⟨xs, hxs⟩ : ∃ xs, subV qs s = xs := ⟨_, rfl⟩
          rw [hxs] at SB hnx
          obtain ⟨F, hF⟩ : ∃ F, pkTo qs p (-1) s = F := ⟨_, rfl⟩
          rw [hF] at hnx bd ⊢
          have HN := Lib.hid hnx
          have HB := Lib.hid hb
          clear hxs hF hnx hb
          go_upto_region 6 with (first
            | (go_at_call 25; ((with_reducible refine (V _ hB).mono ?_); rintro E wk ⟨rfl, hb⟩; replace hB := hB.below hb; have hw := bt HB.out hb; clear hb))
            | (go_at_call 40; ((with_reducible refine (SB _ hB).mono ?_); rintro E wk ⟨G, m, c2, rfl, hX, hmk, hmc, hcm2, hb⟩; replace hB := hB.below hb; replace hw := bt hw hb; clear hb SB)))
          have hml := hX.1
          have M0 := fun w h => BooksMost_s G m c2 xs w h (by omega)
          rw [hml] at HN
          obtain ⟨Z, hZ⟩ : ∃ Z, bmV xs = Z := ⟨_, rfl⟩
          rw [hZ] at M0 HN
          clear hZ
          by_cases hz : Z ≤ p
          · have hzb : decide (Z ≤ p) = true := by simpa using hz
            by_cases hF : F < m
            · have hFb : decide (F < (m : Int)) = true := by simpa using hF
              have e : Hid (pkTo qs p (-1) (s + 1) = m) := by show _ = _; rw [HN.out, if_pos ⟨hF, hz⟩]
              clear HN hz hF
              go_wp2_with (go_at_call 41; ((with_reducible refine (M0 _ hX).mono ?_); rintro E wk ⟨rfl, hb⟩; replace hw := bt hw hb; clear hb))
              go_roundw
              case rel => exact ⟨s + 1, hlt, by go_num, by rw [e.out], hw⟩
              case measure => simp [intOf]; omega
            · have hFb : decide (F < (m : Int)) = false := by simpa using hF
              have e : Hid (pkTo qs p (-1) (s + 1) = F) := by show _ = _; rw [HN.out, if_neg (fun g => hF g.1)]
              clear HN hz hF
              go_wp2_with (go_at_call 41; ((with_reducible refine (M0 _ hX).mono ?_); rintro E wk ⟨rfl, hb⟩; replace hw := bt hw hb; clear hb))
              go_roundw
              case rel => exact ⟨s + 1, hlt, by go_num, by rw [e.out], hw⟩
              case measure => simp [intOf]; omega
          · have hzb : decide (Z ≤ p) = false := by simpa using hz
            have e : Hid (pkTo qs p (-1) (s + 1) = F) := by show _ = _; rw [HN.out, if_neg (fun g => hz g.2)]
            clear HN hz
            go_wp2_with (go_at_call 41; ((with_reducible refine (M0 _ hX).mono ?_); rintro E wk ⟨rfl, hb⟩; replace hw := bt hw hb; clear hb))
            go_roundw
            case rel => exact ⟨s + 1, hlt, by go_num, by rw [e.out], hw⟩
            case measure => simp [intOf]; omega
        · obtain rfl : s = P := by omega
          have t0 : decide ((s : Int) < wrap64 (2 ^ n)) = false := by
            rw [hsh.out, show wrap64 (s : Int) = (s : Int) by unfold wrap64; omega]; simp
          go_wp2
          go_ret
          exact ⟨ret_int (by rw [hr.out]), hb⟩
    · have hpb : decide (0 ≤ p) = false := by simpa using hp
      have hr : Hid (pkV qs p = -1) := by show _ = _; unfold pkV; rw [if_neg (fun g => hp g.2)]
      have t0 : decide ((0 : Int) < wrap64 (2 ^ n)) = true := by
        rw [hsh.out, show wrap64 (P : Int) = (P : Int) by unfold wrap64; omega]; simp; omega
      clear hP hv hlen hp
      go_enter Tryd.func20, Tryd.ntmps20
      go_wp2
      go_loopw [5, 6] (fun f i wr => i = .int .i64 0 ∧ f = .int .i64 (-1) ∧ Below w.heap.size w wr) (fun _ i _ => 0)
      case atStart => exact ⟨rfl, rfl, by (repeat (first | exact Below.refl _ _ | assumption | refine Below.alloc ?_ (by first | omega | (simp; done) | (simp; omega)) _ | refine Below.drew ?_ | refine bdN ?_ _ | refine Below.setCell ?_ (by first | omega | (simp; done) | (simp; omega)) _))⟩
      case round =>
        obtain ⟨rfl, rfl, hb⟩ := hrel
        have hB := h.below hb
        go_wp2_with (go_at_call 25; ((with_reducible refine (V _ hB).mono ?_); rintro E wk ⟨rfl, hb2⟩))
        go_ret
        exact ⟨ret_int (by rw [hr.out]), bt hb hb2⟩
  · have hv' : bsV qs = false := by simpa using hv
    rw [hv'] at V
    have hr : Hid (pkV qs p = -1) := by show _ = _; unfold pkV; rw [if_neg (fun g => hv g.1)]
    clear hv hv' hlen
    go_enter Tryd.func20, Tryd.ntmps20
    go_wp2
    go_loopw [5, 6] (fun f i wr => i = .int .i64 0 ∧ f = .int .i64 (-1) ∧ Below w.heap.size w wr) (fun _ i _ => 0)
    case atStart => exact ⟨rfl, rfl, by (repeat (first | exact Below.refl _ _ | assumption | refine Below.alloc ?_ (by first | omega | (simp; done) | (simp; omega)) _ | refine Below.drew ?_ | refine bdN ?_ _ | refine Below.setCell ?_ (by first | omega | (simp; done) | (simp; omega)) _))⟩
    case round =>
      obtain ⟨rfl, rfl, hb⟩ := hrel
      have hB := h.below hb
      obtain ⟨T, hT⟩ : ∃ T : Bool, decide ((0 : Int) < wrap64 (2 ^ min n 64)) = T := ⟨_, rfl⟩
      cases T
      · go_wp2
        go_ret
        exact ⟨ret_int (by rw [hr.out]), hb⟩
      · go_wp2_with (go_at_call 25; ((with_reducible refine (V _ hB).mono ?_); rintro E wk ⟨rfl, hb2⟩))
        go_ret
        exact ⟨ret_int (by rw [hr.out]), bt hb hb2⟩
set_option maxRecDepth 100000 in
set_option maxHeartbeats 2000000 in
theorem BooksPick_i (A : Option Addr) (n cap : Nat) (qs : List Quad) (p : Int) (w : World) (h : Books w A n qs) (hn : n ≤ 1048576) (hcap : n ≤ cap) :
    Calls Tryd.prog 19 #[.slice A n cap, .int .i64 p] w fun e w' => e = .returned (.int .i64 (pkV qs p)) ∧ Below w.heap.size w w' := by
  have hlen := h.1
  have V := fun w h => BooksValid_i A n cap qs w h hn hcap
  by_cases hv : bsV qs = true
  · rw [hv] at V
    by_cases hp : p < 0
    · have hpb : decide (p < 0) = true := by simpa using hp
      have hr : Hid (pkV qs p = -1) := by show _ = _; unfold pkV; rw [if_neg (fun g => by have := g.2; omega)]
      clear hv hp
      go_enter Tryd.func19, Tryd.ntmps19
      go_wp2_with (go_at_call 39; ((with_reducible refine (V _ h).mono ?_); rintro E w1 ⟨rfl, hb⟩))
      go_ret
      exact ⟨ret_int (by rw [hr.out]), hb⟩
    · have hpb : decide (p < 0) = false := by simpa using hp
      have h7 := pick_bound hv
      rw [hlen] at h7
      obtain ⟨P, hP⟩ : ∃ P : Nat, 2 ^ n = P := ⟨_, rfl⟩
      have hP1 : P ≤ 128 := by rw [← hP]; exact Nat.pow_le_pow_right (by omega) h7
      have hsh : Hid (((2 : Int) ^ n) = (P : Int)) := by show _ = _; rw [← hP]; simp
      have hr : Hid (pkV qs p = pkTo qs p 0 P) := by show _ = _; unfold pkV; rw [if_pos ⟨hv, by omega⟩, hlen, hP]
      have hbd : Hid (∀ s, 0 ≤ pkTo qs p 0 s ∧ pkTo qs p 0 s ≤ 7) := fun s => by have := pkTo_bd qs p (by omega) s; omega
      have HSV : Hid (∀ s, subTo qs s n = subV qs s) := fun s => by unfold subV; rw [hlen]
      obtain ⟨i0, hi, ia, ib, ic⟩ := info_parts infoBk
      clear hP hv hlen hp
      go_enter Tryd.func19, Tryd.ntmps19
      go_wp2_with (go_at_call 39; ((with_reducible refine (V _ h).mono ?_); rintro E w1 ⟨rfl, hb0⟩; clear V))
      go_loopw [5, 20] (fun f i wr => ∃ s : Nat, s ≤ P ∧ i = .int .i64 s ∧ f = .int .i64 (pkTo qs p 0 s) ∧ Below w.heap.size w wr) (fun _ i _ => P - (intOf i).toNat)
      case atStart => exact ⟨0, by omega, rfl, rfl, hb0⟩
      case round =>
        clear hb0
        obtain ⟨s, hs, rfl, rfl, hb⟩ := hrel
        by_cases hlt : s < P
        · have t0 : decide ((s : Int) < wrap64 (2 ^ n)) = true := by
            rw [hsh.out, show wrap64 (P : Int) = (P : Int) by unfold wrap64; omega]; simp; omega
          have hnx := show pkTo qs p 0 (s + 1) = if pkTo qs p 0 s < (subV qs s).length ∧ bmV (subV qs s) ≤ p then ((subV qs s).length : Int) else pkTo qs p 0 s from rfl
          have bd := hbd.out s
          obtain ⟨F, hF⟩ : ∃ F, pkTo qs p 0 s = F := ⟨_, rfl⟩
          rw [hF] at hnx bd ⊢
          have HN := Lib.hid hnx
          have T0 : PB 47 w wr (.slice none 0 0) 0 [] := ⟨hb, by simpa using World.ownsRow_nil wr w.heap.size 47 4, rfl⟩
          clear hF hnx hb
          go_wp2
          go_loopw [7, 25] (fun v i wx => ∃ (j m : Nat), i = .int .i64 j ∧ j ≤ n ∧ m ≤ j ∧ PB 47 w wx v m (subTo qs s j)) (fun _ i _ => n - (intOf i).toNat)
          case atStart => exact ⟨0, 0, rfl, by omega, by omega, T0⟩
          case round =>
            clear T0
            obtain ⟨j, m, rfl, hj, hm, T⟩ := hrel
            by_cases hlt2 : j < n
            · have an := p_and s j (by omega) (by omega)
              have hs1 := show subTo qs s (j + 1) = if s.testBit j then subTo qs s j ++ [qs.getD j q0] else subTo qs s j from rfl
              have hsz := T.1.size
              obtain ⟨nb, no, rfl, hnl, hnc⟩ := h.2 (by omega)
              obtain ⟨r0, r1, r2, r3⟩ := hnc j hlt2
              replace r0 := (T.1.cell (p := ⟨nb, no + j * 4, none⟩) hnl).trans r0
              replace r1 := (T.1.cell (p := ⟨nb, no + j * 4 + 1, none⟩) hnl).trans r1
              replace r2 := (T.1.cell (p := ⟨nb, no + j * 4 + 2, none⟩) hnl).trans r2
              replace r3 := (T.1.cell (p := ⟨nb, no + j * 4 + 3, none⟩) hnl).trans r3
              obtain ⟨q, hq⟩ : ∃ q, qs.getD j q0 = q := ⟨_, rfl⟩
              rw [hq] at r0 r1 r2 r3 hs1
              obtain ⟨xs, hxs⟩ : ∃ xs, subTo qs s j = xs := ⟨_, rfl⟩
              rw [hxs] at T hs1
              obtain ⟨a, b, c', d⟩ := q
              obtain ⟨G, c, rfl, g1, g2, _⟩ := o_books T.2.1 T.2.2
              have i1 : (0 : Int) ≤ (j : Int) := by omega
              have i2 : (j : Int) < (n : Int) := by omega
              have T1 := T.alloc (.cells #[.int .i64 a, .int .i64 b, .int .i64 c', .int .i64 d] 47)
              cases hbit : s.testBit j
              · rw [hbit] at an hs1
                obtain ⟨an1, an2⟩ := an
                have HS := Lib.hid hs1
                clear hs1 hbit hnc hq hxs
                go_wp2
                go_roundw
                case rel => exact ⟨j + 1, m, by go_num, hlt2, by omega, by rw [HS.out]; exact T1⟩
                case measure => simp [intOf]; omega
              · rw [hbit] at an hs1
                obtain ⟨an1, an2⟩ := an
                have HS := Lib.hid hs1
                clear hs1 hbit hnc hq hxs
                go_wp2_with (at_builtin; refine wpList_append_own _ rfl _ _ 37 rfl w.heap.size 47 i0 (.agg #[.int .i64 0, .int .i64 0, .int .i64 0, .int .i64 0]) 4 32 Tryd.underlying37 hi ia ib ic rfl (by decide) _ _ _ rfl (T1.2.1.alloc _) ⟨wr.heap.size + 1, 0, none⟩ 1 1 (Quad.cells ⟨a, b, c', d⟩) rfl rfl ?c1 ?c2 ?c3 ?c4 ?c5 ?_)
                case c1 => exact fun j u hj => hj
                case c2 => simp [Quad.cells, Value.oneCell']
                case c3 => unfold maxLen; omega
                case c4 => omega
                case c5 => first | omega | (simp; omega)
                intro v' w1 hown1 hgrow _
                have T' := T1.app hown1 hgrow
                clear hown1 hgrow T T1
                go_wp2
                go_roundw
                case rel => exact ⟨j + 1, m + 1, by go_num, hlt2, by omega, by rw [HS.out]; exact T'⟩
                case measure => simp [intOf]; omega
            · obtain rfl : j = n := by omega
              rw [HSV.out s] at T
              obtain ⟨xs, hxs⟩ : ∃ xs, subV qs s = xs := ⟨_, rfl⟩
              rw [hxs] at T HN
              obtain ⟨G, c, rfl, g1, g2, hX⟩ := o_books T.2.1 T.2.2
              have hml := hX.1
              have M0 := fun w h => BooksMost_i G m c xs w h (by omega) g1
              rw [hml] at HN
              obtain ⟨Z, hZ⟩ : ∃ Z, bmV xs = Z := ⟨_, rfl⟩
              rw [hZ] at M0 HN
              have hw := T.1
              clear hZ T hxs
              by_cases hF : F < m
              · have hFb : decide (F < (m : Int)) = true := by simpa using hF
                by_cases hz : Z ≤ p
                · have hzb : decide (Z ≤ p) = true := by simpa using hz
                  have e : Hid (pkTo qs p 0 (s + 1) = m) := by show _ = _; rw [HN.out, if_pos ⟨hF, hz⟩]
                  clear HN hz hF
                  go_wp2_with (go_at_call 21; ((with_reducible refine (M0 _ hX).mono ?_); rintro E wk ⟨rfl, hb⟩; replace hw := bt hw hb; clear hb))
                  go_roundw
                  case rel => exact ⟨s + 1, hlt, by go_num, by rw [e.out], hw⟩
                  case measure => simp [intOf]; omega
                · have hzb : decide (Z ≤ p) = false := by simpa using hz
                  have e : Hid (pkTo qs p 0 (s + 1) = F) := by show _ = _; rw [HN.out, if_neg (fun g => hz g.2)]
                  clear HN hz hF
                  go_wp2_with (go_at_call 21; ((with_reducible refine (M0 _ hX).mono ?_); rintro E wk ⟨rfl, hb⟩; replace hw := bt hw hb; clear hb))
                  go_roundw
                  case rel => exact ⟨s + 1, hlt, by go_num, by rw [e.out], hw⟩
                  case measure => simp [intOf]; omega
              · have hFb : decide (F < (m : Int)) = false := by simpa using hF
                have e : Hid (pkTo qs p 0 (s + 1) = F) := by show _ = _; rw [HN.out, if_neg (fun g => hF g.1)]
                clear HN hF
                go_wp2
                go_roundw
                case rel => exact ⟨s + 1, hlt, by go_num, by rw [e.out], hw⟩
                case measure => simp [intOf]; omega
        · obtain rfl : s = P := by omega
          have t0 : decide ((s : Int) < wrap64 (2 ^ n)) = false := by
            rw [hsh.out, show wrap64 (s : Int) = (s : Int) by unfold wrap64; omega]; simp
          go_wp2
          go_ret
          exact ⟨ret_int (by rw [hr.out]), hb⟩
  · have hv' : bsV qs = false := by simpa using hv
    rw [hv'] at V
    have hr : Hid (pkV qs p = -1) := by show _ = _; unfold pkV; rw [if_neg (fun g => hv g.1)]
    clear hv hv'
    go_enter Tryd.func19, Tryd.ntmps19
    go_wp2_with (go_at_call 39; ((with_reducible refine (V _ h).mono ?_); rintro E w1 ⟨rfl, hb⟩))
    go_ret
    exact ⟨ret_int (by rw [hr.out]), hb⟩
end Go.Proofs.YtghfdkalblipgaaDoor
