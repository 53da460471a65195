/- CoinsGreedy: what it computes, of the program and of the reference; results that are a new slice of ints and a bool. No condition but the length. -/
import Derived.Test.YtjijaejlcbailaaDoorCoin
namespace Go.Proofs.YtjijaejlcbailaaDoor
open Go.RowKit

/-- a result ([]int, bool): the slice reads as xs and lies in new memory -/
def ResI (w : World) (xs : List Int) (ok : Bool) (e : Ending) (w' : World) : Prop :=
  ∃ A c, e = .returned (.tuple #[.slice A xs.length c, .bool ok]) ∧ Ints w' A xs.length xs ∧ (0 < xs.length → ∃ g, A = some ⟨g, 0, none⟩ ∧ w.heap.size ≤ g ∧ Blk w' g 3 (ints xs)) ∧ Below w.heap.size w w'
/-- what is left of the amount when the last j kinds have been taken -/
def gl (zs : List Int) (a : Int) : Nat → Int
  | 0 => a
  | j + 1 => gl zs a j % zs[zs.length - 1 - j]?.getD 0
def gm (zs : List Int) (a : Int) : List Int := (List.range zs.length).map fun i => gl zs a (zs.length - 1 - i) / zs[i]?.getD 0
def gOk (zs : List Int) (a : Int) : Bool := decide (cv zs = true ∧ 0 ≤ a ∧ a ≤ 300 ∧ gl zs a zs.length ≤ 0)
def gV (zs : List Int) (a : Int) : List Int := if gOk zs a = true then gm zs a else []
theorem gm_len (zs : List Int) (a : Int) : (gm zs a).length = zs.length := by simp [gm]
theorem gm_at (zs : List Int) (a : Int) (i : Nat) (h : i < zs.length) : (gm zs a)[i]? = some (gl zs a (zs.length - 1 - i) / zs[i]?.getD 0) := by
  simp [gm, h]
theorem gl_bd (zs : List Int) (a : Int) (h0 : 0 ≤ a) (h1 : a ≤ 300) (hz : ∀ i, i < zs.length → 1 ≤ zs[i]?.getD 0 ∧ zs[i]?.getD 0 ≤ 99) (j : Nat) (hj : j ≤ zs.length) : 0 ≤ gl zs a j ∧ gl zs a j ≤ 300 := by
  induction j with
  | zero => exact ⟨h0, h1⟩
  | succ j ih =>
    have i1 := ih (by omega)
    have i2 := hz (zs.length - 1 - j) (by omega)
    unfold gl
    have b1 := Int.emod_nonneg (gl zs a j) (show zs[zs.length - 1 - j]?.getD 0 ≠ 0 by omega)
    have b2 := Int.emod_lt_of_pos (gl zs a j) (show 0 < zs[zs.length - 1 - j]?.getD 0 by omega)
    omega
def gRow (zs : List Int) (a : Int) (j : Nat) : List Int := List.replicate (zs.length - j) 0 ++ (gm zs a).drop (zs.length - j)
theorem gRow_len (zs : List Int) (a : Int) (j : Nat) (hj : j ≤ zs.length) : (gRow zs a j).length = zs.length := by simp [gRow, gm_len]
theorem gRow_set (zs : List Int) (a : Int) (j : Nat) (hj : j < zs.length) : (gRow zs a j).set (zs.length - 1 - j) (gl zs a j / zs[zs.length - 1 - j]?.getD 0) = gRow zs a (j + 1) := by
  have e1 : zs.length - j = zs.length - 1 - j + 1 := by omega
  have e2 : zs.length - (j + 1) = zs.length - 1 - j := by omega
  have hd : (gm zs a).drop (zs.length - 1 - j) = (gl zs a j / zs[zs.length - 1 - j]?.getD 0) :: (gm zs a).drop (zs.length - 1 - j + 1) := by
    have hl : zs.length - 1 - j < (gm zs a).length := by rw [gm_len]; omega
    rw [List.drop_eq_getElem_cons hl]
    congr 1
    have := gm_at zs a (zs.length - 1 - j) (by omega)
    rw [List.getElem?_eq_getElem hl, show zs.length - 1 - (zs.length - 1 - j) = j by omega] at this
    exact Option.some.inj this
  unfold gRow
  rw [e2, hd, e1, List.replicate_succ', List.append_assoc, List.set_append_right _ _ (by simp)]
  simp
theorem gRow_last (zs : List Int) (a : Int) : gRow zs a zs.length = gm zs a := by simp [gRow]
theorem gV_no {zs : List Int} {a : Int} (h : ¬ (cv zs = true ∧ 0 ≤ a ∧ a ≤ 300)) : gV zs a = [] ∧ gOk zs a = false := by
  have : gOk zs a = false := by unfold gOk; rw [decide_eq_false_iff_not]; rintro ⟨g1, g2, g3, _⟩; exact h ⟨g1, g2, g3⟩
  exact ⟨by simp [gV, this], this⟩
theorem ResI.nil (w w' : World) (c : Nat) (A : Option Addr) (ok : Bool) (hb : Below w.heap.size w w') : ResI w [] ok (.returned (.tuple #[.slice A 0 c, .bool ok])) w' :=
  ⟨A, c, rfl, ⟨rfl, fun h => absurd h (by simp)⟩, fun h => absurd h (by simp), hb⟩
theorem CoinsGreedy_i_no (A : Option Addr) (n cap : Nat) (zs : List Int) (m : Int) (w : World) (h : Ints w A n zs) (hn : n ≤ 1048576) (hx : ¬ (cv zs = true ∧ 0 ≤ m ∧ m ≤ 300)) :
    Calls Tryd.prog 38 #[.slice A n cap, .int .i64 m] w (ResI w [] false) := by
  rcases (show cv zs = false ∨ (cv zs = true ∧ m < 0) ∨ (cv zs = true ∧ 0 ≤ m ∧ 300 < m) from by revert hx; cases cv zs <;> simp <;> omega) with g | ⟨g, g1⟩ | ⟨g, g1, g2⟩
  all_goals
    clear hx
    go_enter Tryd.func38, Tryd.ntmps38
    go_wp2_with (go_at_call 20; refine (CoinsValid_i _ _ _ _ _ h (by omega)).mono ?_; rintro e w' ⟨rfl, hb⟩)
    go_ret2
    exact ResI.nil _ _ _ _ _ hb
theorem CoinsGreedy_s_no (A : Option Addr) (n cap : Nat) (zs : List Int) (m : Int) (w : World) (h : Ints w A n zs) (hn : n ≤ 1048576) (hx : ¬ (cv zs = true ∧ 0 ≤ m ∧ m ≤ 300)) :
    Calls Tryd.prog 39 #[.slice A n cap, .int .i64 m] w (ResI w [] false) := by
  rcases (show cv zs = false ∨ (cv zs = true ∧ ¬ (0 ≤ m ∧ m ≤ 300)) from by revert hx; cases cv zs <;> simp) with g | ⟨g, g1⟩
  all_goals
    clear hx
    try have hr : inR m 0 300 = false := inR_no g1
    try clear g1
    go_enter Tryd.func39, Tryd.ntmps39
    go_wp2_with (first | (go_at_call 21; refine (CoinsValid_s _ _ _ _ _ h (by omega)).mono ?_; rintro e w' ⟨rfl, hb⟩; have hz := hb.size) | (go_at_call 65; refine (l1In_any _ _ _ _).mono ?_; rintro e w' ⟨rfl, rfl⟩))
    go_ret2
    exact ResI.nil _ _ _ _ _ (by (repeat (first | exact Below.refl _ _ | assumption | refine Below.alloc ?_ (by first | omega | (simp; done) | (simp; omega)) _ | refine Below.drew ?_ | refine bdN ?_ _ | refine Below.setCell ?_ (by first | omega | (simp; done) | (simp; omega)) _)))
set_option maxHeartbeats 1000000 in
theorem CoinsGreedy_i_yes (A : Option Addr) (n cap : Nat) (zs : List Int) (a : Int) (w : World) (h : Ints w A n zs) (hv : cv zs = true) (h0 : 0 ≤ a) (h1 : a ≤ 300) :
    Calls Tryd.prog 38 #[.slice A n cap, .int .i64 a] w (ResI w (gV zs a) (gOk zs a)) := by
  obtain ⟨v1, v2, v3⟩ := cv_at hv
  rw [h.1] at v1 v2
  have V3 : Hid (∀ i, i < zs.length → 1 ≤ zs[i]?.getD 0 ∧ zs[i]?.getD 0 ≤ 99) := v3
  have Gb := Lib.hid (gl_bd zs a h0 h1 v3)
  clear v3
  have hmk := run_make_row' (P := Tryd.prog) 30 3 (.int .i64 0) 8 Tryd.underlying30 infoInt rfl .i64 .i64 n (by omega) (by omega)
  go_enter Tryd.func38, Tryd.ntmps38
  go_wp2_with (go_at_call 20; refine (CoinsValid_i _ _ _ _ _ h (by omega)).mono ?_; rintro e w1 ⟨rfl, hb1⟩)
  clear hmk
  replace h := h.below hb1
  have hB0 : Blk (w1.alloc (.cells (madeCells #[.int .i64 0] n) 3)) w1.heap.size 3 (ints (gRow zs a 0)) := by
    have e : gRow zs a 0 = List.replicate n (0 : Int) := by simp [gRow, gm_len, h.1, List.drop_eq_nil_of_le]
    rw [e, ← ints_made]; exact Blk.new _ _ _
  go_loopw [7, 8] (fun l i wr => ∃ j : Nat, j ≤ n ∧ i = .int .i64 ((n : Int) - 1 - j) ∧ l = .int .i64 (gl zs a j) ∧ Blk wr w1.heap.size 3 (ints (gRow zs a j)) ∧ Below w1.heap.size w1 wr) (fun _ i _ => (intOf i + 1).toNat)
  case atStart => exact ⟨0, by omega, by simp, rfl, hB0, by (repeat (first | exact Below.refl _ _ | assumption | refine Below.alloc ?_ (by first | omega | (simp; done) | (simp; omega)) _ | refine Below.drew ?_ | refine bdN ?_ _ | refine Below.setCell ?_ (by first | omega | (simp; done) | (simp; omega)) _))⟩
  case round =>
    clear hB0
    obtain ⟨j, hj, rfl, rfl, hB, hb⟩ := hrel
    have gb := Gb.out j (by rw [h.1]; exact hj)
    by_cases hlt : j < n
    · obtain ⟨b, off, rfl, hbl, hc⟩ := h.2 (by omega)
      obtain ⟨k, hk⟩ : ∃ k, k = n - 1 - j := ⟨_, rfl⟩
      have ek : (n : Int) - 1 - j = k := by omega
      have hkn : k < n := by omega
      have HK := Lib.hid hk
      have z := V3.out k (by rw [h.1]; exact hkn)
      have hset := gRow_set zs a j (by rw [h.1]; exact hlt)
      rw [h.1, ← hk] at hset
      have hgl := show gl zs a (j + 1) = gl zs a j % zs[zs.length - 1 - j]?.getD 0 from rfl
      rw [h.1, ← hk] at hgl
      have Hset := Lib.hid hset
      have Hgl := Lib.hid hgl
      have c1 : wr.cell? ⟨b, off + k, none⟩ = some (.int .i64 (zs.getD k 0)) := (hb.cell (p := ⟨b, off + k, none⟩) hbl).trans (hc k hkn)
      have c2 := hB.int_cell (k := k) (by rw [gRow_len zs a j (by rw [h.1]; exact hj), h.1]; exact hkn)
      have c3 := hB.frozen k
      have hz0 : (zs[k]?.getD 0 == 0) = false := by simp; omega
      have hbne : ¬ b = w1.heap.size := by omega
      rw [ek]
      clear hc hk hset hgl
      go_wp2
      go_roundw
      case rel => exact ⟨j + 1, hlt, congrArg (Value.int .i64) (by have := HK.out; omega), by rw [Hgl.out], by rw [← Hset.out]; exact hB.int_set k _, by (repeat (first | exact Below.refl _ _ | assumption | refine Below.alloc ?_ (by first | omega | (simp; done) | (simp; omega)) _ | refine Below.drew ?_ | refine bdN ?_ _ | refine Below.setCell ?_ (by first | omega | (simp; done) | (simp; omega)) _))⟩
      case measure => simp [intOf]
    · obtain rfl : j = n := by omega
      have ej : (j : Int) - 1 - j = -1 := by omega
      rw [ej]
      have hB' : Blk wr w1.heap.size 3 (ints (gm zs a)) := by rw [← gRow_last, h.1]; exact hB
      have hbT := bt hb1 hb
      have hsz := hb1.size
      by_cases hg : 0 < gl zs a j
      · have hok : gOk zs a = false := by unfold gOk; rw [decide_eq_false_iff_not, h.1]; rintro ⟨_, _, _, g⟩; omega
        have hv0 : gV zs a = [] := by simp [gV, hok]
        have HV := Lib.hid hv0
        have HO := Lib.hid hok
        clear hv0 hok hB hB'
        go_wp2
        go_ret2
        rw [HV.out, HO.out]
        exact ResI.nil _ _ _ _ _ (by exact hbT)
      · have hok : gOk zs a = true := by unfold gOk; rw [decide_eq_true_iff, h.1]; exact ⟨hv, h0, h1, by omega⟩
        have hv0 : gV zs a = gm zs a := by simp [gV, hok]
        have hlen : (gm zs a).length = j := by rw [gm_len, h.1]
        have HL := Lib.hid hlen
        have HV := Lib.hid hv0
        have HO := Lib.hid hok
        clear hv0 hok hB hlen
        go_wp2
        go_ret2
        rw [HV.out, HO.out]
        exact ⟨some ⟨w1.heap.size, 0, none⟩, j, by rw [HL.out]; rfl, by rw [HL.out]; exact Ints.of_blk' hB' HL.out, fun _ => ⟨_, rfl, hsz, hB'⟩, hbT⟩
set_option maxHeartbeats 1000000 in
theorem CoinsGreedy_s_yes (A : Option Addr) (n cap : Nat) (zs : List Int) (a : Int) (w : World) (h : Ints w A n zs) (hv : cv zs = true) (h0 : 0 ≤ a) (h1 : a ≤ 300) :
    Calls Tryd.prog 39 #[.slice A n cap, .int .i64 a] w (ResI w (gV zs a) (gOk zs a)) := by
  obtain ⟨v1, v2, v3⟩ := cv_at hv
  rw [h.1] at v1 v2
  have V3 : Hid (∀ i, i < zs.length → 1 ≤ zs[i]?.getD 0 ∧ zs[i]?.getD 0 ≤ 99) := v3
  have Gb := Lib.hid (gl_bd zs a h0 h1 v3)
  clear v3
  have hmk := run_make_row' (P := Tryd.prog) 30 3 (.int .i64 0) 8 Tryd.underlying30 infoInt rfl .i64 .i64 n (by omega) (by omega)
  have hr : inR a 0 300 = true := inR_yes ⟨h0, h1⟩
  go_enter Tryd.func39, Tryd.ntmps39
  go_wp2_with (first | (go_at_call 21; refine (CoinsValid_s _ _ _ _ _ h (by omega)).mono ?_; rintro e w1 ⟨rfl, hb1⟩) | (go_at_call 65; refine (l1In_any _ _ _ _).mono ?_; rintro e w' ⟨rfl, rfl⟩))
  clear hmk
  replace h := h.below hb1
  have hB0 : Blk (w1.alloc (.cells (madeCells #[.int .i64 0] n) 3)) w1.heap.size 3 (ints (gRow zs a 0)) := by
    have e : gRow zs a 0 = List.replicate n (0 : Int) := by simp [gRow, gm_len, h.1, List.drop_eq_nil_of_le]
    rw [e, ← ints_made]; exact Blk.new _ _ _
  go_loopw [1, 7] (fun l i wr => ∃ j : Nat, j ≤ n ∧ i = .int .i64 ((n : Int) - 1 - j) ∧ l = .int .i64 (gl zs a j) ∧ Blk wr w1.heap.size 3 (ints (gRow zs a j)) ∧ Below w1.heap.size w1 wr) (fun _ i _ => (intOf i + 1).toNat)
  case atStart => exact ⟨0, by omega, by simp, rfl, hB0, by (repeat (first | exact Below.refl _ _ | assumption | refine Below.alloc ?_ (by first | omega | (simp; done) | (simp; omega)) _ | refine Below.drew ?_ | refine bdN ?_ _ | refine Below.setCell ?_ (by first | omega | (simp; done) | (simp; omega)) _))⟩
  case round =>
    clear hB0
    obtain ⟨j, hj, rfl, rfl, hB, hb⟩ := hrel
    have gb := Gb.out j (by rw [h.1]; exact hj)
    by_cases hlt : j < n
    · obtain ⟨b, off, rfl, hbl, hc⟩ := h.2 (by omega)
      obtain ⟨k, hk⟩ : ∃ k, k = n - 1 - j := ⟨_, rfl⟩
      have ek : (n : Int) - 1 - j = k := by omega
      have hkn : k < n := by omega
      have HK := Lib.hid hk
      have z := V3.out k (by rw [h.1]; exact hkn)
      have hset := gRow_set zs a j (by rw [h.1]; exact hlt)
      rw [h.1, ← hk] at hset
      have hgl := show gl zs a (j + 1) = gl zs a j % zs[zs.length - 1 - j]?.getD 0 from rfl
      rw [h.1, ← hk] at hgl
      have Hset := Lib.hid hset
      have Hgl := Lib.hid hgl
      have c1 : wr.cell? ⟨b, off + k, none⟩ = some (.int .i64 (zs.getD k 0)) := (hb.cell (p := ⟨b, off + k, none⟩) hbl).trans (hc k hkn)
      have c2 := hB.int_cell (k := k) (by rw [gRow_len zs a j (by rw [h.1]; exact hj), h.1]; exact hkn)
      have c3 := hB.frozen k
      have hz0 : (zs[k]?.getD 0 == 0) = false := by simp; omega
      have hbne : ¬ b = w1.heap.size := by omega
      rw [ek]
      clear hc hk hset hgl
      go_wp2
      go_roundw
      case rel => exact ⟨j + 1, hlt, congrArg (Value.int .i64) (by have := HK.out; omega), by rw [Hgl.out], by rw [← Hset.out]; exact hB.int_set k _, by (repeat (first | exact Below.refl _ _ | assumption | refine Below.alloc ?_ (by first | omega | (simp; done) | (simp; omega)) _ | refine Below.drew ?_ | refine bdN ?_ _ | refine Below.setCell ?_ (by first | omega | (simp; done) | (simp; omega)) _))⟩
      case measure => simp [intOf]
    · obtain rfl : j = n := by omega
      have ej : (j : Int) - 1 - j = -1 := by omega
      rw [ej]
      have hB' : Blk wr w1.heap.size 3 (ints (gm zs a)) := by rw [← gRow_last, h.1]; exact hB
      have hbT := bt hb1 hb
      have hsz := hb1.size
      by_cases hg : 0 < gl zs a j
      · have hok : gOk zs a = false := by unfold gOk; rw [decide_eq_false_iff_not, h.1]; rintro ⟨_, _, _, g⟩; omega
        have hv0 : gV zs a = [] := by simp [gV, hok]
        have HV := Lib.hid hv0
        have HO := Lib.hid hok
        clear hv0 hok hB hB'
        go_wp2
        go_ret2
        rw [HV.out, HO.out]
        exact ResI.nil _ _ _ _ _ (by have hz := hbT.size; (repeat (first | exact Below.refl _ _ | assumption | refine Below.alloc ?_ (by first | omega | (simp; done) | (simp; omega)) _ | refine Below.drew ?_ | refine bdN ?_ _ | refine Below.setCell ?_ (by first | omega | (simp; done) | (simp; omega)) _)))
      · have hok : gOk zs a = true := by unfold gOk; rw [decide_eq_true_iff, h.1]; exact ⟨hv, h0, h1, by omega⟩
        have hv0 : gV zs a = gm zs a := by simp [gV, hok]
        have hlen : (gm zs a).length = j := by rw [gm_len, h.1]
        have HL := Lib.hid hlen
        have HV := Lib.hid hv0
        have HO := Lib.hid hok
        clear hv0 hok hB hlen
        go_wp2
        go_ret2
        rw [HV.out, HO.out]
        exact ⟨some ⟨w1.heap.size, 0, none⟩, j, by rw [HL.out]; rfl, by rw [HL.out]; exact Ints.of_blk' hB' HL.out, fun _ => ⟨_, rfl, hsz, hB'⟩, hbT⟩
theorem CoinsGreedy_i (A : Option Addr) (n cap : Nat) (zs : List Int) (m : Int) (w : World) (h : Ints w A n zs) (hn : n ≤ 1048576) :
    Calls Tryd.prog 38 #[.slice A n cap, .int .i64 m] w (ResI w (gV zs m) (gOk zs m)) := by
  by_cases hx : cv zs = true ∧ 0 ≤ m ∧ m ≤ 300
  · exact CoinsGreedy_i_yes A n cap zs m w h hx.1 hx.2.1 hx.2.2
  · rw [(gV_no hx).1, (gV_no hx).2]; exact CoinsGreedy_i_no A n cap zs m w h hn hx
theorem CoinsGreedy_s (A : Option Addr) (n cap : Nat) (zs : List Int) (m : Int) (w : World) (h : Ints w A n zs) (hn : n ≤ 1048576) :
    Calls Tryd.prog 39 #[.slice A n cap, .int .i64 m] w (ResI w (gV zs m) (gOk zs m)) := by
  by_cases hx : cv zs = true ∧ 0 ≤ m ∧ m ≤ 300
  · exact CoinsGreedy_s_yes A n cap zs m w h hx.1 hx.2.1 hx.2.2
  · rw [(gV_no hx).1, (gV_no hx).2]; exact CoinsGreedy_s_no A n cap zs m w h hn hx
end Go.Proofs.YtjijaejlcbailaaDoor
