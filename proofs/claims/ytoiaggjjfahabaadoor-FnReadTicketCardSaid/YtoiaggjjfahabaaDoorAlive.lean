/- laws.alive: it returns true in every world. Condition: none. -/
import Derived.Test.YtoiaggjjfahabaaDoorBuild
namespace Go.Proofs.YtoiaggjjfahabaaDoor
open Go.RowKit
set_option linter.unusedVariables false

/-- the marks after k cells -/
def seenAt (k j : Nat) : Bool := decide (j = 7 ∧ 2 ≤ k)
def SeenOf (cs : Array Value) (k : Nat) : Prop := ∀ j, j < 100 → cs[j]? = some (.bool (seenAt k j))
def SeenH (w : World) (b k : Nat) : Prop := ∃ cs, Blk w b 130 cs ∧ SeenOf cs k
theorem zero_seen : SeenOf Tryd.zeroCells130 0 := by
  have h : Tryd.zeroCells130 = (List.replicate 100 (Value.bool false)).toArray := by kernel_rfl
  intro j hj
  rw [h, List.getElem?_toArray, List.getElem?_replicate, if_pos hj]
  simp [seenAt]
theorem seen_step {w : World} {b k : Nat} {cs : Array Value} (hcs : Blk w b 130 cs) (hs : SeenOf cs k) (i : Nat) (v : Bool) (hi : i < 100) (hv : ∀ j, j < 100 → seenAt (k + 1) j = if i = j then v else seenAt k j) : SeenH (w.setCell ⟨b, i, none⟩ (.bool v)) b (k + 1) := by
  refine ⟨_, hcs.set_ i (.bool v), fun j hj => ?_⟩
  rw [hv j hj]
  have h0 := hs i hi
  have hlt : i < cs.size := by
    rcases Nat.lt_or_ge i cs.size with h | h
    · exact h
    · rw [Array.getElem?_eq_none h] at h0; cases h0
  rw [Array.getElem?_setIfInBounds]
  by_cases hij : i = j
  · subst hij; simp [hlt]
  · simp [hij, hs j hj]

theorem hall_valid (g cap : Nat) (w : World) (hg : Blk w g 3 (ints [0, 7, 0, 0])) :
    Calls Tryd.prog 91 #[.agg #[.int .i64 2, .int .i64 2, .slice (some ⟨g, 0, none⟩) 4 cap]] w fun e w' => e = .returned (.bool true) ∧ Below w.heap.size w w' := by
  have c0 : w.cell? ⟨g, 0, none⟩ = some (.int .i64 0) := hg.int_cell (k := 0) (by decide)
  have c1 : w.cell? ⟨g, 1, none⟩ = some (.int .i64 7) := hg.int_cell (k := 1) (by decide)
  have c2 : w.cell? ⟨g, 2, none⟩ = some (.int .i64 0) := hg.int_cell (k := 2) (by decide)
  have c3 : w.cell? ⟨g, 3, none⟩ = some (.int .i64 0) := hg.int_cell (k := 3) (by decide)
  go_enter Tryd.func91, Tryd.ntmps91
  go_wp2
  go_loopw [38] (fun i wr => ∃ k : Nat, k ≤ 4 ∧ i = .int .i64 k ∧ SeenH wr (w.heap.size + 1) k ∧ Below w.heap.size w wr) (fun i _ => 4 - (intOf i).toNat)
  case atStart =>
    refine ⟨0, by omega, rfl, ⟨_, ?_, zero_seen⟩, by (repeat (first | exact Below.refl _ _ | assumption | refine Below.alloc ?_ (by first | omega | (simp; done) | (simp; omega)) _ | refine Below.drew ?_ | refine bdN ?_ _ | refine Below.setCell ?_ (by first | omega | (simp; done) | (simp; omega)) _))⟩
    have h1 := Blk.new (w.alloc (Obj.cells #[Value.int IntKind.i64 2, Value.int IntKind.i64 2, Value.slice (some { block := g, off := 0 }) 4 cap] 74)) 130 Tryd.zeroCells130
    simpa using h1
  case round =>
    obtain ⟨k, hk, rfl, ⟨cs, hcs, hsee⟩, hb⟩ := hrel
    have d0 := (hb.cell (p := ⟨g, 0, none⟩) hg.lt).trans c0
    have d1 := (hb.cell (p := ⟨g, 1, none⟩) hg.lt).trans c1
    have d2 := (hb.cell (p := ⟨g, 2, none⟩) hg.lt).trans c2
    have d3 := (hb.cell (p := ⟨g, 3, none⟩) hg.lt).trans c3
    have e0 := (hcs.cell 0).trans (hsee 0 (by decide))
    have e7 := (hcs.cell 7).trans (hsee 7 (by decide))
    have f0 := hcs.frozen 0
    have f7 := hcs.frozen 7
    have hsz := hb.size
    have HB := Lib.hid hb
    have HC := Lib.hid hcs
    have HS := Lib.hid hsee
    clear hb hcs hsee
    obtain rfl | rfl | rfl | rfl | rfl : k = 0 ∨ k = 1 ∨ k = 2 ∨ k = 3 ∨ k = 4 := by omega
    · simp [seenAt] at e0 e7
      go_wp2
      go_roundw
      case rel => exact ⟨1, by omega, rfl, seen_step HC.out HS.out 0 false (by decide) (by decide), by have hb := HB.out; (repeat (first | exact Below.refl _ _ | assumption | refine Below.alloc ?_ (by first | omega | (simp; done) | (simp; omega)) _ | refine Below.drew ?_ | refine bdN ?_ _ | refine Below.setCell ?_ (by first | omega | (simp; done) | (simp; omega)) _))⟩
      case measure => decide
    · simp [seenAt] at e0 e7
      go_wp2
      go_roundw
      case rel => exact ⟨2, by omega, rfl, seen_step HC.out HS.out 7 true (by decide) (by decide), by have hb := HB.out; (repeat (first | exact Below.refl _ _ | assumption | refine Below.alloc ?_ (by first | omega | (simp; done) | (simp; omega)) _ | refine Below.drew ?_ | refine bdN ?_ _ | refine Below.setCell ?_ (by first | omega | (simp; done) | (simp; omega)) _))⟩
      case measure => decide
    · simp [seenAt] at e0 e7
      go_wp2
      go_roundw
      case rel => exact ⟨3, by omega, rfl, seen_step HC.out HS.out 0 false (by decide) (by decide), by have hb := HB.out; (repeat (first | exact Below.refl _ _ | assumption | refine Below.alloc ?_ (by first | omega | (simp; done) | (simp; omega)) _ | refine Below.drew ?_ | refine bdN ?_ _ | refine Below.setCell ?_ (by first | omega | (simp; done) | (simp; omega)) _))⟩
      case measure => decide
    · simp [seenAt] at e0 e7
      go_wp2
      go_roundw
      case rel => exact ⟨4, by omega, rfl, seen_step HC.out HS.out 0 false (by decide) (by decide), by have hb := HB.out; (repeat (first | exact Below.refl _ _ | assumption | refine Below.alloc ?_ (by first | omega | (simp; done) | (simp; omega)) _ | refine Below.drew ?_ | refine bdN ?_ _ | refine Below.setCell ?_ (by first | omega | (simp; done) | (simp; omega)) _))⟩
      case measure => decide
    · go_wp2
      go_ret
      exact ⟨rfl, HB.out⟩
/-- what is written after k cells -/
def txt : Nat → List Value
  | 0 => []
  | 1 => [.int .u8 46]
  | 2 => [.int .u8 46, .int .u8 44, .int .u8 55]
  | 3 => [.int .u8 46, .int .u8 44, .int .u8 55, .int .u8 47, .int .u8 46]
  | _ => [.int .u8 46, .int .u8 44, .int .u8 55, .int .u8 47, .int .u8 46, .int .u8 44, .int .u8 46]
theorem hall_text (g cap : Nat) (w : World) (hg : Blk w g 3 (ints [0, 7, 0, 0])) :
    Calls Tryd.prog 55 #[.agg #[.int .i64 2, .int .i64 2, .slice (some ⟨g, 0, none⟩) 4 cap]] w fun e w' => e = .returned (.string ⟨#[46, 44, 55, 47, 46, 44, 46]⟩) ∧ Below w.heap.size w w' := by
  have c0 : w.cell? ⟨g, 0, none⟩ = some (.int .i64 0) := hg.int_cell (k := 0) (by decide)
  have c1 : w.cell? ⟨g, 1, none⟩ = some (.int .i64 7) := hg.int_cell (k := 1) (by decide)
  have c2 : w.cell? ⟨g, 2, none⟩ = some (.int .i64 0) := hg.int_cell (k := 2) (by decide)
  have c3 : w.cell? ⟨g, 3, none⟩ = some (.int .i64 0) := hg.int_cell (k := 3) (by decide)
  go_enter Tryd.func55, Tryd.ntmps55
  have hH := Blk.new w 74 #[Value.int IntKind.i64 2, Value.int IntKind.i64 2, Value.slice (some { block := g, off := 0 }) 4 cap]
  have hgl := hg.lt
  go_wp2_with (go_at_call 91; refine (hall_valid g cap _ (hg.alloc _)).mono ?_; rintro e w1 ⟨rfl, hb⟩; have hH1 := hH.below hb hH.lt; have p0 := hH1.cell 0; have p2 := hH1.cell 2; have hsz := hb.size; simp at hsz p0 p2; have q2 := (((Below.refl w1.heap.size w1).alloc (Nat.le_refl _) (Obj.cells #[Value.pointer none, Value.slice none 0 0] 100)).cell (p := ⟨w.heap.size, 2, none⟩) hsz).trans p2)
  have hw : Below w.heap.size w w1 := ((Below.refl w.heap.size w).alloc (Nat.le_refl _) _).trans (hb.mono (by simp))
  have hg1 : Blk w1 g 3 (ints [0, 7, 0, 0]) := hg.below hw hgl
  have HW := Lib.hid hw
  clear hb hw hg hH c0 c1 c2 c3
  have c0 : w1.cell? ⟨g, 0, none⟩ = some (.int .i64 0) := hg1.int_cell (k := 0) (by decide)
  have c1 : w1.cell? ⟨g, 1, none⟩ = some (.int .i64 7) := hg1.int_cell (k := 1) (by decide)
  have c2 : w1.cell? ⟨g, 2, none⟩ = some (.int .i64 0) := hg1.int_cell (k := 2) (by decide)
  have c3 : w1.cell? ⟨g, 3, none⟩ = some (.int .i64 0) := hg1.int_cell (k := 3) (by decide)
  have hgl1 := hg1.lt
  go_loopw [12] (fun i wr => ∃ k : Nat, k ≤ 4 ∧ i = .int .i64 k ∧ Lib.IsBuilder 100 5 w1.heap.size w1.heap.size (txt k) wr ∧ Below w1.heap.size w1 wr) (fun i _ => 4 - (intOf i).toNat)
  case atStart => exact ⟨0, by omega, rfl, Lib.fresh_isBuilder _ _ w1, by (repeat (first | exact Below.refl _ _ | assumption | refine Below.alloc ?_ (by first | omega | (simp; done) | (simp; omega)) _ | refine Below.drew ?_ | refine bdN ?_ _ | refine Below.setCell ?_ (by first | omega | (simp; done) | (simp; omega)) _))⟩
  case round =>
    obtain ⟨k, hk, rfl, hB, hb⟩ := hrel
    have d0 := (hb.cell (p := ⟨g, 0, none⟩) hgl1).trans c0
    have d1 := (hb.cell (p := ⟨g, 1, none⟩) hgl1).trans c1
    have d2 := (hb.cell (p := ⟨g, 2, none⟩) hgl1).trans c2
    have d3 := (hb.cell (p := ⟨g, 3, none⟩) hgl1).trans c3
    have q0 := (hb.cell (p := ⟨w.heap.size, 0, none⟩) hsz).trans p0
    have hszr := hb.size
    have HB := Lib.hid hb
    have HI := Lib.hid hB
    clear hb hB
    obtain rfl | rfl | rfl | rfl | rfl : k = 0 ∨ k = 1 ∨ k = 2 ∨ k = 3 ∨ k = 4 := by omega
    · go_wp2_with (go_at_call 92; refine (sb_byte _ _ _ _ _ HI.out (by decide) hszr).mono ?_; rintro e w2 ⟨rfl, h2, hb2⟩)
      go_roundw
      case rel => exact ⟨1, by omega, rfl, .inr h2, HB.out.trans hb2⟩
      case measure => decide
    · go_wp2_with (go_at_call 92; refine (sb_byte _ _ _ _ _ HI.out (by decide) hszr).mono ?_; rintro e w2 ⟨rfl, h2, hb2⟩)
      go_wp2_with (go_at_call 46; refine (Tryd.strconv_Itoa_small 7 (by decide) _).mono ?_; rintro e w3 ⟨he, rfl⟩; rw [show Lib.decDigits 7 = [55] by rw [Lib.decDigits]; rfl] at he; subst he)
      go_wp2_with (go_at_call 85; (refine (sb_text _ _ _ _ _ (.inr h2) (by decide) (Nat.le_trans hszr hb2.size)).mono ?_; rintro e w3 ⟨rfl, h3, hb3⟩))
      go_roundw
      case rel => exact ⟨2, by omega, rfl, .inr h3, (HB.out.trans hb2).trans hb3⟩
      case measure => decide
    · go_wp2_with (go_at_call 92; refine (sb_byte _ _ _ _ _ HI.out (by decide) hszr).mono ?_; rintro e w2 ⟨rfl, h2, hb2⟩)
      go_wp2_with (go_at_call 92; (refine (sb_byte _ _ _ _ _ (.inr h2) (by decide) (Nat.le_trans hszr hb2.size)).mono ?_; rintro e w3 ⟨rfl, h3, hb3⟩))
      go_roundw
      case rel => exact ⟨3, by omega, rfl, .inr h3, (HB.out.trans hb2).trans hb3⟩
      case measure => decide
    · go_wp2_with (go_at_call 92; refine (sb_byte _ _ _ _ _ HI.out (by decide) hszr).mono ?_; rintro e w2 ⟨rfl, h2, hb2⟩)
      go_wp2_with (go_at_call 92; (refine (sb_byte _ _ _ _ _ (.inr h2) (by decide) (Nat.le_trans hszr hb2.size)).mono ?_; rintro e w3 ⟨rfl, h3, hb3⟩))
      go_roundw
      case rel => exact ⟨4, by omega, rfl, .inr h3, (HB.out.trans hb2).trans hb3⟩
      case measure => decide
    · go_wp2_with (go_at_call 87; refine (Tryd.Builder_String_any w1.heap.size _ [46, 44, 55, 47, 46, 44, 46] _ HI.out hszr).mono ?_; rintro e w2 ⟨rfl, hb2⟩)
      go_ret
      exact ⟨rfl, HW.out.trans ((HB.out.trans hb2).mono (by omega))⟩
set_option maxRecDepth 100000 in
theorem hall_valid0 (w : World) : Calls Tryd.prog 91 #[.agg #[.int .i64 0, .int .i64 0, .slice none 0 0]] w fun e w' => e = .returned (.bool false) ∧ Below w.heap.size w w' := by
  go_enter Tryd.func91, Tryd.ntmps91
  go_wp2
  go_ret
  exact ⟨rfl, by (repeat (first | exact Below.refl _ _ | assumption | refine Below.alloc ?_ (by first | omega | (simp; done) | (simp; omega)) _ | refine Below.drew ?_ | refine bdN ?_ _ | refine Below.setCell ?_ (by first | omega | (simp; done) | (simp; omega)) _))⟩
set_option maxRecDepth 100000 in
theorem hall_text0 (w : World) : Calls Tryd.prog 55 #[.agg #[.int .i64 0, .int .i64 0, .slice none 0 0]] w fun e w' => e = .returned (.string ⟨#[]⟩) ∧ Below w.heap.size w w' := by
  go_enter Tryd.func55, Tryd.ntmps55
  go_wp2_with (go_at_call 91; refine (hall_valid0 _).mono ?_; rintro e w1 ⟨rfl, hb⟩)
  go_ret
  exact ⟨rfl, ((Below.refl w.heap.size w).alloc (Nat.le_refl _) _).trans (hb.mono (by simp))⟩
def HallT (w : World) (v : Value) (s : ByteArray) : Prop :=
  (∃ g cap, v = .agg #[.int .i64 2, .int .i64 2, .slice (some ⟨g, 0, none⟩) 4 cap] ∧ Blk w g 3 (ints [0, 7, 0, 0]) ∧ s = ⟨#[46, 44, 55, 47, 46, 44, 46]⟩) ∨ (v = .agg #[.int .i64 0, .int .i64 0, .slice none 0 0] ∧ s = ⟨#[]⟩)
theorem hall_textA (w : World) (v : Value) (s : ByteArray) (h : HallT w v s) : Calls Tryd.prog 55 #[v] w fun e w' => e = .returned (.string s) ∧ Below w.heap.size w w' := by
  rcases h with ⟨g, cap, rfl, hg, rfl⟩ | ⟨rfl, rfl⟩
  · exact hall_text g cap w hg
  · exact hall_text0 w
end Go.Proofs.YtoiaggjjfahabaaDoor
