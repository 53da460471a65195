/- The walk of the law on PayStay. No condition. -/
import Derived.Test.YtaaaknklfenagaaPay
import Derived.Test.YtaaaknklfenagaaMem
import Derived.Deep.DeepCutAuto
namespace Go.Proofs.Ytaaaknklfenagaa
open Go.RowKit
set_option linter.unusedVariables false
theorem eqStay_any (a b c a' b' c' : Int) (w : World) :
    Calls Try.prog 31 #[.agg #[.int .i64 a, .int .i64 b, .int .i64 c], .agg #[.int .i64 a', .int .i64 b', .int .i64 c']] w fun e w' => e = .returned (.bool (decide (a = a' ∧ b = b' ∧ c = c'))) ∧ Below w.heap.size w w' := by
  go_enter Try.func31, Try.ntmps31
  go_wp2
  all_goals
    go_ret
    exact ⟨ret_bool (by simp_all), by (repeat (first | exact Below.refl _ _ | assumption | refine Below.alloc ?_ (by first | omega | (simp; done) | (simp; omega)) _ | refine Below.drew ?_ | refine bdN ?_ _ | refine Below.setCell ?_ (by first | omega | (simp; done) | (simp; omega)) _))⟩
/-- the two boxed arguments lie in b and b + 1, a third block in g; below b nothing has changed -/
def KS (w0 w : World) (A B : Array Value) (t u : TypeId) (g : Nat) (v : TypeId) (C : Array Value) : Prop := Below w0.heap.size w0 w ∧ Blk w w0.heap.size t A ∧ Blk w (w0.heap.size + 1) u B ∧ Blk w g v C
section
variable {w0 w w' : World} {A B C : Array Value} {t u v : TypeId} {g : Nat}
theorem KS.below (h : KS w0 w A B t u g v C) (hb : Below w.heap.size w w') : KS w0 w' A B t u g v C := ⟨bt h.1 hb, h.2.1.below hb h.2.1.lt, h.2.2.1.below hb h.2.2.1.lt, h.2.2.2.below hb h.2.2.2.lt⟩
theorem KS.alloc (h : KS w0 w A B t u g v C) (o : Obj) : KS w0 (w.alloc o) A B t u g v C := h.below ((Below.refl _ _).alloc (Nat.le_refl _) o)
theorem KS.drew (h : KS w0 w A B t u g v C) : KS w0 w.drew A B t u g v C := h.below (Below.refl _ _).drew
theorem KS.set (h : KS w0 w A B t u g v C) {q : Nat} (hq : w0.heap.size + 1 < q) (hg : g < q) (i : Nat) (x : Value) : KS w0 (w.setCell ⟨q, i, none⟩ x) A B t u g v C :=
  ⟨h.1.setCell (p := ⟨q, i, none⟩) (by show w0.heap.size ≤ q; omega) x, h.2.1.far (by show w0.heap.size ≠ q; omega) x, h.2.2.1.far (by show w0.heap.size + 1 ≠ q; omega) x, h.2.2.2.far (by show g ≠ q; omega) x⟩
theorem ks9 (h : KS w0 w A B t u g v C) {T : TypeId} {D : Array Value} (hb : Below (w.alloc (.cells D T)).heap.size (w.alloc (.cells D T)) w') : (w0.heap.size + 1 < w.heap.size ∧ g < w.heap.size) ∧ Blk w' w.heap.size T D :=
  ⟨⟨h.2.2.1.lt, h.2.2.2.lt⟩, (Blk.new _ _ _).below hb (by simp)⟩
theorem ks9d (h : KS w0 w A B t u g v C) {T : TypeId} {D : Array Value} (hb : Below (w.alloc (.cells D T)).drew.heap.size (w.alloc (.cells D T)).drew w') : (w0.heap.size + 1 < w.heap.size ∧ g < w.heap.size) ∧ Blk w' w.heap.size T D :=
  ⟨⟨h.2.2.1.lt, h.2.2.2.lt⟩, ((Blk.new _ _ _).drew).below hb (by simp)⟩
end
theorem payP_s {f s p c i q a m x pi pq pa pb : Int} {po : Bool} (h : Hid (payV f s p c i q a m x = ⟨pi, pq, pa, pb, po⟩)) (w : World) : Calls Try.prog 29 #[.agg #[.int .i64 f, .int .i64 s, .int .i64 p, .int .i64 c], .agg #[.int .i64 i, .int .i64 q, .int .i64 a], .int .i64 m, .int .i64 x] w fun e w' => e = .returned (.tuple #[.agg #[.int .i64 pi, .int .i64 pq, .int .i64 pa], .int .i64 pb, .bool po]) ∧ Below w.heap.size w w' := by
  have := PayStay_s f s p c i q a m x w
  rw [h.out] at this
  exact this
theorem payP_i {f s p c i q a m x pi pq pa pb : Int} {po : Bool} (h : Hid (payV f s p c i q a m x = ⟨pi, pq, pa, pb, po⟩)) (w : World) : Calls Try.prog 30 #[.agg #[.int .i64 f, .int .i64 s, .int .i64 p, .int .i64 c], .agg #[.int .i64 i, .int .i64 q, .int .i64 a], .int .i64 m, .int .i64 x] w fun e w' => e = .returned (.tuple #[.agg #[.int .i64 pi, .int .i64 pq, .int .i64 pa], .int .i64 pb, .bool po]) ∧ Below w.heap.size w w' := by
  have := PayStay_i f s p c i q a m x w
  rw [h.out] at this
  exact this
set_option maxRecDepth 100000 in
set_option maxHeartbeats 20000000 in
theorem FnExactPayStay_walk (x0_0 : Int) (_hx0_0 : In64 x0_0) (x0_1 : Int) (_hx0_1 : In64 x0_1) (x0_2 : Int) (_hx0_2 : In64 x0_2) (x0_3 : Int) (_hx0_3 : In64 x0_3) (x1_0 : Int) (_hx1_0 : In64 x1_0) (x1_1 : Int) (_hx1_1 : In64 x1_1) (x1_2 : Int) (_hx1_2 : In64 x1_2) (n2 : Int) (_h2 : In64 n2) (n3 : Int) (_h3 : In64 n3) (w : World) :
    Calls Try.prog 6 #[.agg #[.int .i64 x0_0, .int .i64 x0_1, .int .i64 x0_2, .int .i64 x0_3], .agg #[.int .i64 x1_0, .int .i64 x1_1, .int .i64 x1_2], .int .i64 n2, .int .i64 n3] w fun e w' => e = .returned (.bool true) ∧ Below w.heap.size w w' := by
  obtain ⟨⟨pi, pq, pa, pb, po⟩, hP⟩ : ∃ P, payV x0_0 x0_1 x0_2 x0_3 x1_0 x1_1 x1_2 n2 n3 = P := ⟨_, rfl⟩
  have HP := Lib.hid hP
  clear hP
  go_enter Try.func6, Try.ntmps6
  go_upto_region 1 with fail
  have k0 : KS w ((w.alloc (.cells #[.int .i64 x0_0, .int .i64 x0_1, .int .i64 x0_2, .int .i64 x0_3] 23)).alloc (.cells #[.int .i64 x1_0, .int .i64 x1_1, .int .i64 x1_2] 25)) #[.int .i64 x0_0, .int .i64 x0_1, .int .i64 x0_2, .int .i64 x0_3] #[.int .i64 x1_0, .int .i64 x1_1, .int .i64 x1_2] 23 25 w.heap.size 23 #[.int .i64 x0_0, .int .i64 x0_1, .int .i64 x0_2, .int .i64 x0_3] :=
    ⟨by (repeat (first | exact Below.refl _ _ | assumption | refine Below.alloc ?_ (by first | omega | (simp; done) | (simp; omega)) _ | refine Below.drew ?_ | refine bdN ?_ _ | refine Below.setCell ?_ (by first | omega | (simp; done) | (simp; omega)) _)), (Blk.new _ _ _).alloc _, by have := Blk.new (w.alloc (.cells #[.int .i64 x0_0, .int .i64 x0_1, .int .i64 x0_2, .int .i64 x0_3] 23)) 25 #[.int .i64 x1_0, .int .i64 x1_1, .int .i64 x1_2]; simpa using this, (Blk.new _ _ _).alloc _⟩
  generalize ((w.alloc (.cells #[.int .i64 x0_0, .int .i64 x0_1, .int .i64 x0_2, .int .i64 x0_3] 23)).alloc (.cells #[.int .i64 x1_0, .int .i64 x1_1, .int .i64 x1_2] 25)) = W at *
  have c4 := k0.2.1.cell
  have c5 := k0.2.2.1.cell
  have hz := k0.2.2.1.lt
  have hz0 := k0.2.1.lt
  have HK := Lib.hid k0
  clear k0
  go_cut [9, 10, 11] (fun s9 s10 s11 wx => ∃ g, s9 = .pointer (some ⟨g, 0, none⟩) ∧ s10 = .int .i64 pb ∧ s11 = .bool po ∧ (w.heap.size + 1 < g ∧ w.heap.size < g) ∧ Blk wx g 29 #[.int .i64 pi, .int .i64 pq, .int .i64 pa] ∧ KS w wx #[.int .i64 x0_0, .int .i64 x0_1, .int .i64 x0_2, .int .i64 x0_3] #[.int .i64 x1_0, .int .i64 x1_1, .int .i64 x1_2] 23 25 w.heap.size 23 #[.int .i64 x0_0, .int .i64 x0_1, .int .i64 x0_2, .int .i64 x0_3])
  case first =>
    go_region_with (first | (go_at_call 15; ((with_reducible refine (toTariff_any x0_0 x0_1 x0_2 x0_3 _).mono ?_); rintro e w' ⟨rfl, hb⟩; have HN := Lib.hid (KS.below (by first | with_reducible exact HK.out | with_reducible exact HK.out.alloc _ | with_reducible exact HK.out.drew | with_reducible exact (HK.out.alloc _).drew) hb); (first | (replace B9 := Blk.below B9 hb B9.lt; clear C9 F9; have C9 := B9.cell; have F9 := B9.frozen) | (have B9 := ks9 HK.out hb; obtain ⟨G9, B9⟩ := B9; have C9 := B9.cell; have F9 := B9.frozen) | (have B9 := ks9d HK.out hb; obtain ⟨G9, B9⟩ := B9; have C9 := B9.cell; have F9 := B9.frozen) | skip); clear HK c4 c5 hz hz0 hb; have HK := HN; clear HN; have c4 := HK.out.2.1.cell; have c5 := HK.out.2.2.1.cell; have hz := HK.out.2.2.1.lt; have hz0 := HK.out.2.1.lt)) | (go_at_call 16; ((with_reducible refine (toStay_any x1_0 x1_1 x1_2 _).mono ?_); rintro e w' ⟨rfl, hb⟩; have HN := Lib.hid (KS.below (by first | with_reducible exact HK.out | with_reducible exact HK.out.alloc _ | with_reducible exact HK.out.drew | with_reducible exact (HK.out.alloc _).drew) hb); (first | (replace B9 := Blk.below B9 hb B9.lt; clear C9 F9; have C9 := B9.cell; have F9 := B9.frozen) | (have B9 := ks9 HK.out hb; obtain ⟨G9, B9⟩ := B9; have C9 := B9.cell; have F9 := B9.frozen) | (have B9 := ks9d HK.out hb; obtain ⟨G9, B9⟩ := B9; have C9 := B9.cell; have F9 := B9.frozen) | skip); clear HK c4 c5 hz hz0 hb; have HK := HN; clear HN; have c4 := HK.out.2.1.cell; have c5 := HK.out.2.2.1.cell; have hz := HK.out.2.2.1.lt; have hz0 := HK.out.2.1.lt)) | (go_at_call 29; ((with_reducible refine (payP_s HP _).mono ?_); rintro e w' ⟨rfl, hb⟩; have HN := Lib.hid (KS.below (by first | with_reducible exact HK.out | with_reducible exact HK.out.alloc _ | with_reducible exact HK.out.drew | with_reducible exact (HK.out.alloc _).drew) hb); (first | (replace B9 := Blk.below B9 hb B9.lt; clear C9 F9; have C9 := B9.cell; have F9 := B9.frozen) | (have B9 := ks9 HK.out hb; obtain ⟨G9, B9⟩ := B9; have C9 := B9.cell; have F9 := B9.frozen) | (have B9 := ks9d HK.out hb; obtain ⟨G9, B9⟩ := B9; have C9 := B9.cell; have F9 := B9.frozen) | skip); clear HK c4 c5 hz hz0 hb; have HK := HN; clear HN; have c4 := HK.out.2.1.cell; have c5 := HK.out.2.2.1.cell; have hz := HK.out.2.2.1.lt; have hz0 := HK.out.2.1.lt)))
    all_goals (
      go_wp2_with fail
      go_meet
      first
        | (refine ⟨_, rfl, rfl, rfl, G9, ?_, ((HK.out.set G9.1 G9.2 0 _).set G9.1 G9.2 1 _).set G9.1 G9.2 2 _⟩
           have hE := ((B9.set_ 0 (.int .i64 pi)).set_ 1 (.int .i64 pq)).set_ 2 (.int .i64 pa)
           simpa using hE)
        | exact ⟨_, rfl, rfl, rfl, ⟨HK.out.2.2.1.lt, HK.out.2.2.2.lt⟩, Blk.new _ _ _, HK.out.alloc _⟩)
  case rest =>
    obtain ⟨g, rfl, rfl, rfl, hg, hB, hK⟩ := hcut
    have c4 := hK.2.1.cell
    have c5 := hK.2.2.1.cell
    have hz := hK.2.2.1.lt
    have hz0 := hK.2.1.lt
    have HK := Lib.hid (show KS w wc #[.int .i64 x0_0, .int .i64 x0_1, .int .i64 x0_2, .int .i64 x0_3] #[.int .i64 x1_0, .int .i64 x1_1, .int .i64 x1_2] 23 25 g 29 #[.int .i64 pi, .int .i64 pq, .int .i64 pa] from ⟨hK.1, hK.2.1, hK.2.2.1, hB⟩)
    clear hK hB c4 c5
    have c4 := HK.out.2.1.cell
    have c5 := HK.out.2.2.1.cell
    go_upto_region 2 with fail
    go_cut [12, 13, 14] (fun s9 s10 s11 wx => ∃ q, s9 = .pointer (some ⟨q, 0, none⟩) ∧ s10 = .int .i64 pb ∧ s11 = .bool po ∧ (w.heap.size + 1 < q ∧ g < q) ∧ Blk wx q 29 #[.int .i64 pi, .int .i64 pq, .int .i64 pa] ∧ KS w wx #[.int .i64 x0_0, .int .i64 x0_1, .int .i64 x0_2, .int .i64 x0_3] #[.int .i64 x1_0, .int .i64 x1_1, .int .i64 x1_2] 23 25 g 29 #[.int .i64 pi, .int .i64 pq, .int .i64 pa])
    case first =>
      go_region_with (first | (go_at_call 15; ((with_reducible refine (toTariff_any x0_0 x0_1 x0_2 x0_3 _).mono ?_); rintro e w' ⟨rfl, hb⟩; have HN := Lib.hid (KS.below (by first | with_reducible exact HK.out | with_reducible exact HK.out.alloc _ | with_reducible exact HK.out.drew | with_reducible exact (HK.out.alloc _).drew) hb); (first | (replace B9 := Blk.below B9 hb B9.lt; clear C9 F9; have C9 := B9.cell; have F9 := B9.frozen) | (have B9 := ks9 HK.out hb; obtain ⟨G9, B9⟩ := B9; have C9 := B9.cell; have F9 := B9.frozen) | (have B9 := ks9d HK.out hb; obtain ⟨G9, B9⟩ := B9; have C9 := B9.cell; have F9 := B9.frozen) | skip); clear HK c4 c5 hz hz0 hb; have HK := HN; clear HN; have c4 := HK.out.2.1.cell; have c5 := HK.out.2.2.1.cell; have hz := HK.out.2.2.1.lt; have hz0 := HK.out.2.1.lt)) | (go_at_call 16; ((with_reducible refine (toStay_any x1_0 x1_1 x1_2 _).mono ?_); rintro e w' ⟨rfl, hb⟩; have HN := Lib.hid (KS.below (by first | with_reducible exact HK.out | with_reducible exact HK.out.alloc _ | with_reducible exact HK.out.drew | with_reducible exact (HK.out.alloc _).drew) hb); (first | (replace B9 := Blk.below B9 hb B9.lt; clear C9 F9; have C9 := B9.cell; have F9 := B9.frozen) | (have B9 := ks9 HK.out hb; obtain ⟨G9, B9⟩ := B9; have C9 := B9.cell; have F9 := B9.frozen) | (have B9 := ks9d HK.out hb; obtain ⟨G9, B9⟩ := B9; have C9 := B9.cell; have F9 := B9.frozen) | skip); clear HK c4 c5 hz hz0 hb; have HK := HN; clear HN; have c4 := HK.out.2.1.cell; have c5 := HK.out.2.2.1.cell; have hz := HK.out.2.2.1.lt; have hz0 := HK.out.2.1.lt)) | (go_at_call 30; ((with_reducible refine (payP_i HP _).mono ?_); rintro e w' ⟨rfl, hb⟩; have HN := Lib.hid (KS.below (by first | with_reducible exact HK.out | with_reducible exact HK.out.alloc _ | with_reducible exact HK.out.drew | with_reducible exact (HK.out.alloc _).drew) hb); (first | (replace B9 := Blk.below B9 hb B9.lt; clear C9 F9; have C9 := B9.cell; have F9 := B9.frozen) | (have B9 := ks9 HK.out hb; obtain ⟨G9, B9⟩ := B9; have C9 := B9.cell; have F9 := B9.frozen) | (have B9 := ks9d HK.out hb; obtain ⟨G9, B9⟩ := B9; have C9 := B9.cell; have F9 := B9.frozen) | skip); clear HK c4 c5 hz hz0 hb; have HK := HN; clear HN; have c4 := HK.out.2.1.cell; have c5 := HK.out.2.2.1.cell; have hz := HK.out.2.2.1.lt; have hz0 := HK.out.2.1.lt)))
      all_goals (
        go_wp2_with fail
        go_meet
        first
          | (refine ⟨_, rfl, rfl, rfl, G9, ?_, ((HK.out.set G9.1 G9.2 0 _).set G9.1 G9.2 1 _).set G9.1 G9.2 2 _⟩
             have hE := ((B9.set_ 0 (.int .i64 pi)).set_ 1 (.int .i64 pq)).set_ 2 (.int .i64 pa)
             simpa using hE)
          | exact ⟨_, rfl, rfl, rfl, ⟨HK.out.2.2.1.lt, HK.out.2.2.2.lt⟩, Blk.new _ _ _, HK.out.alloc _⟩)
    case rest =>
      obtain ⟨q, rfl, rfl, rfl, hq, hB, hK⟩ := hcut
      have c9 := hK.2.2.2.cell
      have c12 := hB.cell
      have hw := hK.1
      have HW := Lib.hid hw
      clear hw hK hB c4 c5
      go_wp2_with (go_at_call 31; ((with_reducible refine (eqStay_any pi pq pa pi pq pa _).mono ?_); rintro e w' ⟨rfl, hb⟩; have HB := Lib.hid hb; clear hb))
      all_goals (go_ret; exact ⟨rfl, bt HW.out HB.out⟩)
end Go.Proofs.Ytaaaknklfenagaa
