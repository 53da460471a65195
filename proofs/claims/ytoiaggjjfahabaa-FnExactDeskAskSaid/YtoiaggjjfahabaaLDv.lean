/- The walk of the law on DeskValid: the program returns what the reference returns. No condition. -/
import Derived.Test.YtoiaggjjfahabaaDkV
import Derived.Test.YtoiaggjjfahabaaDkO
namespace Go.Proofs.Ytoiaggjjfahabaa
open Go.RowKit Go.ChangeShapes Go.WideShapes Go.Deep
set_option linter.unusedVariables false
/-- a slice of structs of four ints in a field -/
theorem quads_of_trod_any {H : Type} {enc : TypeId × Value → H} {P : Program} {w : World} {base : Nat} {spare : Nat → Bool} {held : Bool} {t e ti fuel : Nat} {v : Value} {x : DataW H × List MemPlace} {f0 f1 f2 f3 : Field}
    (ht : P.underlying t = some (.slice e)) (he : P.underlying e = some (.struct #[f0, f1, f2, f3])) (hone : oneCellFields P #[f0, f1, f2, f3] = true) (hC : P.cellsOf e = 4)
    (hty : f0.type = ti ∧ f1.type = ti ∧ f2.type = ti ∧ f3.type = ti) (hti : P.underlying ti = some (.int .i64)) (h : DataW.trod enc P w base spare held fuel t [v] = some x) : ∃ A n cap qs, v = .slice A n cap ∧ Quads w A n cap qs := by
  have hv : ∃ A n cap, v = .slice A n cap := by
    rcases open_slice ht h with ⟨hcs, _⟩ | ⟨a, l, c, m, k, D, Pl, hcs, _⟩
    · simp at hcs; exact ⟨_, _, _, hcs⟩
    · simp at hcs; exact ⟨_, _, _, hcs⟩
  obtain ⟨A, n, cap, rfl⟩ := hv
  obtain ⟨qs, hq⟩ := quads_of_trod ht he hone hC hty hti (A := A) (n := n) (cap := cap) (x := x) (by simpa [Value.cells] using h)
  exact ⟨A, n, cap, qs, rfl, hq⟩
set_option maxRecDepth 100000 in
set_option maxHeartbeats 4000000 in
theorem FnExactDeskValid_walk (w : World) (P : Int) (_ : In64 P) (A : Option Addr) (n cap : Nat) (ts : List Quad) (q1 : Quads w A n cap ts) (B : Option Addr) (m cap2 : Nat) (rs : List Quad) (q2 : Quads w B m cap2 rs) :
    Calls Try.prog 4 #[.agg #[.int .i64 P, .slice A n cap, .slice B m cap2]] w fun e w' => e = .returned (.bool true) ∧ Below w.heap.size w w' := by
  have hA := q1.books
  have hB := q2.books
  have hn := q1.len
  have hm := q2.len
  clear q1 q2
  by_cases l1 : n ≤ 1048576
  case neg =>
    go_enter Try.func4, Try.ntmps4
    go_wp2_with (go_at_call 15; refine (szDesk_big1 P A B n cap m cap2 _ hn (by omega)).mono ?_; rintro e w' ⟨rfl, hb⟩)
    go_ret
    exact ⟨rfl, bt (by (repeat (first | exact Below.refl _ _ | assumption | refine Below.alloc ?_ (by first | omega | (simp; done) | (simp; omega)) _ | refine Below.drew ?_ | refine bdN ?_ _ | refine Below.setCell ?_ (by first | omega | (simp; done) | (simp; omega)) _))) hb⟩
  have hb0 : Below w.heap.size w (w.alloc (.cells #[.int .i64 P, .slice A n cap, .slice B m cap2] 34)) := (Below.refl _ _).alloc (Nat.le_refl _) _
  have bX := Blk.new w 34 #[.int .i64 P, .slice A n cap, .slice B m cap2]
  have SZ := Lib.hid (fun w' => szDesk_any P A B n cap m cap2 w' l1 hm)
  have HA := Lib.hid hA
  have HB := Lib.hid hB
  clear hA hB
  go_enter Try.func4, Try.ntmps4
  go_wp2_with fail
  generalize (w.alloc (.cells #[.int .i64 P, .slice A n cap, .slice B m cap2] 34)) = W at *
  refine (SZ.out _).mono ?_
  rintro e w1 ⟨⟨r, rfl, hr⟩, hb⟩
  replace bX := bX.below hb bX.lt
  have H1 := Lib.hid (bt hb0 hb)
  clear hb0 hb SZ
  have k0 := bX.cell 0
  have k1 := bX.cell 1
  have k2 := bX.cell 2
  simp at k0 k1 k2
  rcases hr with ⟨hr, hnm⟩ | hr
  case inr =>
    have c1 : decide (r < 0) = true := by simpa using hr
    go_wp2
    go_ret
    exact ⟨rfl, H1.out⟩
  have c1 : decide (r < 0) = false := by simpa using hr
  go_wp2_with fail
  refine (toDesk_any P A B n cap m cap2 ts rs _ (HA.out.below H1.out) (HB.out.below H1.out) l1 (by omega)).mono ?_
  rintro e w2 ⟨g, g', rfl, hg, hgg, hR, hR', hb⟩
  replace H1 := Lib.hid (bt H1.out hb)
  replace bX := bX.below hb bX.lt
  clear k0 k1 k2 hb
  have k0 := bX.cell 0
  have k1 := bX.cell 1
  have k2 := bX.cell 2
  simp at k0 k1 k2
  obtain ⟨V, hV⟩ : ∃ V, dvV P ts rs = V := ⟨_, rfl⟩
  have e0 : (V != V) = false := by simp
  have DS := Lib.hid (DeskValid_s P ⟨g, 0, none⟩ (some ⟨g', 0, none⟩) n n m m ts rs w2 hR.books hR'.books l1 (by omega))
  clear hR hR' hg hgg
  go_wp2_with fail
  refine DS.out.mono ?_
  rintro e w3 ⟨rfl, hb⟩
  replace H1 := Lib.hid (bt H1.out hb)
  replace bX := bX.below hb bX.lt
  clear k0 k1 k2 hb DS
  have k0 := bX.cell 0
  have k1 := bX.cell 1
  have k2 := bX.cell 2
  simp at k0 k1 k2
  go_wp2_with fail
  refine (toDesk_any P A B n cap m cap2 ts rs _ (HA.out.below H1.out) (HB.out.below H1.out) l1 (by omega)).mono ?_
  rintro e w4 ⟨h, h', rfl, hg, hgg, hR, hR', hb⟩
  replace H1 := Lib.hid (bt H1.out hb)
  replace bX := bX.below hb bX.lt
  clear k0 k1 k2 hb
  have hBa : Below w4.heap.size w4 (w4.alloc (.cells #[.int .i64 P, .slice (some ⟨h, 0, none⟩) n n, .slice (some ⟨h', 0, none⟩) m m] 38)) := (Below.refl _ _).alloc (Nat.le_refl _) _
  have bY := Blk.new w4 38 #[.int .i64 P, .slice (some ⟨h, 0, none⟩) n n, .slice (some ⟨h', 0, none⟩) m m]
  have k0 := bX.cell 0
  have k1 := bX.cell 1
  have k2 := bX.cell 2
  simp at k0 k1 k2
  have bX2 := bX.below hBa bX.lt
  have HR := Lib.hid (hR.below hBa hR.lt)
  have HR' := Lib.hid (hR'.below hBa hR'.lt)
  have H2 := Lib.hid (bt H1.out hBa)
  clear hR hR' hg hgg hBa
  go_wp2_with fail
  generalize (w4.alloc (.cells #[.int .i64 P, .slice (some ⟨h, 0, none⟩) n n, .slice (some ⟨h', 0, none⟩) m m] 38)) = W4 at *
  have DI := DeskValid_i P (some ⟨h, 0, none⟩) (some ⟨h', 0, none⟩) n n m m ts rs W4 HR.out.books HR'.out.books l1 (by omega) (Nat.le_refl _) (Nat.le_refl _)
  rw [hV] at DI
  clear hV
  refine DI.mono ?_
  rintro e w5 ⟨rfl, hb⟩
  clear DI
  replace H2 := Lib.hid (bt H2.out hb)
  replace bX := bX2.below hb bX2.lt
  replace bY := bY.below hb bY.lt
  replace HR := Lib.hid (HR.out.below hb HR.out.lt)
  replace HR' := Lib.hid (HR'.out.below hb HR'.out.lt)
  clear k0 k1 k2 hb bX2 H1
  have k0 := bX.cell 0
  have k1 := bX.cell 1
  have k2 := bX.cell 2
  have j0 := bY.cell 0
  have j1 := bY.cell 1
  have j2 := bY.cell 2
  simp at k0 k1 k2 j0 j1 j2
  have lx := bX.lt
  have ly := bY.lt
  clear bX bY
  go_wp2_with fail
  have TD := Lib.hid (fun w' (hb : Below w.heap.size w w') => toDesk_any P A B n cap m cap2 ts rs w' (HA.out.below hb) (HB.out.below hb) l1 (by omega))
  go_region_held3 (fun w' => Below (w5.heap.size) (w5) w' ∧ ∀ k o, k < w5.heap.size → w'.cell? ⟨k, o, none⟩ = World.cell? (w5) ⟨k, o, none⟩) (first | assumption | exact kp_start | (refine kp_step ?_ hb ?_; assumption; (first | omega | (simp; done) | (simp; omega))) | (refine kp_drew ?_; assumption) | (refine kp_drew (kp_of hb ?_); (first | omega | (simp; done) | (simp; omega)))) (first
    | (go_at_call 17; refine (TD.out _ (bt H2.out (by (refine kp_end (by assumption) ?_ (by first | omega | (simp; done) | (simp; omega)); (repeat (first | exact Below.refl _ _ | assumption | refine Below.alloc ?_ (by first | omega | (simp; done) | (simp; omega)) _ | refine Below.drew ?_ | refine bdN ?_ _ | refine Below.setCell ?_ (by first | omega | (simp; done) | (simp; omega)) _)))))).mono ?_; rintro e w' ⟨z, z', rfl, _, _, hR2, hR2', hb⟩)
    | (go_at_call 19; refine (eqDesk_yes P _ _ _ _ n m n m n m ts rs _ (HR.out.books.below (by (refine kp_end (by assumption) ?_ (by first | omega | (simp; done) | (simp; omega)); (repeat (first | exact Below.refl _ _ | assumption | refine Below.alloc ?_ (by first | omega | (simp; done) | (simp; omega)) _ | refine Below.drew ?_ | refine bdN ?_ _ | refine Below.setCell ?_ (by first | omega | (simp; done) | (simp; omega)) _))))) (HR'.out.books.below (by (refine kp_end (by assumption) ?_ (by first | omega | (simp; done) | (simp; omega)); (repeat (first | exact Below.refl _ _ | assumption | refine Below.alloc ?_ (by first | omega | (simp; done) | (simp; omega)) _ | refine Below.drew ?_ | refine bdN ?_ _ | refine Below.setCell ?_ (by first | omega | (simp; done) | (simp; omega)) _))))) hR2.books hR2'.books (by omega) (by omega)).mono ?_; rintro e w' ⟨rfl, hb⟩))
  all_goals
    go_wp2_with fail
    go_ret
    exact ⟨rfl, bt H2.out (by (refine kp_end (by assumption) ?_ (by first | omega | (simp; done) | (simp; omega)); (repeat (first | exact Below.refl _ _ | assumption | refine Below.alloc ?_ (by first | omega | (simp; done) | (simp; omega)) _ | refine Below.drew ?_ | refine bdN ?_ _ | refine Below.setCell ?_ (by first | omega | (simp; done) | (simp; omega)) _))))⟩
end Go.Proofs.Ytoiaggjjfahabaa
