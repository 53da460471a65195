/- l20Now, l20Amount; the draws of a tariff, a stay, a time and an amount. No condition. -/
import Derived.Test.YtnagghnmlcnbnaaDoorDTar
import Derived.Test.YtnagghnmlcnbnaaDoorDSta
namespace Go.Proofs.YtnagghnmlcnbnaaDoor
open Go.RowKit
set_option linter.unusedVariables false
theorem Nums.keep {k : IntKind} {w w' : World} {A : Option Addr} {n cap : Nat} {zs : List Int} (h : Nums k w A n cap zs) (hb : Below w.heap.size w w') : Nums k w' A n cap zs := by
  obtain ⟨h1, h2, h3, h4, h5⟩ := h
  refine ⟨h1, h2, h3, fun hn => ?_, h5⟩
  obtain ⟨b, off, rfl, hlt, hc⟩ := h4 hn
  exact ⟨b, off, rfl, Nat.lt_of_lt_of_le hlt hb.size, fun k hk => (hb.cell (p := ⟨b, off + k, none⟩) hlt).trans (hc k hk)⟩
def N1 (w : World) (r B : Nat) (e : Ending) (w' : World) : Prop := ∃ x, e = .returned (.int .i64 x) ∧ RB w' r B ∧ Stp r w w'
set_option maxRecDepth 100000 in
set_option maxHeartbeats 1000000 in
theorem amount_ok (r : Nat) (B : Nat) (w : World) (h : RB w r B) (hB : B ≤ 800000000) :
    Calls Tryd.prog 71 #[.pointer (some ⟨r, 0, none⟩)] w (N1 w r (B + 4)) := by
  have HT := Stp.refl r w
  go_enter Tryd.func71, Tryd.ntmps71
  go_wp2_with (go_at_call 81; ((with_reducible refine (pk r _ _ _ h ?_ ?_ ?_).mono ?_); (omega); (omega); (omega); rintro e w1 ⟨x1, rfl, y1, z1, hr, hs⟩; replace h := hr; replace HT := HT.trans hs; clear hr hs))
  go_ret
  exact ⟨_, rfl, h.le (by omega), HT⟩
set_option maxRecDepth 100000 in
set_option maxHeartbeats 2000000 in
theorem now_ok (r : Nat) (a b c : Int) (B : Nat) (w : World) (h : RB w r B) (hB : B ≤ 800000000) :
    Calls Tryd.prog 64 #[.pointer (some ⟨r, 0, none⟩), .agg #[.int .i64 a, .int .i64 b, .int .i64 c]] w (N1 w r (B + 3)) := by
  have hlt := h.lt
  have T : St w (w.alloc (.cells #[.int .i64 a, .int .i64 b, .int .i64 c] 26)) r B w.heap.size w.heap.size 26 #[.int .i64 a, .int .i64 b, .int .i64 c] #[.int .i64 a, .int .i64 b, .int .i64 c] :=
    ⟨h.alloc _, Blk.new _ _ _, Blk.new _ _ _, Stp.of_below ((Below.refl _ _).alloc (Nat.le_refl _) _) (Nat.le_of_lt hlt)⟩
  clear h
  go_enter Tryd.func64, Tryd.ntmps64
  go_upto_region 1 with fail
  generalize w.alloc (.cells #[.int .i64 a, .int .i64 b, .int .i64 c] 26) = W at *
  have q := T.2.1.cell 2
  simp at q
  go_region_with (first
    | (go_at_call 81; ((with_reducible refine (pk r _ _ _ (St.rb (St.drew T)) ?_ ?_ ?_).mono ?_); (omega); (omega); (omega); rintro e w1 ⟨x1, rfl, y1, z1, hr, hs⟩; replace T := T.drew.step hr hs (by omega) (by omega); clear hr hs q; have q := T.2.1.cell 2; simp at q))
    | (go_at_call 81; ((with_reducible refine (pk r _ _ _ (St.rb T) ?_ ?_ ?_).mono ?_); (omega); (omega); (omega); rintro e w1 ⟨x1, rfl, y1, z1, hr, hs⟩; replace T := T.step hr hs (by omega) (by omega); clear hr hs q; have q := T.2.1.cell 2; simp at q)))
  all_goals (
    go_wp2_with fail
    go_ret
    exact ⟨_, rfl, T.1, T.2.2.2⟩)
/-- a tariff, a stay and a time are drawn; the results' cells are there -/
def D3 (w w' : World) (r B s q : Nat) (a b c d e f g : Int) : Prop :=
  RB w' r B ∧ Blk w' s 24 #[.int .i64 a, .int .i64 b, .int .i64 c, .int .i64 d] ∧ Blk w' q 26 #[.int .i64 e, .int .i64 f, .int .i64 g] ∧
  Blk w' w.heap.size 24 #[.int .i64 0, .int .i64 0, .int .i64 0, .int .i64 0] ∧ Blk w' (w.heap.size + 1) 26 #[.int .i64 0, .int .i64 0, .int .i64 0] ∧ Below w.heap.size w w' ∧ w.heap.size + 1 < r ∧ r < s ∧ r < q
section
variable {w w' w2 : World} {r B B' s q : Nat} {a b c d e f g : Int}
theorem D3.rb (h : D3 w w' r B s q a b c d e f g) : RB w' r B := h.1
theorem D3.step (h : D3 w w' r B s q a b c d e f g) (hr : RB w2 r B') (hs : Stp r w' w2) : D3 w w2 r B' s q a b c d e f g := by
  obtain ⟨h1, h2, h3, h4, h5, h6, h7, h8, h9⟩ := h
  exact ⟨hr, hs.blk h2 (by omega), hs.blk h3 (by omega), hs.blk h4 (by omega), hs.blk h5 (by omega), h6.trans (hs.1.mono (by omega)), h7, h8, h9⟩
theorem D3.drew (h : D3 w w' r B s q a b c d e f g) : D3 w w'.drew r B s q a b c d e f g := h.step h.1.drew (Stp.drew' (Stp.refl _ _))
end
set_option maxRecDepth 100000 in
set_option maxHeartbeats 1000000 in
theorem drawStayDue_ok (A : Option Addr) (n cap : Nat) (zs : List Int) (w : World) (h : Nums .u8 w A n cap zs) (hn : n ≤ 1048576) :
    Calls Tryd.prog 15 #[.slice A n cap] w fun E w' => ∃ a b c d e f g m, E = .returned (.tuple #[.agg #[.int .i64 a, .int .i64 b, .int .i64 c, .int .i64 d], .agg #[.int .i64 e, .int .i64 f, .int .i64 g], .int .i64 m]) ∧ (Sm a ∧ Sm b ∧ Sm c ∧ Sm d ∧ Sm e ∧ Sm f ∧ Sm g) ∧ Below w.heap.size w w' := by
  have hb0 : Below w.heap.size w ((w.alloc (.cells #[.int .i64 0, .int .i64 0, .int .i64 0, .int .i64 0] 24)).alloc (.cells #[.int .i64 0, .int .i64 0, .int .i64 0] 26)) := by (repeat (first | exact Below.refl _ _ | assumption | refine Below.alloc ?_ (by first | omega | (simp; done) | (simp; omega)) _ | refine Below.drew ?_ | refine bdN ?_ _ | refine Below.setCell ?_ (by first | omega | (simp; done) | (simp; omega)) _))
  have hR := (Blk.new w 24 #[.int .i64 0, .int .i64 0, .int .i64 0, .int .i64 0]).alloc (.cells #[.int .i64 0, .int .i64 0, .int .i64 0] 26)
  have hQ : Blk ((w.alloc (.cells #[.int .i64 0, .int .i64 0, .int .i64 0, .int .i64 0] 24)).alloc (.cells #[.int .i64 0, .int .i64 0, .int .i64 0] 26)) (w.heap.size + 1) 26 #[.int .i64 0, .int .i64 0, .int .i64 0] := by
    have := Blk.new (w.alloc (.cells #[.int .i64 0, .int .i64 0, .int .i64 0, .int .i64 0] 24)) 26 #[.int .i64 0, .int .i64 0, .int .i64 0]
    simpa using this
  have hN := h.keep hb0
  clear h
  go_enter Tryd.func15, Tryd.ntmps15
  go_wp2_with (go_at_call 61; refine (op (w.heap.size + 2) A n cap zs _ hN hn (by simp)).mono ?_; rintro e w1 ⟨rfl, hr, hb, hlt⟩; replace hR := hR.below hb (by omega); replace hQ := hQ.below hb (by omega); have hw := hb0.trans (hb.mono (by omega)); clear hN hb0)
  go_wp2_with (go_at_call 62; ((with_reducible refine (tariff_ok (w.heap.size + 2) 12 _ _ hr ?_ ?_ ?_).mono ?_); (omega); (omega); (omega); rintro e w2 ⟨a, b, c, d, rfl, ma, mb, mc, md, hr2, hs⟩; replace hR := hs.blk hR (by omega); replace hQ := hs.blk hQ (by omega); have hw2 := hw.trans (hs.1.mono (by omega)); clear hr hs hb hw))
  have hl2 := hr2.lt
  have hT := Blk.new w2 24 #[.int .i64 a, .int .i64 b, .int .i64 c, .int .i64 d]
  replace hR := hR.alloc (.cells #[.int .i64 a, .int .i64 b, .int .i64 c, .int .i64 d] 24)
  replace hQ := hQ.alloc (.cells #[.int .i64 a, .int .i64 b, .int .i64 c, .int .i64 d] 24)
  replace hw2 := hw2.alloc hw2.size (.cells #[.int .i64 a, .int .i64 b, .int .i64 c, .int .i64 d] 24)
  replace hr2 := hr2.alloc (.cells #[.int .i64 a, .int .i64 b, .int .i64 c, .int .i64 d] 24)
  go_upto_region 4 with (go_at_call 63; ((with_reducible refine (stay_ok (w.heap.size + 2) 12 _ _ hr2 ?_ ?_ ?_).mono ?_); (omega); (omega); (omega); rintro e w3 ⟨e, f, g, rfl, me, mf, mg, hr3, hs⟩; replace hR := hs.blk hR (by omega); replace hQ := hs.blk hQ (by omega); replace hT := hs.blk hT (by omega); have hw3 := hw2.trans (hs.1.mono (by omega)); clear hr2 hs hw2))
  have hl3 := hr3.lt
  have T : D3 w (w3.alloc (.cells #[.int .i64 e, .int .i64 f, .int .i64 g] 26)) (w.heap.size + 2) (0 + 10 + 10) w2.heap.size w3.heap.size a b c d e f g :=
    ⟨hr3.alloc _, hT.alloc _, Blk.new _ _ _, hR.alloc _, hQ.alloc _, hw3.alloc hw3.size _, by omega, by omega, by omega⟩
  clear hR hQ hT hw3 hr3
  generalize w3.alloc (.cells #[.int .i64 e, .int .i64 f, .int .i64 g] 26) = W at *
  generalize w2.heap.size = s at *
  generalize w3.heap.size = q at *
  have cT := T.2.1.cell
  have cS := T.2.2.1.cell
  go_cut [4] (fun v wx => ∃ m, v = .int .i64 m ∧ Blk wx w.heap.size 24 #[.int .i64 a, .int .i64 b, .int .i64 c, .int .i64 d] ∧ Blk wx (w.heap.size + 1) 26 #[.int .i64 e, .int .i64 f, .int .i64 g] ∧ Below w.heap.size w wx)
  case first =>
    go_region_with (go_at_call 64; ((with_reducible refine (now_ok (w.heap.size + 2) e f g _ _ (D3.rb (D3.drew T)) ?_).mono ?_); (omega); rintro E w4 ⟨m, rfl, hr, hs⟩; replace T := D3.step (D3.drew T) hr hs; clear hr hs cT cS; have cT := T.2.1.cell; have cS := T.2.2.1.cell; have cR := T.2.2.2.1.cell; have fR := T.2.2.2.1.frozen; have cQ := T.2.2.2.2.1.cell; have fQ := T.2.2.2.2.1.frozen))
    all_goals (
      go_wp2_with fail
      go_meet
      refine ⟨_, rfl, ?_, ?_, ?_⟩
      · have hE := ((((((T.2.2.2.1.set_ 0 (.int .i64 a)).set_ 1 (.int .i64 b)).set_ 2 (.int .i64 c)).set_ 3 (.int .i64 d)).far (p := ⟨w.heap.size + 1, 0, none⟩) (by simp) (.int .i64 e)).far (p := ⟨w.heap.size + 1, 1, none⟩) (by simp) (.int .i64 f)).far (p := ⟨w.heap.size + 1, 2, none⟩) (by simp) (.int .i64 g)
        simpa using hE
      · have hE := ((((((T.2.2.2.2.1.far (p := ⟨w.heap.size, 0, none⟩) (by simp) (.int .i64 a)).far (p := ⟨w.heap.size, 1, none⟩) (by simp) (.int .i64 b)).far (p := ⟨w.heap.size, 2, none⟩) (by simp) (.int .i64 c)).far (p := ⟨w.heap.size, 3, none⟩) (by simp) (.int .i64 d)).set_ 0 (.int .i64 e)).set_ 1 (.int .i64 f)).set_ 2 (.int .i64 g)
        simpa using hE
      · exact ((((((T.2.2.2.2.2.1.setCell (Nat.le_refl _) _).setCell (Nat.le_refl _) _).setCell (Nat.le_refl _) _).setCell (Nat.le_refl _) _).setCell (Nat.le_succ _) _).setCell (Nat.le_succ _) _).setCell (Nat.le_succ _) _)
  case rest =>
    obtain ⟨m, rfl, k1, k2, k3⟩ := hcut
    have c1 := k1.cell
    have c2 := k2.cell
    go_wp2_with fail
    refine bodyPost_ret (v := .tuple #[.agg #[.int .i64 a, .int .i64 b, .int .i64 c, .int .i64 d], .agg #[.int .i64 e, .int .i64 f, .int .i64 g], .int .i64 m]) (by simp [results, Tryd.results15, go_sem, c1, c2]) rfl ?_
    exact ⟨a, b, c, d, e, f, g, m, rfl, ⟨ma, mb, mc, md, me, mf, mg⟩, k3⟩
set_option maxRecDepth 100000 in
theorem drawMayLeave_ok (A : Option Addr) (n cap : Nat) (zs : List Int) (w : World) (h : Nums .u8 w A n cap zs) (hn : n ≤ 1048576) :
    Calls Tryd.prog 23 #[.slice A n cap] w fun E w' => ∃ a b c d e f g m, E = .returned (.tuple #[.agg #[.int .i64 a, .int .i64 b, .int .i64 c, .int .i64 d], .agg #[.int .i64 e, .int .i64 f, .int .i64 g], .int .i64 m]) ∧ (Sm a ∧ Sm b ∧ Sm c ∧ Sm d ∧ Sm e ∧ Sm f ∧ Sm g) ∧ Below w.heap.size w w' := by
  have hb0 : Below w.heap.size w ((w.alloc (.cells #[.int .i64 0, .int .i64 0, .int .i64 0, .int .i64 0] 24)).alloc (.cells #[.int .i64 0, .int .i64 0, .int .i64 0] 26)) := by (repeat (first | exact Below.refl _ _ | assumption | refine Below.alloc ?_ (by first | omega | (simp; done) | (simp; omega)) _ | refine Below.drew ?_ | refine bdN ?_ _ | refine Below.setCell ?_ (by first | omega | (simp; done) | (simp; omega)) _))
  have hR := (Blk.new w 24 #[.int .i64 0, .int .i64 0, .int .i64 0, .int .i64 0]).alloc (.cells #[.int .i64 0, .int .i64 0, .int .i64 0] 26)
  have hQ : Blk ((w.alloc (.cells #[.int .i64 0, .int .i64 0, .int .i64 0, .int .i64 0] 24)).alloc (.cells #[.int .i64 0, .int .i64 0, .int .i64 0] 26)) (w.heap.size + 1) 26 #[.int .i64 0, .int .i64 0, .int .i64 0] := by
    have := Blk.new (w.alloc (.cells #[.int .i64 0, .int .i64 0, .int .i64 0, .int .i64 0] 24)) 26 #[.int .i64 0, .int .i64 0, .int .i64 0]
    simpa using this
  have hN := h.keep hb0
  clear h
  go_enter Tryd.func23, Tryd.ntmps23
  go_wp2_with (go_at_call 15; refine (drawStayDue_ok A n cap zs _ hN hn).mono ?_; rintro E w3 ⟨a, b, c, d, e, f, g, m, rfl, hm, hb⟩; replace hR := hR.below hb hR.lt; replace hQ := hQ.below hb hQ.lt; have hw := Lib.hid (hb0.trans (hb.mono (by simp; omega))); have cR := hR.cell; have fR := hR.frozen; have cQ := hQ.cell; have fQ := hQ.frozen; clear hN hb0 hb)
  refine bodyPost_ret (v := .tuple #[.agg #[.int .i64 a, .int .i64 b, .int .i64 c, .int .i64 d], .agg #[.int .i64 e, .int .i64 f, .int .i64 g], .int .i64 m]) (by simp [results, Tryd.results23, go_sem, cR, cQ]) rfl ?_
  exact ⟨a, b, c, d, e, f, g, m, rfl, hm, ((((((hw.out.setCell (Nat.le_refl _) _).setCell (Nat.le_refl _) _).setCell (Nat.le_refl _) _).setCell (Nat.le_refl _) _).setCell (Nat.le_succ _) _).setCell (Nat.le_succ _) _).setCell (Nat.le_succ _) _⟩
end Go.Proofs.YtnagghnmlcnbnaaDoor
