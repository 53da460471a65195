/- Drawn lists of small ints that begin empty: a row of the call's own beside the reader; l20Amount, l20Pay; sums and equality of lists in the laws. No condition. -/
import Derived.Test.YtjijaejlcbailaaDoorNews
import Derived.Test.YtjijaejlcbailaaDoorDCoins
import Derived.Test.YtjijaejlcbailaaDoorFrom
namespace Go.Proofs.YtjijaejlcbailaaDoor
open Go.RowKit
set_option linter.unusedVariables false
/-- the state of a drawn list of ints: n of them, in block g -/
def IS (w0 w : World) (r B n g c : Nat) (zs : List Int) : Prop :=
  RB w r B ∧ Stp r w0 w ∧ w.ownsRow w0.heap.size 3 1 (.slice (some ⟨g, 0, none⟩) n c) n (zs.map (Value.int .i64)) ∧ r < w0.heap.size ∧ zs.length = n ∧ (∀ z ∈ zs, Sm z) ∧ w0.heap.size ≤ g ∧ n ≤ c ∧ c ≤ maxLen
section
variable {w0 w w' : World} {r B B' n g c : Nat} {zs : List Int}
theorem IS.rb (h : IS w0 w r B n g c zs) : RB w r B := h.1
theorem IS.own (h : IS w0 w r B n g c zs) : w.ownsRow w0.heap.size 3 1 (.slice (some ⟨g, 0, none⟩) n c) n (zs.map (Value.int .i64)) := h.2.2.1
theorem IS.step (h : IS w0 w r B n g c zs) (hr : RB w' r B') (hs : Stp r w w') : IS w0 w' r B' n g c zs := ⟨hr, h.2.1.trans hs, ownsRow_stp (w0 := w0) h.2.2.1 hs h.2.2.2.1, h.2.2.2⟩
theorem IS.alloc (h : IS w0 w r B n g c zs) (o : Obj) : IS w0 (w.alloc o) r B n g c zs := h.step (h.1.alloc o) (Stp.of_below ((Below.refl _ _).alloc (Nat.le_refl _) o) (Nat.le_of_lt h.1.lt))
theorem IS.drew (h : IS w0 w r B n g c zs) : IS w0 w.drew r B n g c zs := h.step h.1.drew (Stp.drew' (Stp.refl _ _))
theorem IS.le (h : IS w0 w r B n g c zs) (hB : B ≤ B') : IS w0 w r B' n g c zs := ⟨h.1.le hB, h.2⟩
theorem IS.mk0 (hr : RB w r B) (hs : Stp r w0 w) (hl : r < w0.heap.size) : IS w0 (w.alloc (.cells #[] 3)) r B 0 w.heap.size 0 [] :=
  ⟨hr.alloc _, hs.trans (Stp.of_below ((Below.refl _ _).alloc (Nat.le_refl _) _) (Nat.le_of_lt hr.lt)), nw_new0 w _ _ _ hs.2.1, hl, rfl, by simp, hs.2.1, Nat.le_refl _, by simp [maxLen]⟩
theorem IS.app {w1 : World} {o : Obj} {v' : Value} {x : Int} (h : IS w0 w r B n g c zs) (ho : w1.ownsRow w0.heap.size 3 1 v' (n + 1) (zs.map (Value.int .i64) ++ [.int .i64 x])) (hg : (w.alloc o).grownBy w1 (Value.slice (some ⟨g, 0, none⟩) n c).ownBlock) (hx : Sm x) :
    ∃ g' c', v' = .slice (some ⟨g', 0, none⟩) (n + 1) c' ∧ IS w0 w1 r B (n + 1) g' c' (zs ++ [x]) := by
  obtain ⟨g', c', rfl, e1, e2, e3, e4⟩ := own_at ho (by omega)
  have ha := h.alloc o
  have hrow : ∀ q, (Value.slice (some ⟨g, 0, none⟩) n c).ownBlock = some q → w0.heap.size ≤ q := fun q hq => by have := h.2.2.2.2.2.2.1; simp [Value.ownBlock] at hq; omega
  refine ⟨g', c', rfl, ha.1.grown hg h.2.2.2.1 (Nat.le_trans h.2.1.2.1 (by simp)) hrow, ha.2.1.grown hg (Nat.le_of_lt h.2.2.2.1) hrow, by rw [List.map_append]; exact ho, h.2.2.2.1, by simp [h.2.2.2.2.1], fun z hz => ?_, e1, e3, e4⟩
  rcases List.mem_append.mp hz with hz | hz
  · exact h.2.2.2.2.2.1 z hz
  · simp at hz; subst hz; exact hx
theorem IS.ints (h : IS w0 w r B n g c zs) : Ints w (some ⟨g, 0, none⟩) n zs := own_ints1 h.own h.2.2.2.2.1
end
/-- two drawn lists of ints -/
def DI2 (w : World) (A : Option Addr) (k c : Nat) (zs : List Int) (G : Option Addr) (m d : Nat) (ys : List Int) (w' : World) : Prop :=
  Ints w' A k zs ∧ Ints w' G m ys ∧ k ≤ 9 ∧ m ≤ 9 ∧ k ≤ c ∧ m ≤ d ∧ c ≤ maxLen ∧ d ≤ maxLen ∧ (∀ z ∈ zs, Sm z) ∧ (∀ y ∈ ys, Sm y) ∧ Below w.heap.size w w'
set_option maxRecDepth 100000 in
set_option maxHeartbeats 2000000 in
theorem drawCoinSum_ok (A : Option Addr) (n cap : Nat) (zs : List Int) (w : World) (h : Nums .u8 w A n cap zs) (hn : n ≤ 1048576) :
    Calls Tryd.prog 22 #[.slice A n cap] w fun e w' => ∃ B k c qs G m d ys, e = .returned (.tuple #[.slice B k c, .slice G m d]) ∧ DI2 w B k c qs G m d ys w' := by
  obtain ⟨i0, hi, ia, ib, ic⟩ := info_parts infoI
  go_enter Tryd.func22, Tryd.ntmps22
  go_wp2_with (first
    | (go_at_call 58; ((with_reducible refine (opN A n cap zs _ h hn).mono ?_); rintro e w1 ⟨rfl, hr, hb, hlt⟩; clear h))
    | (go_at_call 64; ((with_reducible refine (coins_ok w.heap.size 9 _ _ hr ?_ ?_ ?_).mono ?_); (omega); (omega); (omega); rintro e w2 ⟨B, k, c, qs, rfl, hB, k1, k2, k3, k4, hr2, hs⟩; have hw := hb.trans hs.1; have hB2 := Lib.hid hB; have hlt2 := hr2.lt; have T := IS.mk0 hr2 (Stp.refl _ w2) hlt2; clear hr hs hb hB hr2)))
  go_loopw [6, 7] (fun v i wr => ∃ (ys : List Int) (j g d : Nat), i = .int .i64 j ∧ j ≤ k ∧ v = .slice (some ⟨g, 0, none⟩) j d ∧ IS w2 wr w.heap.size (30 + 2 * j) j g d ys) (fun _ i _ => k - (intOf i).toNat)
  case atStart => exact ⟨[], 0, _, _, rfl, by omega, rfl, T.le (by omega)⟩
  case round =>
    clear T
    obtain ⟨ys, j, g, d, rfl, hj, rfl, T⟩ := hrel
    have hgc := T.2.2.2.2.2.2
    have hsz := T.2.1.2.1
    by_cases hlt3 : j < k
    · go_wp2_with (first
        | (go_at_call 66; ((with_reducible refine (pk _ _ _ _ (IS.rb T) ?_ ?_ ?_).mono ?_); (omega); (omega); (omega); rintro e w5 ⟨x5, rfl, y5, z5, hr, hs⟩; have T5 := T.step hr hs; clear hr hs T))
        | (go_at_call 66; ((with_reducible refine (pk _ _ _ _ (IS.rb T5) ?_ ?_ ?_).mono ?_); (omega); (omega); (omega); rintro e w6 ⟨x6, rfl, y6, z6, hr, hs⟩; have T6 := T5.step hr hs; clear hr hs T5; have hsz2 := T6.2.1.2.1))
        | (at_builtin; refine wpList_append_own _ rfl _ _ 30 rfl w2.heap.size 3 i0 (.int .i64 0) 1 8 Tryd.underlying30 hi ia ib ic rfl (by decide) _ _ _ rfl (IS.own (IS.alloc T6 _)) ⟨w6.heap.size, 0, none⟩ 1 1 [.int .i64 (x5 - x6 / 29 * 9)] rfl rfl ?c1 ?c2 ?c3 ?c4 ?c5 ?_))
      case c1 => exact cell_one_new _ _ _
      case c2 => simp [Value.oneCell']
      case c3 => unfold maxLen; omega
      case c4 => omega
      case c5 => simp; omega
      intro v' w7 hown1 hgrow _
      obtain ⟨g', c', rfl, T'⟩ := T6.app hown1 hgrow (by unfold Sm; omega)
      clear hown1 hgrow
      go_wp2
      go_roundw
      case rel => exact ⟨_, j + 1, g', c', by go_num, by omega, rfl, T'.le (by omega)⟩
      case measure => simp [intOf]; omega
    · obtain rfl : j = k := by omega
      go_upto_if 30 with (go_at_call 67; ((with_reducible refine (od _ 14 _ _ (IS.rb T) ?_ ?_ ?_).mono ?_); (omega); (omega); (omega); rintro e w6 ⟨o, rfl, _, hr, hs⟩; have T6 := T.step hr hs; clear hr hs T; have hsz2 := T6.2.1.2.1))
      cases o
      · go_wp2_with fail
        refine bodyPost_ret (v := .tuple #[.slice B j c, .slice (some ⟨g, 0, none⟩) j d]) (by simp [results, Tryd.results22, go_sem]) rfl ?_
        exact ⟨B, j, c, qs, _, j, d, rfl, ys, hB2.out _ T6.2.1, T6.ints, by omega, by omega, k2, hgc.2.1, k3, hgc.2.2, k4, T6.2.2.2.2.2.1, hw.trans T6.2.1.1⟩
      · go_wp2_with (at_builtin; refine wpList_append_own _ rfl _ _ 30 rfl w2.heap.size 3 i0 (.int .i64 0) 1 8 Tryd.underlying30 hi ia ib ic rfl (by decide) _ _ _ rfl (IS.own (IS.alloc T6 _)) ⟨w6.heap.size, 0, none⟩ 1 1 [.int .i64 1] rfl rfl ?c1 ?c2 ?c3 ?c4 ?c5 ?_)
        case c1 => exact cell_one_new _ _ _
        case c2 => simp [Value.oneCell']
        case c3 => unfold maxLen; omega
        case c4 => omega
        case c5 => simp; omega
        intro v' w7 hown1 hgrow _
        obtain ⟨g', c', rfl, T'⟩ := T6.app hown1 hgrow (by unfold Sm; omega)
        clear hown1 hgrow
        have hgc2 := T'.2.2.2.2.2.2
        go_wp2
        refine bodyPost_ret (v := .tuple #[.slice B j c, .slice (some ⟨g', 0, none⟩) (j + 1) c']) (by simp [results, Tryd.results22, go_sem]) rfl ?_
        exact ⟨B, j, c, qs, _, j + 1, c', _, rfl, hB2.out _ T'.2.1, T'.ints, by omega, by omega, k2, hgc2.2.1, k3, hgc2.2.2, k4, T'.2.2.2.2.2.1, hw.trans T'.2.1.1⟩
def SI (e : Ending) (w w' : World) (r B : Nat) : Prop := ∃ x, e = .returned (.int .i64 x) ∧ Sm x ∧ RB w' r B ∧ Stp r w w'
set_option maxRecDepth 100000 in
set_option maxHeartbeats 1000000 in
theorem amount_sm (r : Nat) (B : Nat) (w : World) (h : RB w r B) (hB : B ≤ 800000000) :
    Calls Tryd.prog 88 #[.pointer (some ⟨r, 0, none⟩)] w fun e w' => SI e w w' r (B + 4) := by
  have HT := Stp.refl r w
  go_enter Tryd.func88, Tryd.ntmps88
  go_wp2_with (go_at_call 66; first
    | ((with_reducible refine (pk r _ _ _ h ?_ ?_ ?_).mono ?_); (omega); (omega); (omega); rintro e w1 ⟨x1, rfl, y1, z1, h1, hs⟩; have HT1 := HT.trans hs; clear h HT hs)
    | ((with_reducible refine (pk r _ _ _ h1 ?_ ?_ ?_).mono ?_); (omega); (omega); (omega); rintro e w2 ⟨x2, rfl, y2, z2, h2, hs⟩; have HT2 := HT1.trans hs; clear h1 HT1 hs)
    | ((with_reducible refine (pk r _ _ _ h2 ?_ ?_ ?_).mono ?_); (omega); (omega); (omega); rintro e w3 ⟨x3, rfl, y3, z3, h3, hs⟩; have HT3 := HT2.trans hs; clear h2 HT2 hs)
    | ((with_reducible refine (pk r _ _ _ h3 ?_ ?_ ?_).mono ?_); (omega); (omega); (omega); rintro e w4 ⟨x4, rfl, y4, z4, h4, hs⟩; have HT4 := HT3.trans hs; clear h3 HT3 hs))
  go_ret
  exact ⟨_, rfl, by unfold Sm; omega, h4.le (by omega), HT4⟩
/-- a drawn list and an amount -/
def DP (w : World) (r B' : Nat) (e : Ending) (w' : World) : Prop :=
  ∃ B k c qs m, e = .returned (.tuple #[.slice B k c, .int .i64 m]) ∧ (∀ w2, Stp r w' w2 → Ints w2 B k qs) ∧ k ≤ 9 ∧ k ≤ c ∧ c ≤ maxLen ∧ (∀ z ∈ qs, Sm z) ∧ Sm m ∧ RB w' r B' ∧ Stp r w w'
set_option maxRecDepth 100000 in
theorem pay_ok (r : Nat) (B : Nat) (w : World) (h : RB w r B) (hB : B ≤ 700000000) :
    Calls Tryd.prog 74 #[.pointer (some ⟨r, 0, none⟩)] w (DP w r (B + 40)) := by
  go_enter Tryd.func74, Tryd.ntmps74
  go_wp2_with (first
    | (go_at_call 64; ((with_reducible refine (coins_ok r 9 _ _ h ?_ ?_ ?_).mono ?_); (omega); (omega); (omega); rintro e w2 ⟨G, k, c, qs, rfl, hB1, k1, k2, k3, k4, hr2, hs⟩; have HB1 := Lib.hid hB1; clear h hB1))
    | (go_at_call 88; ((with_reducible refine (amount_sm r _ _ hr2 ?_).mono ?_); (omega); rintro e w3 ⟨x, rfl, hx, hr3, hs3⟩)))
  refine bodyPost_ret (v := .tuple #[.slice G k c, .int .i64 x]) (by simp [results, Tryd.results74, go_sem]) rfl ?_
  exact ⟨G, k, c, qs, x, rfl, fun w2 h2 => HB1.out _ (hs3.trans h2), by omega, k2, k3, k4, hx, hr3.le (by omega), hs.trans hs3⟩
/-- a drawn list and an amount, without the reader -/
def DPA (w : World) (B : Option Addr) (k c : Nat) (qs : List Int) (m : Int) (w' : World) : Prop := Ints w' B k qs ∧ k ≤ 9 ∧ k ≤ c ∧ c ≤ maxLen ∧ (∀ z ∈ qs, Sm z) ∧ Sm m ∧ Below w.heap.size w w'
set_option maxRecDepth 100000 in
theorem drawCoinsLeast_ok (A : Option Addr) (n cap : Nat) (zs : List Int) (w : World) (h : Nums .u8 w A n cap zs) (hn : n ≤ 1048576) :
    Calls Tryd.prog 33 #[.slice A n cap] w fun e w' => ∃ B k c qs m, e = .returned (.tuple #[.slice B k c, .int .i64 m]) ∧ DPA w B k c qs m w' := by
  go_enter Tryd.func33, Tryd.ntmps33
  go_wp2_with (first
    | (go_at_call 58; ((with_reducible refine (opN A n cap zs _ h hn).mono ?_); rintro e w1 ⟨rfl, hr, hb, hlt⟩; clear h))
    | (go_at_call 74; ((with_reducible refine (pay_ok w.heap.size _ _ hr ?_).mono ?_); (omega); rintro e w2 ⟨B, k, c, qs, m, rfl, hB, k1, k2, k3, k4, k5, hr2, hs⟩; have hw := hb.trans hs.1; have hB2 := Lib.hid (hB _ (Stp.refl _ _)); clear hr hs hb hB)))
  refine bodyPost_ret (v := .tuple #[.slice B k c, .int .i64 m]) (by simp [results, Tryd.results33, go_sem]) rfl ?_
  exact ⟨_, _, _, qs, _, rfl, hB2.out, k1, k2, k3, k4, k5, hw⟩
set_option maxRecDepth 100000 in
theorem drawCoinsFor_ok (A : Option Addr) (n cap : Nat) (zs : List Int) (w : World) (h : Nums .u8 w A n cap zs) (hn : n ≤ 1048576) :
    Calls Tryd.prog 44 #[.slice A n cap] w fun e w' => ∃ B k c qs m, e = .returned (.tuple #[.slice B k c, .int .i64 m]) ∧ DPA w B k c qs m w' := by
  go_enter Tryd.func44, Tryd.ntmps44
  go_wp2_with (first
    | (go_at_call 58; ((with_reducible refine (opN A n cap zs _ h hn).mono ?_); rintro e w1 ⟨rfl, hr, hb, hlt⟩; clear h))
    | (go_at_call 74; ((with_reducible refine (pay_ok w.heap.size _ _ hr ?_).mono ?_); (omega); rintro e w2 ⟨B, k, c, qs, m, rfl, hB, k1, k2, k3, k4, k5, hr2, hs⟩; have hw := hb.trans hs.1; have hB2 := Lib.hid (hB _ (Stp.refl _ _)); clear hr hs hb hB)))
  refine bodyPost_ret (v := .tuple #[.slice B k c, .int .i64 m]) (by simp [results, Tryd.results44, go_sem]) rfl ?_
  exact ⟨_, _, _, qs, _, rfl, hB2.out, k1, k2, k3, k4, k5, hw⟩
set_option maxRecDepth 100000 in
theorem drawCoinsGreedy_ok (A : Option Addr) (n cap : Nat) (zs : List Int) (w : World) (h : Nums .u8 w A n cap zs) (hn : n ≤ 1048576) :
    Calls Tryd.prog 37 #[.slice A n cap] w fun e w' => ∃ B k c qs m, e = .returned (.tuple #[.slice B k c, .int .i64 m]) ∧ DPA w B k c qs m w' := by
  go_enter Tryd.func37, Tryd.ntmps37
  go_wp2_with (first
    | (go_at_call 58; ((with_reducible refine (opN A n cap zs _ h hn).mono ?_); rintro e w1 ⟨rfl, hr, hb, hlt⟩; clear h))
    | (go_at_call 74; ((with_reducible refine (pay_ok w.heap.size _ _ hr ?_).mono ?_); (omega); rintro e w2 ⟨B, k, c, qs, m, rfl, hB, k1, k2, k3, k4, k5, hr2, hs⟩; have hw := hb.trans hs.1; have hB2 := Lib.hid (hB _ (Stp.refl _ _)); clear hr hs hb hB)))
  refine bodyPost_ret (v := .tuple #[.slice B k c, .int .i64 m]) (by simp [results, Tryd.results37, go_sem]) rfl ?_
  exact ⟨_, _, _, qs, _, rfl, hB2.out, k1, k2, k3, k4, k5, hw⟩
end Go.Proofs.YtjijaejlcbailaaDoor
