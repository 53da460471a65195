/- The walk of the law on DeskAsk: the program returns what the reference returns, in new memory. No condition. -/
import Derived.Test.YtoiaggjjfahabaaAskI
import Derived.Test.YtoiaggjjfahabaaAskS
import Derived.Test.YtoiaggjjfahabaaLDv
namespace Go.Proofs.Ytoiaggjjfahabaa
open Go.RowKit
set_option linter.unusedVariables false
/-- what DeskAsk hands back -/
def ResD (w : World) (P N : Int) (n m : Nat) (T R : List Quad) (e : Ending) (w' : World) : Prop :=
  ∃ A c B d, e = .returned (.tuple #[.agg #[.int .i64 P, .slice A n c, .slice B m d], .int .i64 N]) ∧ OwnD w' w.heap.size w'.heap.size A n T B m R ∧ Below w.heap.size w w'
theorem OwnD.len {w : World} {lo hi n m : Nat} {A B : Option Addr} {ts rs : List Quad} (a : OwnD w lo hi A n ts B m rs) : ts.length = n ∧ rs.length = m := ⟨a.left.1, a.right.1⟩
theorem AskE.res {w w' : World} {P : Int} {ts rs : List Quad} {q : Quad} {K : Nat} {e : Ending} (h : AskE w P ts rs q K e w') : ResD w (askP P K) (askN K) (askT ts q K).length (askR rs q K).length (askT ts q K) (askR rs q K) e w' := by
  obtain ⟨A, n, c, B, m, d, he, hO, _, _, hb⟩ := h
  obtain ⟨rfl, rfl⟩ := hO.len
  exact ⟨A, c, B, d, he, hO, hb⟩
theorem mark_x (P : Int) (A B : Option Addr) (n m c1 c2 lo hi : Nat) (ts rs : List Quad) (w : World) (h : OwnD w lo hi A n ts B m rs) (hhi : hi ≤ w.heap.size) (hn : n ≤ 1048577) (hm : m ≤ 1048577) (x : Int) (hx : 1 + 4 * (n : Int) + 4 * (m : Int) = x) :
    Calls Try.prog 23 #[.agg #[.int .i64 P, .slice A n c1, .slice B m c2], .int .i64 1] w fun e w' => e = .returned (.int .i64 x) ∧ OwnD w' lo hi A n (mqs 1 n) B m (mqs (1 + 4 * n) m) ∧ Chg lo hi w w' := by
  rw [← hx]
  exact markDesk_any P A B n m c1 c2 lo hi ts rs 1 w h hhi (by omega) (by omega) (by omega) (by omega)
theorem held_x (P : Int) (A B : Option Addr) (n m c1 c2 : Nat) (w : World) (h : Books w A n (mqs 1 n)) (h' : Books w B m (mqs (1 + 4 * n) m)) (hn : n ≤ 1048577) (hm : m ≤ 1048577) (x : Int) (hx : 1 + 4 * (n : Int) + 4 * (m : Int) = x) :
    Calls Try.prog 24 #[.agg #[.int .i64 P, .slice A n c1, .slice B m c2], .int .i64 1] w fun e w' => e = .returned (.int .i64 x) ∧ Below w.heap.size w w' := by
  rw [← hx]
  exact heldDesk_any P A B n m c1 c2 1 w h h' (by omega) (by omega) (by omega) (by omega)
/-- the law's arguments -/
def LB (w : World) (P : Int) (A B : Option Addr) (n cap m cap2 : Nat) (q : Quad) (w' : World) : Prop :=
  Below w.heap.size w w' ∧ Blk w' w.heap.size 34 #[.int .i64 P, .slice A n cap, .slice B m cap2] ∧ Blk w' (w.heap.size + 1) 43 #[.int .i64 q.a, .int .i64 q.b, .int .i64 q.c, .int .i64 q.d]
theorem Blk.nx {w w' : World} {g : Nat} {t : TypeId} {cs : Array Value} (h : Blk w g t cs) (hb : Below w.heap.size w w') : Blk w' g t cs := h.below hb h.lt
theorem Blk.ch {w w' : World} {g lo hi : Nat} {t : TypeId} {cs : Array Value} (h : Blk w g t cs) (c : Chg lo hi w w') (hd : g < lo ∨ hi ≤ g) : Blk w' g t cs := (c.block g h.lt hd).trans h
theorem LB.below {w w' w'' : World} {P : Int} {A B : Option Addr} {n cap m cap2 : Nat} {q : Quad} (h : LB w P A B n cap m cap2 q w') (hb : Below w'.heap.size w' w'') : LB w P A B n cap m cap2 q w'' := ⟨bt h.1 hb, h.2.1.nx hb, h.2.2.nx hb⟩
theorem LB.ch {w w' w'' : World} {P : Int} {A B : Option Addr} {n cap m cap2 lo hi : Nat} {q : Quad} (h : LB w P A B n cap m cap2 q w') (c : Chg lo hi w' w'') (hl : w.heap.size + 1 < lo) : LB w P A B n cap m cap2 q w'' :=
  ⟨h.1.trans (c.below (by omega) h.1.size), h.2.1.ch c (by omega), h.2.2.ch c (by omega)⟩
theorem OwnD.wide {w : World} {lo hi lo' hi' n m : Nat} {A B : Option Addr} {ts rs : List Quad} (a : OwnD w lo hi A n ts B m rs) (h1 : lo' ≤ lo) (h2 : hi ≤ hi') : OwnD w lo' hi' A n ts B m rs := by
  obtain ⟨l, h, l', h', c1, c2, c3, c4, c5, c6, c7, q, q'⟩ := a
  exact ⟨l, h, l', h', by omega, by omega, by omega, by omega, c5, c6, c7, q, q'⟩
/-- a result in a variable of its own -/
def ResV (w : World) (zs : Nat) (P : Int) (T R : List Quad) (g l h : Nat) (A : Option Addr) (n c : Nat) (B : Option Addr) (m d : Nat) (w' : World) : Prop :=
  Below w.heap.size w w' ∧ Blk w' g 38 #[.int .i64 P, .slice A n c, .slice B m d] ∧ OwnD w' l h A n T B m R ∧ zs ≤ l ∧ zs ≤ g ∧ h ≤ w'.heap.size ∧ (g < l ∨ h ≤ g)
theorem kp_at {B : Nat} {W X w3 : World} (hb : Below X.heap.size X w3) (h : Below B W X ∧ ∀ (k o : Nat), k < B → X.cell? ⟨k, o, none⟩ = W.cell? ⟨k, o, none⟩) : Below B W X := h.1
theorem res_new {W X w3 : World} {P : Int} {T R : List Quad} {A : Option Addr} {n c : Nat} {B : Option Addr} {m d : Nat} (hX : Below W.heap.size W X) (hO : OwnD w3 X.heap.size w3.heap.size A n T B m R) (hb : Below X.heap.size X w3) :
    ResV W W.heap.size P T R w3.heap.size X.heap.size w3.heap.size A n c B m d (w3.alloc (.cells #[.int .i64 P, .slice A n c, .slice B m d] 38)) := by
  have ha : Below w3.heap.size w3 (w3.alloc (.cells #[.int .i64 P, .slice A n c, .slice B m d] 38)) := (Below.refl _ _).alloc (Nat.le_refl _) _
  exact ⟨bt (bt hX hb) ha, Blk.new _ _ _, hO.below ha, hX.size, Nat.le_trans hX.size hb.size, ha.size, .inr (Nat.le_refl _)⟩
theorem res_set {W X w3 : World} {P : Int} {T R : List Quad} {A : Option Addr} {n c : Nat} {B : Option Addr} {m d g : Nat} {z : Array Value} (hz : z.size = 3) (hX : Below W.heap.size W X) (hO : OwnD w3 X.heap.size w3.heap.size A n T B m R) (hb : Below X.heap.size X w3) (h9 : Blk w3 g 38 z) (hg : g < X.heap.size) (hgW : W.heap.size ≤ g) :
    ResV W W.heap.size P T R g X.heap.size w3.heap.size A n c B m d (((w3.setCell ⟨g, 0, none⟩ (.int .i64 P)).setCell ⟨g, 1, none⟩ (.slice A n c)).setCell ⟨g, 2, none⟩ (.slice B m d)) := by
  have hC : Chg g (g + 1) w3 (((w3.setCell ⟨g, 0, none⟩ (.int .i64 P)).setCell ⟨g, 1, none⟩ (.slice A n c)).setCell ⟨g, 2, none⟩ (.slice B m d)) := ((Chg.refl.of_set (p := ⟨g, 0, none⟩) _ (Nat.le_refl _) (Nat.lt_succ_self _)).of_set (p := ⟨g, 1, none⟩) _ (Nat.le_refl _) (Nat.lt_succ_self _)).of_set (p := ⟨g, 2, none⟩) _ (Nat.le_refl _) (Nat.lt_succ_self _)
  have hs := ((h9.set_ 0 (.int .i64 P)).set_ 1 (.slice A n c)).set_ 2 (.slice B m d)
  have hsz : (((w3.setCell ⟨g, 0, none⟩ (.int .i64 P)).setCell ⟨g, 1, none⟩ (.slice A n c)).setCell ⟨g, 2, none⟩ (.slice B m d)).heap.size = w3.heap.size := by simp
  obtain ⟨z0, z1, z2, rfl⟩ : ∃ z0 z1 z2, z = #[z0, z1, z2] := by
    match z, hz with
    | ⟨[a, b, c]⟩, _ => exact ⟨a, b, c, rfl⟩
  simp only [List.setIfInBounds_toArray, List.set_cons_zero, List.set_cons_succ] at hs
  exact ⟨(bt hX hb).trans (hC.below hgW (Nat.le_trans hX.size hb.size)), hs, hO.chg hC (by omega), hX.size, hgW, by rw [hsz]; exact Nat.le_refl _, .inl hg⟩
set_option maxRecDepth 100000 in
set_option maxHeartbeats 8000000 in
theorem FnExactDeskAsk_walk (w : World) (P : Int) (_ : In64 P) (A : Option Addr) (n cap : Nat) (ts : List Quad) (q1 : Quads w A n cap ts) (B : Option Addr) (m cap2 : Nat) (rs : List Quad) (q2 : Quads w B m cap2 rs) (a : Int) (_ : In64 a) (b : Int) (_ : In64 b) (c : Int) (_ : In64 c) (d : Int) (_ : In64 d) :
    Calls Try.prog 5 #[.agg #[.int .i64 P, .slice A n cap, .slice B m cap2], .agg #[.int .i64 a, .int .i64 b, .int .i64 c, .int .i64 d]] w fun e w' => e = .returned (.bool true) ∧ Below w.heap.size w w' := by
  have hA := q1.books
  have hB := q2.books
  have hn := q1.len
  have hm := q2.len
  clear q1 q2
  have hb0 : Below w.heap.size w ((w.alloc (.cells #[.int .i64 P, .slice A n cap, .slice B m cap2] 34)).alloc (.cells #[.int .i64 a, .int .i64 b, .int .i64 c, .int .i64 d] 43)) := by (repeat (first | exact Below.refl _ _ | assumption | refine Below.alloc ?_ (by first | omega | (simp; done) | (simp; omega)) _ | refine Below.drew ?_ | refine bdN ?_ _ | refine Below.setCell ?_ (by first | omega | (simp; done) | (simp; omega)) _))
  have X1 := (Blk.new w 34 #[.int .i64 P, .slice A n cap, .slice B m cap2]).alloc (.cells #[.int .i64 a, .int .i64 b, .int .i64 c, .int .i64 d] 43)
  have X2 := Blk.new (w.alloc (.cells #[.int .i64 P, .slice A n cap, .slice B m cap2] 34)) 43 #[.int .i64 a, .int .i64 b, .int .i64 c, .int .i64 d]
  rw [show (w.alloc (.cells #[.int .i64 P, .slice A n cap, .slice B m cap2] 34)).heap.size = w.heap.size + 1 by simp] at X2
  by_cases l1 : n ≤ 1048576
  case neg =>
    go_enter Try.func5, Try.ntmps5
    go_wp2_with (go_at_call 15; refine (szDesk_big1 P A B n cap m cap2 _ hn (by omega)).mono ?_; rintro e w' ⟨rfl, hb⟩)
    go_ret
    exact ⟨rfl, bt hb0 hb⟩
  have SZ := Lib.hid (fun w' => szDesk_any P A B n cap m cap2 w' l1 hm)
  have HA := Lib.hid hA
  have HB := Lib.hid hB
  go_enter Try.func5, Try.ntmps5
  go_wp2_with fail
  generalize ((w.alloc (.cells #[.int .i64 P, .slice A n cap, .slice B m cap2] 34)).alloc (.cells #[.int .i64 a, .int .i64 b, .int .i64 c, .int .i64 d] 43)) = W0 at *
  have HL := Lib.hid (show LB w P A B n cap m cap2 ⟨a, b, c, d⟩ W0 from ⟨hb0, X1, X2⟩)
  clear hA hB hb0 X1 X2
  refine (SZ.out _).mono ?_
  rintro e w1 ⟨⟨r, rfl, hr⟩, hb⟩
  replace HL := Lib.hid (HL.out.below hb)
  clear hb SZ
  rcases hr with ⟨hr, hnm⟩ | hr
  case inr =>
    have c1 : decide (r < 0) = true := by simpa using hr
    go_wp2
    go_ret
    exact ⟨rfl, HL.out.1⟩
  have c1 : decide (r < 0) = false := by simpa using hr
  obtain ⟨K, hK⟩ : ∃ K, askK P ts rs ⟨a, b, c, d⟩ = K := ⟨_, rfl⟩
  have DS0 : ∀ g g' w', Books w' (some ⟨g, 0, none⟩) n ts → Books w' (some ⟨g', 0, none⟩) m rs → Calls Try.prog 20 #[.agg #[.int .i64 P, .slice (some ⟨g, 0, none⟩) n n, .slice (some ⟨g', 0, none⟩) m m], .agg #[.int .i64 a, .int .i64 b, .int .i64 c, .int .i64 d]] w' (ResD w' (askP P K) (askN K) (askT ts ⟨a, b, c, d⟩ K).length (askR rs ⟨a, b, c, d⟩ K).length (askT ts ⟨a, b, c, d⟩ K) (askR rs ⟨a, b, c, d⟩ K)) := fun g g' w' h h' => (DeskAsk_s P g g' n m ts rs a b c d w' h h' l1 (by omega) K hK).mono fun _ _ h => h.res
  have DI0 : ∀ g g' w', Books w' (some ⟨g, 0, none⟩) n ts → Books w' (some ⟨g', 0, none⟩) m rs → Calls Try.prog 22 #[.agg #[.int .i64 P, .slice (some ⟨g, 0, none⟩) n n, .slice (some ⟨g', 0, none⟩) m m], .agg #[.int .i64 a, .int .i64 b, .int .i64 c, .int .i64 d]] w' (ResD w' (askP P K) (askN K) (askT ts ⟨a, b, c, d⟩ K).length (askR rs ⟨a, b, c, d⟩ K).length (askT ts ⟨a, b, c, d⟩ K) (askR rs ⟨a, b, c, d⟩ K)) := fun g g' w' h h' => (DeskAsk_i P g g' n m ts rs a b c d w' h h' l1 (by omega) K hK).mono fun _ _ h => h.res
  have hlen := ask_lens ts rs ⟨a, b, c, d⟩ K
  rw [HA.out.1, HB.out.1] at hlen
  generalize (askT ts ⟨a, b, c, d⟩ K).length = nT at *
  generalize (askR rs ⟨a, b, c, d⟩ K).length = mR at *
  have hnT : nT ≤ 1048577 := by omega
  have hmR : mR ≤ 1048577 := by omega
  clear hlen
  generalize askP P K = Q at *
  generalize askN K = N at *
  generalize askT ts ⟨a, b, c, d⟩ K = T at *
  generalize askR rs ⟨a, b, c, d⟩ K = R at *
  have DS := Lib.hid DS0
  have DI := Lib.hid DI0
  clear DS0 DI0 hK K
  have TD := Lib.hid (fun w' (hb : Below w.heap.size w w') => toDesk_any P A B n cap m cap2 ts rs w' (HA.out.below hb) (HB.out.below hb) l1 (by omega))
  have TB := Lib.hid (fun w' => toBook_any a b c d w')
  have e0 : (N != N) = false := by simp
  have lw := HL.out.2.2.lt
  have lw0 := HL.out.2.1.lt
  have C1 := HL.out.2.1.cell
  have C2 := HL.out.2.2.cell
  go_upto_region 5 with fail
  have HLw := Lib.hid HL.out
  go_cut [6, 7] (fun s6 s7 wx => ∃ g l h G1 c1 G2 c2, s6 = .pointer (some ⟨g, 0, none⟩) ∧ s7 = .int .i64 N ∧ ResV w1 w1.heap.size Q T R g l h G1 nT c1 G2 mR c2 wx)
  case first =>
    go_region_held3 (fun w' => Below (w1.heap.size) (w1) w' ∧ ∀ k o, k < w1.heap.size → w'.cell? ⟨k, o, none⟩ = World.cell? (w1) ⟨k, o, none⟩) (first | (first | assumption | exact kp_start | (refine kp_step ?_ hb ?_; assumption; (first | omega | (simp; done) | (simp; omega))) | (refine kp_drew ?_; assumption) | (refine kp_drew (kp_of hb ?_); (first | omega | (simp; done) | (simp; omega)))) | exact kp_drew (kp_alloc ⟨Below.refl _ _, fun _ _ _ => rfl⟩ (Nat.le_refl _) _) | (refine kp_alloc ?_ (Nat.le_refl _) _; assumption) | (refine kp_set (kp_set (kp_set ?_ ?_ _) ?_ _) ?_ _; (assumption); (exact B9g); (exact B9g); (exact B9g)) | (refine kp_realloc (x := .cells #[.int .i64 0, .slice none 0 0, .slice none 0 0] 38) ?_ B3g; assumption)) (first
      | (go_at_call 17; refine (TD.out _ (bt HL.out.1 (by (refine kp_end (by assumption) ?_ (by first | omega | (simp; done) | (simp; omega)); (repeat (first | exact Below.refl _ _ | assumption | refine Below.alloc ?_ (by first | omega | (simp; done) | (simp; omega)) _ | refine Below.drew ?_ | refine bdN ?_ _ | refine Below.setCell ?_ (by first | omega | (simp; done) | (simp; omega)) _)))))).mono ?_; rintro e x1 ⟨g, g', rfl, _, _, hR, hR', hb⟩; have H1 := Lib.hid hb; have HR := Lib.hid hR; have HR' := Lib.hid hR'; clear hR hR')
      | (go_at_call 21; refine (TB.out _).mono ?_; rintro e x2 ⟨rfl, hb⟩; have H2 := Lib.hid hb)
      | (go_at_call 20; refine (DS.out g g' _ (HR.out.books.below (by (first | exact hb | exact hb.alloc hb.size _ | exact ((Below.refl _ _).alloc (Nat.le_refl _) _).trans (hb.mono (by simp))))) (HR'.out.books.below (by (first | exact hb | exact hb.alloc hb.size _ | exact ((Below.refl _ _).alloc (Nat.le_refl _) _).trans (hb.mono (by simp)))))).mono ?_; rintro e x3 ⟨G1, c1', G2, c2', rfl, hO, hb⟩; have HO := Lib.hid hO; have H3 := Lib.hid hb; have HX := Lib.hid (kp_at (B := w1.heap.size) (W := w1) hb (by assumption)); have B3g := (kp_step (B := w1.heap.size) (W := w1) (by assumption) hb (Nat.le_refl _)).1.size; (first | (have B9 := (((Blk.new w1 38 #[.int .i64 0, .slice none 0 0, .slice none 0 0]).drew.nx H1.out).nx H2.out).nx hb; have C9 := B9.cell; have F9 := B9.frozen; have B9g := Nat.le_refl w1.heap.size; have B9l := (((Blk.new w1 38 #[.int .i64 0, .slice none 0 0, .slice none 0 0]).drew.nx H1.out).nx H2.out).lt) | (have B9 := ((Blk.new x1 38 #[.int .i64 0, .slice none 0 0, .slice none 0 0]).nx H2.out).nx hb; have C9 := B9.cell; have F9 := B9.frozen; have B9g : w1.heap.size ≤ x1.heap.size := H1.out.size; have B9l := ((Blk.new x1 38 #[.int .i64 0, .slice none 0 0, .slice none 0 0]).nx H2.out).lt) | (have B9 := (Blk.new x2 38 #[.int .i64 0, .slice none 0 0, .slice none 0 0]).nx hb; have C9 := B9.cell; have F9 := B9.frozen; have B9g : w1.heap.size ≤ x2.heap.size := Nat.le_trans H1.out.size (Nat.le_trans (by simp) H2.out.size); have B9l := (Blk.new x2 38 #[.int .i64 0, .slice none 0 0, .slice none 0 0]).lt) | skip); clear hO))
    all_goals (
      go_wp2_with fail
      go_meet
      first
        | exact ⟨_, _, _, G1, c1', G2, c2', rfl, rfl, res_new HX.out HO.out H3.out⟩
        | exact ⟨_, _, _, G1, c1', G2, c2', rfl, rfl, res_set rfl HX.out HO.out H3.out B9 B9l B9g⟩)
  case rest =>
    obtain ⟨g6, l6, h6, G1, c6, G2, d6, rfl, rfl, hV⟩ := hcut
    generalize wc = v1 at *
    replace HL := Lib.hid (HL.out.below hV.1)
    clear C1 C2 HLw DS
    have C1 := HL.out.2.1.cell
    have C2 := HL.out.2.2.cell
    have lv1 := hV.1.size
    have lg6 := hV.2.1.lt
    have lh6 := hV.2.2.2.2.2.1
    have b6 := Lib.hid hV.2.1
    have hW := Lib.hid hV.2.2.1
    clear hV
    go_upto_region 6 with fail
    go_wp2_with fail
    refine (TD.out _ HL.out.1).mono ?_
    rintro e v2 ⟨p, p', rfl, hp1, hp2, hR, hR', hb⟩
    have hX0 : OwnD v2 v1.heap.size v2.heap.size (some ⟨p, 0, none⟩) n ts (some ⟨p', 0, none⟩) m rs := OwnD.of_b ⟨hR.1, .inr ⟨p, rfl, hp1, hR.lt, hR⟩⟩ ⟨hR'.1, .inr ⟨p', rfl, by omega, hR'.lt, hR'⟩⟩ hb.size (.inr (fun e => by cases e; omega))
    have hAl : Below v2.heap.size v2 (v2.alloc (.cells #[.int .i64 P, .slice (some ⟨p, 0, none⟩) n n, .slice (some ⟨p', 0, none⟩) m m] 38)) := (Below.refl _ _).alloc (Nat.le_refl _) _
    have b8 := Lib.hid (Blk.new v2 38 #[.int .i64 P, .slice (some ⟨p, 0, none⟩) n n, .slice (some ⟨p', 0, none⟩) m m])
    have hX := Lib.hid (hX0.below hAl)
    replace HL := Lib.hid ((HL.out.below hb).below hAl)
    replace b6 := Lib.hid ((b6.out.nx hb).nx hAl)
    replace hW := Lib.hid ((hW.out.below hb).below hAl)
    have lv2 := hb.size
    have lv3 : v2.heap.size < (v2.alloc (.cells #[.int .i64 P, .slice (some ⟨p, 0, none⟩) n n, .slice (some ⟨p', 0, none⟩) m m] 38)).heap.size := by simp
    clear C1 C2 hR hR' hX0 hb hAl hp1 hp2
    go_upto_region 7 with fail
    generalize (v2.alloc (.cells #[.int .i64 P, .slice (some ⟨p, 0, none⟩) n n, .slice (some ⟨p', 0, none⟩) m m] 38)) = v3 at *
    have C1 := HL.out.2.1.cell
    have C2 := HL.out.2.2.cell
    have C8 := b8.out.cell
    have ly := HL.out.2.2.lt
    have ly0 := HL.out.2.1.lt
    go_cut [9, 10] (fun s6 s7 wx => ∃ g l h G1 c1 G2 c2, s6 = .pointer (some ⟨g, 0, none⟩) ∧ s7 = .int .i64 N ∧ ResV v3 v3.heap.size Q T R g l h G1 nT c1 G2 mR c2 wx)
    case first =>
      go_region_held3 (fun w' => Below (v3.heap.size) (v3) w' ∧ ∀ k o, k < v3.heap.size → w'.cell? ⟨k, o, none⟩ = World.cell? (v3) ⟨k, o, none⟩) (first | (first | assumption | exact kp_start | (refine kp_step ?_ hb ?_; assumption; (first | omega | (simp; done) | (simp; omega))) | (refine kp_drew ?_; assumption) | (refine kp_drew (kp_of hb ?_); (first | omega | (simp; done) | (simp; omega)))) | exact kp_drew (kp_alloc ⟨Below.refl _ _, fun _ _ _ => rfl⟩ (Nat.le_refl _) _) | (refine kp_alloc ?_ (Nat.le_refl _) _; assumption) | (refine kp_set (kp_set (kp_set ?_ ?_ _) ?_ _) ?_ _; (assumption); (exact B9g); (exact B9g); (exact B9g)) | (refine kp_realloc (x := .cells #[.int .i64 0, .slice none 0 0, .slice none 0 0] 38) ?_ B3g; assumption)) (first
      | (go_at_call 21; refine (TB.out _).mono ?_; rintro e x2 ⟨rfl, hb⟩; have H2 := Lib.hid hb)
      | (go_at_call 22; refine (DI.out p p' _ (hX.out.left.below (by (refine kp_end (by assumption) ?_ (by first | omega | (simp; done) | (simp; omega)); (repeat (first | exact Below.refl _ _ | assumption | refine Below.alloc ?_ (by first | omega | (simp; done) | (simp; omega)) _ | refine Below.drew ?_ | refine bdN ?_ _ | refine Below.setCell ?_ (by first | omega | (simp; done) | (simp; omega)) _))))) (hX.out.right.below (by (refine kp_end (by assumption) ?_ (by first | omega | (simp; done) | (simp; omega)); (repeat (first | exact Below.refl _ _ | assumption | refine Below.alloc ?_ (by first | omega | (simp; done) | (simp; omega)) _ | refine Below.drew ?_ | refine bdN ?_ _ | refine Below.setCell ?_ (by first | omega | (simp; done) | (simp; omega)) _)))))).mono ?_; rintro e x3 ⟨G3, c1', G4, c2', rfl, hO, hb⟩; have HO := Lib.hid hO; have H3 := Lib.hid hb; have HX := Lib.hid (kp_at (B := v3.heap.size) (W := v3) hb (by assumption)); have B3g := (kp_step (B := v3.heap.size) (W := v3) (by assumption) hb (Nat.le_refl _)).1.size; (first | (have B9 := ((Blk.new v3 38 #[.int .i64 0, .slice none 0 0, .slice none 0 0]).drew.nx H2.out).nx hb; have C9 := B9.cell; have F9 := B9.frozen; have B9g := Nat.le_refl v3.heap.size; have B9l := ((Blk.new v3 38 #[.int .i64 0, .slice none 0 0, .slice none 0 0]).drew.nx H2.out).lt) | (have B9 := (Blk.new x2 38 #[.int .i64 0, .slice none 0 0, .slice none 0 0]).nx hb; have C9 := B9.cell; have F9 := B9.frozen; have B9g : v3.heap.size ≤ x2.heap.size := H2.out.size; have B9l := (Blk.new x2 38 #[.int .i64 0, .slice none 0 0, .slice none 0 0]).lt) | skip); clear hO))
      all_goals (
        go_wp2_with fail
        go_meet
        first
          | exact ⟨_, _, _, G3, c1', G4, c2', rfl, rfl, res_new HX.out HO.out H3.out⟩
          | exact ⟨_, _, _, G3, c1', G4, c2', rfl, rfl, res_set rfl HX.out HO.out H3.out B9 B9l B9g⟩)
    case rest =>
      obtain ⟨g9, l9, h9, G3, c9, G4, d9, rfl, rfl, hV⟩ := hcut
      generalize wc = v4 at *
      replace HL := Lib.hid (HL.out.below hV.1)
      replace b6 := Lib.hid (b6.out.nx hV.1)
      replace hW := Lib.hid (hW.out.below hV.1)
      replace b8 := Lib.hid (b8.out.nx hV.1)
      replace hX := Lib.hid (hX.out.below hV.1)
      have lv4 := hV.1.size
      have b9 := Lib.hid hV.2.1
      have hG := Lib.hid hV.2.2.1
      have lz9 := hV.2.2.2.1
      have lg9 := hV.2.2.2.2.1
      have lh9 := hV.2.2.2.2.2.1
      have la9 := hV.2.2.2.2.2.2
      clear hV C1 C2 C8
      have C1 := HL.out.2.1.cell
      have C2 := HL.out.2.2.cell
      have C6 := b6.out.cell
      have C8 := b8.out.cell
      have C9 := b9.out.cell
      go_wp2_with fail
      refine (eqDesk_yes Q G3 G4 G1 G2 nT mR c9 d9 c6 d6 T R _ hG.out.left hG.out.right hW.out.left hW.out.right (by omega) (by omega)).mono ?_
      rintro e v5 ⟨rfl, hb⟩
      replace HL := Lib.hid (HL.out.below hb)
      replace b6 := Lib.hid (b6.out.nx hb)
      replace hW := Lib.hid (hW.out.below hb)
      replace b8 := Lib.hid (b8.out.nx hb)
      replace hX := Lib.hid (hX.out.below hb)
      replace b9 := Lib.hid (b9.out.nx hb)
      replace hG := Lib.hid (hG.out.below hb)
      have lv5 := hb.size
      clear hb C1 C2 C6 C8 C9
      have C1 := HL.out.2.1.cell
      have C2 := HL.out.2.2.cell
      have C6 := b6.out.cell
      have C8 := b8.out.cell
      have C9 := b9.out.cell
      go_upto_region 10 with fail
      have ls := HL.out.2.2.lt
      have ls0 := HL.out.2.1.lt
      have ls8 := b8.out.lt
      go_region_held3 (fun w' => Below (v5.heap.size) (v5) w' ∧ ∀ k o, k < v5.heap.size → w'.cell? ⟨k, o, none⟩ = World.cell? (v5) ⟨k, o, none⟩) (first | assumption | exact kp_start | (refine kp_step ?_ hb ?_; assumption; (first | omega | (simp; done) | (simp; omega))) | (refine kp_drew ?_; assumption) | (refine kp_drew (kp_of hb ?_); (first | omega | (simp; done) | (simp; omega)))) (first
      | (go_at_call 17; refine (TD.out _ (bt HL.out.1 (by (refine kp_end (by assumption) ?_ (by first | omega | (simp; done) | (simp; omega)); (repeat (first | exact Below.refl _ _ | assumption | refine Below.alloc ?_ (by first | omega | (simp; done) | (simp; omega)) _ | refine Below.drew ?_ | refine bdN ?_ _ | refine Below.setCell ?_ (by first | omega | (simp; done) | (simp; omega)) _)))))).mono ?_; rintro e w' ⟨z, z', rfl, _, _, hR2, hR2', hb⟩)
      | (go_at_call 19; refine (eqDesk_yes P _ _ _ _ n m n m n m ts rs _ (hX.out.left.below (by (refine kp_end (by assumption) ?_ (by first | omega | (simp; done) | (simp; omega)); (repeat (first | exact Below.refl _ _ | assumption | refine Below.alloc ?_ (by first | omega | (simp; done) | (simp; omega)) _ | refine Below.drew ?_ | refine bdN ?_ _ | refine Below.setCell ?_ (by first | omega | (simp; done) | (simp; omega)) _))))) (hX.out.right.below (by (refine kp_end (by assumption) ?_ (by first | omega | (simp; done) | (simp; omega)); (repeat (first | exact Below.refl _ _ | assumption | refine Below.alloc ?_ (by first | omega | (simp; done) | (simp; omega)) _ | refine Below.drew ?_ | refine bdN ?_ _ | refine Below.setCell ?_ (by first | omega | (simp; done) | (simp; omega)) _))))) hR2.books hR2'.books (by omega) (by omega)).mono ?_; rintro e v6 ⟨rfl, hb⟩))
      have hb6 : Below v5.heap.size v5 v6 := by (refine kp_end (by assumption) ?_ (by first | omega | (simp; done) | (simp; omega)); (repeat (first | exact Below.refl _ _ | assumption | refine Below.alloc ?_ (by first | omega | (simp; done) | (simp; omega)) _ | refine Below.drew ?_ | refine bdN ?_ _ | refine Below.setCell ?_ (by first | omega | (simp; done) | (simp; omega)) _)))
      rename Below v5.heap.size v5 v6 ∧ _ => hHv
      clear hHv
      replace HL := Lib.hid (HL.out.below hb6)
      replace b6 := Lib.hid (b6.out.nx hb6)
      replace hW := Lib.hid (hW.out.below hb6)
      replace b8 := Lib.hid (b8.out.nx hb6)
      replace hX := Lib.hid (hX.out.below hb6)
      replace b9 := Lib.hid (b9.out.nx hb6)
      replace hG := Lib.hid (hG.out.below hb6)
      have lv6 := hb6.size
      clear hb hb6 hR2 hR2' C1 C2 C6 C8 C9
      have C1 := HL.out.2.1.cell
      have C2 := HL.out.2.2.cell
      have C6 := b6.out.cell
      have C8 := b8.out.cell
      have C9 := b9.out.cell
      obtain ⟨x, hx⟩ : ∃ x : Int, 1 + 4 * (n : Int) + 4 * (m : Int) = x := ⟨_, rfl⟩
      have hx0 : decide (x < 0) = false := by simp; omega
      have MX := Lib.hid (mark_x P (some ⟨p, 0, none⟩) (some ⟨p', 0, none⟩) n m n m v1.heap.size v2.heap.size ts rs v6 hX.out (by omega) (by omega) (by omega) x hx)
      clear hx
      go_wp2_with fail
      refine MX.out.mono ?_
      rintro e v7 ⟨rfl, _, hc⟩
      replace HL := Lib.hid (HL.out.ch hc (by omega))
      replace b6 := Lib.hid (b6.out.ch hc (.inl (by omega)))
      replace hW := Lib.hid (hW.out.chg hc (.inl (by omega)))
      replace b9 := Lib.hid (b9.out.ch hc (.inr (by omega)))
      replace hG := Lib.hid (hG.out.chg hc (.inr (by omega)))
      have lv7 := hc.size
      clear hc hX b8 MX C1 C2 C6 C8 C9
      have C1 := HL.out.2.1.cell
      have C2 := HL.out.2.2.cell
      have C6 := b6.out.cell
      have C9 := b9.out.cell
      go_wp2_with fail
      refine (eqDesk_yes Q G3 G4 G1 G2 nT mR c9 d9 c6 d6 T R _ hG.out.left hG.out.right hW.out.left hW.out.right (by omega) (by omega)).mono ?_
      rintro e v8 ⟨rfl, hb⟩
      replace HL := Lib.hid (HL.out.below hb)
      replace b6 := Lib.hid (b6.out.nx hb)
      replace hW := Lib.hid (hW.out.below hb)
      replace b9 := Lib.hid (b9.out.nx hb)
      replace hG := Lib.hid (hG.out.below hb)
      have lv8 := hb.size
      clear hb C1 C2 C6 C9
      have C1 := HL.out.2.1.cell
      have C2 := HL.out.2.2.cell
      have C6 := b6.out.cell
      have C9 := b9.out.cell
      obtain ⟨y, hy⟩ : ∃ y : Int, 1 + 4 * (nT : Int) + 4 * (mR : Int) = y := ⟨_, rfl⟩
      have hy0 : decide (y < 0) = false := by simp; omega
      have hyy : (y != y) = false := by simp
      have MY := Lib.hid (mark_x Q G3 G4 nT mR c9 d9 l9 h9 T R v8 hG.out (by omega) hnT hmR y hy)
      have HY := Lib.hid hy
      clear hy
      go_wp2_with fail
      refine MY.out.mono ?_
      rintro e v9 ⟨rfl, hM, hc⟩
      clear hG
      have hG := Lib.hid hM
      replace HL := Lib.hid (HL.out.ch hc (by omega))
      replace b6 := Lib.hid (b6.out.ch hc (.inl (by omega)))
      replace hW := Lib.hid (hW.out.chg hc (.inl (by omega)))
      replace b9 := Lib.hid (b9.out.ch hc la9)
      have lv9 := hc.size
      clear hM hc MY C1 C2 C6 C9
      have C1 := HL.out.2.1.cell
      have C2 := HL.out.2.2.cell
      have C6 := b6.out.cell
      have C9 := b9.out.cell
      go_wp2_with fail
      refine (held_x Q G3 G4 nT mR c9 d9 _ hG.out.left hG.out.right hnT hmR y HY.out).mono ?_
      rintro e v10 ⟨rfl, hb⟩
      replace HL := Lib.hid (HL.out.below hb)
      replace b6 := Lib.hid (b6.out.nx hb)
      replace hW := Lib.hid (hW.out.below hb)
      replace b9 := Lib.hid (b9.out.nx hb)
      replace hG := Lib.hid (hG.out.below hb)
      have lv10 := hb.size
      clear hb C1 C2 C6 C9
      have C1 := HL.out.2.1.cell
      have C2 := HL.out.2.2.cell
      have C6 := b6.out.cell
      have C9 := b9.out.cell
      go_upto_region 24 with fail
      have lr := HL.out.2.2.lt
      have lr0 := HL.out.2.1.lt
      go_cut [14, 15] (fun s6 s7 wx => ∃ g l h G1 c1 G2 c2, s6 = .pointer (some ⟨g, 0, none⟩) ∧ s7 = .int .i64 N ∧ ResV v10 v10.heap.size Q T R g l h G1 nT c1 G2 mR c2 wx)
      case first =>
        clear C6 C9
        go_region_held3 (fun w' => Below (v10.heap.size) (v10) w' ∧ ∀ k o, k < v10.heap.size → w'.cell? ⟨k, o, none⟩ = World.cell? (v10) ⟨k, o, none⟩) (first | (first | assumption | exact kp_start | (refine kp_step ?_ hb ?_; assumption; (first | omega | (simp; done) | (simp; omega))) | (refine kp_drew ?_; assumption) | (refine kp_drew (kp_of hb ?_); (first | omega | (simp; done) | (simp; omega)))) | exact kp_drew (kp_alloc ⟨Below.refl _ _, fun _ _ _ => rfl⟩ (Nat.le_refl _) _) | (refine kp_alloc ?_ (Nat.le_refl _) _; assumption) | (refine kp_set (kp_set (kp_set ?_ ?_ _) ?_ _) ?_ _; (assumption); (exact B9g); (exact B9g); (exact B9g)) | (refine kp_realloc (x := .cells #[.int .i64 0, .slice none 0 0, .slice none 0 0] 38) ?_ B3g; assumption)) (first
      | (go_at_call 17; refine (TD.out _ (bt HL.out.1 (by (refine kp_end (by assumption) ?_ (by first | omega | (simp; done) | (simp; omega)); (repeat (first | exact Below.refl _ _ | assumption | refine Below.alloc ?_ (by first | omega | (simp; done) | (simp; omega)) _ | refine Below.drew ?_ | refine bdN ?_ _ | refine Below.setCell ?_ (by first | omega | (simp; done) | (simp; omega)) _)))))).mono ?_; rintro e x1 ⟨g, g', rfl, _, _, hR, hR', hb⟩; have H1 := Lib.hid hb; have HR := Lib.hid hR; have HR' := Lib.hid hR'; clear hR hR')
      | (go_at_call 21; refine (TB.out _).mono ?_; rintro e x2 ⟨rfl, hb⟩; have H2 := Lib.hid hb)
      | (go_at_call 22; refine (DI.out g g' _ (HR.out.books.below (by (first | exact hb | exact hb.alloc hb.size _ | exact ((Below.refl _ _).alloc (Nat.le_refl _) _).trans (hb.mono (by simp))))) (HR'.out.books.below (by (first | exact hb | exact hb.alloc hb.size _ | exact ((Below.refl _ _).alloc (Nat.le_refl _) _).trans (hb.mono (by simp)))))).mono ?_; rintro e x3 ⟨G5, c1', G6, c2', rfl, hO, hb⟩; have HO := Lib.hid hO; have H3 := Lib.hid hb; have HX := Lib.hid (kp_at (B := v10.heap.size) (W := v10) hb (by assumption)); have B3g := (kp_step (B := v10.heap.size) (W := v10) (by assumption) hb (Nat.le_refl _)).1.size; (first | (have B9 := (((Blk.new v10 38 #[.int .i64 0, .slice none 0 0, .slice none 0 0]).drew.nx H1.out).nx H2.out).nx hb; have C9 := B9.cell; have F9 := B9.frozen; have B9g := Nat.le_refl v10.heap.size; have B9l := (((Blk.new v10 38 #[.int .i64 0, .slice none 0 0, .slice none 0 0]).drew.nx H1.out).nx H2.out).lt) | (have B9 := ((Blk.new x1 38 #[.int .i64 0, .slice none 0 0, .slice none 0 0]).nx H2.out).nx hb; have C9 := B9.cell; have F9 := B9.frozen; have B9g : v10.heap.size ≤ x1.heap.size := H1.out.size; have B9l := ((Blk.new x1 38 #[.int .i64 0, .slice none 0 0, .slice none 0 0]).nx H2.out).lt) | (have B9 := (Blk.new x2 38 #[.int .i64 0, .slice none 0 0, .slice none 0 0]).nx hb; have C9 := B9.cell; have F9 := B9.frozen; have B9g : v10.heap.size ≤ x2.heap.size := Nat.le_trans H1.out.size (Nat.le_trans (by simp) H2.out.size); have B9l := (Blk.new x2 38 #[.int .i64 0, .slice none 0 0, .slice none 0 0]).lt) | skip); clear hO))
        all_goals (
          go_wp2_with fail
          go_meet
          first
            | exact ⟨_, _, _, G5, c1', G6, c2', rfl, rfl, res_new HX.out HO.out H3.out⟩
            | exact ⟨_, _, _, G5, c1', G6, c2', rfl, rfl, res_set rfl HX.out HO.out H3.out B9 B9l B9g⟩)
      case rest =>
        obtain ⟨g14, l14, h14, G5, c14, G6, d14, rfl, rfl, hV⟩ := hcut
        generalize wc = v11 at *
        replace HL := Lib.hid (HL.out.below hV.1)
        replace b6 := Lib.hid (b6.out.nx hV.1)
        replace hW := Lib.hid (hW.out.below hV.1)
        replace b9 := Lib.hid (b9.out.nx hV.1)
        replace hG := Lib.hid (hG.out.below hV.1)
        have b14 := Lib.hid hV.2.1
        have hH := Lib.hid hV.2.2.1
        clear hV C1 C2 C6 C9
        have C6 := b6.out.cell
        have C9 := b9.out.cell
        have C14 := b14.out.cell
        go_wp2_with fail
        refine (eqDesk_yes Q G5 G6 G1 G2 nT mR c14 d14 c6 d6 T R _ hH.out.left hH.out.right hW.out.left hW.out.right (by omega) (by omega)).mono ?_
        rintro e v12 ⟨rfl, hb⟩
        replace HL := Lib.hid (HL.out.below hb)
        replace b9 := Lib.hid (b9.out.nx hb)
        replace hG := Lib.hid (hG.out.below hb)
        clear hb C6 C9 C14
        have C9 := b9.out.cell
        go_wp2_with fail
        refine (held_x Q G3 G4 nT mR c9 d9 _ hG.out.left hG.out.right hnT hmR y HY.out).mono ?_
        rintro e v13 ⟨rfl, hb⟩
        go_wp2
        go_ret
        exact ⟨rfl, bt HL.out.1 hb⟩
end Go.Proofs.Ytoiaggjjfahabaa
