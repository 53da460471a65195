/- The reader's state without its parts: RB w r B: block r is a reader whose place is at most B. Steps of worlds that keep it; a struct of the call's own beside it. No condition. -/
import Derived.Test.YtoiaggjjfahabaaDoorDraw
import Derived.Deep.DeepCutAuto
namespace Go.Proofs.YtoiaggjjfahabaaDoor
open Go.RowKit
set_option linter.unusedVariables false
theorem Rd.below {w w' : World} {r : Nat} {A : Option Addr} {n cap : Nat} {zs : List Int} {p : Nat} (h : Rd w r A n cap zs p) (hb : Below w.heap.size w w') : Rd w' r A n cap zs p := by
  have hlt := h.2.2.2.lt
  exact ⟨h.1, h.2.1, h.2.2.1.stp (Stp.of_below hb (Nat.le_of_lt hlt)), h.2.2.2.below hb hlt⟩
theorem Rd.far {w : World} {r : Nat} {A : Option Addr} {n cap : Nat} {zs : List Int} {p : Nat} (h : Rd w r A n cap zs p) {s : Nat} (hs : r < s) (i : Nat) (v : Value) : Rd (w.setCell ⟨s, i, none⟩ v) r A n cap zs p := by
  refine ⟨h.1, h.2.1, ⟨h.2.2.1.1, h.2.2.1.2.1, fun hn => ?_⟩, h.2.2.2.far (by show r ≠ s; omega) v⟩
  obtain ⟨b, off, rfl, hlt, hc⟩ := h.2.2.1.2.2 hn
  exact ⟨b, off, rfl, hlt, fun k hk => (((Below.refl r w).setCell (p := ⟨s, i, none⟩) (Nat.le_of_lt hs) v).cell (p := ⟨b, off + k, none⟩) hlt).trans (hc k hk)⟩
theorem Stp.drew' {r : Nat} {w w' : World} (h : Stp r w w') : Stp r w w'.drew := ⟨h.1.drew, h.2⟩
theorem Stp.far {r : Nat} {w w' : World} (h : Stp r w w') {s : Nat} (hs : w.heap.size ≤ s) (hr : r ≤ s) (i : Nat) (v : Value) : Stp r w (w'.setCell ⟨s, i, none⟩ v) :=
  ⟨h.1.setCell (p := ⟨s, i, none⟩) hr v, by simpa [World.setCell] using h.2.1, fun k hk hlt => (Below.heap_setCell _ _ _ _ (by show k ≠ s; omega)).trans (h.2.2 k hk hlt)⟩
/-- a reader lies in block r, its place at most B -/
def RB (w : World) (r B : Nat) : Prop := ∃ A n cap zs p, p ≤ B ∧ Rd w r A n cap zs p
section
variable {w w' w0 : World} {r B s : Nat}
theorem RB.lt (h : RB w r B) : r < w.heap.size := by obtain ⟨_, _, _, _, _, _, h⟩ := h; exact h.2.2.2.lt
theorem RB.le (h : RB w r B) {B' : Nat} (hB : B ≤ B') : RB w r B' := by obtain ⟨A, n, c, zs, p, hp, h⟩ := h; exact ⟨A, n, c, zs, p, by omega, h⟩
theorem RB.below (h : RB w r B) (hb : Below w.heap.size w w') : RB w' r B := by obtain ⟨A, n, c, zs, p, hp, h⟩ := h; exact ⟨A, n, c, zs, p, hp, h.below hb⟩
theorem RB.alloc (h : RB w r B) (o : Obj) : RB (w.alloc o) r B := h.below ((Below.refl _ _).alloc (Nat.le_refl _) o)
theorem RB.drew (h : RB w r B) : RB w.drew r B := h.below (Below.refl _ _).drew
theorem RB.far (h : RB w r B) (hs : r < s) (i : Nat) (v : Value) : RB (w.setCell ⟨s, i, none⟩ v) r B := by obtain ⟨A, n, c, zs, p, hp, h⟩ := h; exact ⟨A, n, c, zs, p, hp, h.far hs i v⟩
end
theorem pk (r : Nat) (m : Int) (B : Nat) (w : World) (h : RB w r B) (hB : B ≤ 900000000) (hm : -1000000 ≤ m) (hm2 : m ≤ 1000000000) :
    Calls Tryd.prog 50 #[.pointer (some ⟨r, 0, none⟩), .int .i64 m] w fun e w' => ∃ x, e = .returned (.int .i64 x) ∧ 0 ≤ x ∧ (x < m ∨ m < 1 ∧ x = 0) ∧ RB w' r (B + 1) ∧ Stp r w w' := by
  obtain ⟨A, n, c, zs, p, hp, h⟩ := h
  exact (pick_ok r m A n c zs p w h (by omega) hm hm2).mono fun e w' ⟨x, he, h1, h2, h3, h4⟩ => ⟨x, he, h1, h2, ⟨A, n, c, zs, p + 1, by omega, h3⟩, h4⟩
theorem od (r : Nat) (m : Int) (B : Nat) (w : World) (h : RB w r B) (hB : B ≤ 900000000) (hm : -1000000 ≤ m) (hm2 : m ≤ 1000000000) :
    Calls Tryd.prog 101 #[.pointer (some ⟨r, 0, none⟩), .int .i64 m] w fun e w' => ∃ x, e = .returned (.bool x) ∧ (m < 1 → x = false) ∧ RB w' r (B + 1) ∧ Stp r w w' := by
  obtain ⟨A, n, c, zs, p, hp, h⟩ := h
  exact (odd_ok r m A n c zs p w h (by omega) hm hm2).mono fun e w' ⟨x, he, h1, ⟨q, hq, h3⟩, h4⟩ => ⟨x, he, h1, ⟨A, n, c, zs, q, by omega, h3⟩, h4⟩
theorem op (r : Nat) (A : Option Addr) (n cap : Nat) (zs : List Int) (w : World) (h : Nums .u8 w A n cap zs) (hn : n ≤ 1048576) (hr : w.heap.size = r) :
    Calls Tryd.prog 48 #[.slice A n cap] w fun e w' => e = .returned (.pointer (some ⟨r, 0, none⟩)) ∧ RB w' r 0 ∧ Below r w w' ∧ r < w'.heap.size := by
  subst hr
  exact (open_ok A n cap zs w h hn).mono fun e w' ⟨m, he, h1, h2, h3⟩ => ⟨he, ⟨A, m, cap, zs.take m, 0, Nat.le_refl _, h1⟩, h2, h3⟩
/-- the state between two draws: the reader; a struct of the call's own in block s; the result's block R; all else as in w0 -/
def St (w0 w : World) (r B s R : Nat) (t : TypeId) (vs rs : Array Value) : Prop := RB w r B ∧ Blk w s t vs ∧ Blk w R t rs ∧ Stp r w0 w
section
variable {w w' w0 : World} {r B s R : Nat} {t : TypeId} {vs rs : Array Value}
theorem St.rb (h : St w0 w r B s R t vs rs) : RB w r B := h.1
theorem St.step (h : St w0 w r B s R t vs rs) {B' : Nat} (hq : RB w' r B') (hs : Stp r w w') (h1 : s ≠ r) (h2 : R ≠ r) : St w0 w' r B' s R t vs rs :=
  ⟨hq, hs.blk h.2.1 h1, hs.blk h.2.2.1 h2, h.2.2.2.trans hs⟩
theorem St.set (h : St w0 w r B s R t vs rs) (hs : w0.heap.size ≤ s) (hr : r < s) (hne : R ≠ s) (i : Nat) (v : Value) :
    St w0 (w.setCell ⟨s, i, none⟩ v) r B s R t (vs.setIfInBounds i v) rs :=
  ⟨h.1.far hr i v, h.2.1.set_ i v, h.2.2.1.far (by show R ≠ s; exact hne) v, h.2.2.2.far hs (by omega) i v⟩
theorem St.alloc (h : St w0 w r B s R t vs rs) (o : Obj) : St w0 (w.alloc o) r B s R t vs rs :=
  ⟨h.1.alloc o, h.2.1.alloc o, h.2.2.1.alloc o, h.2.2.2.trans (Stp.of_below ((Below.refl _ _).alloc (Nat.le_refl _) o) (Nat.le_of_lt h.1.lt))⟩
theorem St.drew (h : St w0 w r B s R t vs rs) : St w0 w.drew r B s R t vs rs :=
  ⟨h.1.drew, h.2.1.drew, h.2.2.1.drew, h.2.2.2.drew'⟩
theorem St.le (h : St w0 w r B s R t vs rs) {B' : Nat} (hB : B ≤ B') : St w0 w r B' s R t vs rs := ⟨h.1.le hB, h.2⟩
end
/-- a small number -/
def Sm (x : Int) : Prop := -1000000 ≤ x ∧ x ≤ 1000000
/-- a struct of four small numbers -/
def i4 (a b c d : Int) : Array Value := #[.int .i64 a, .int .i64 b, .int .i64 c, .int .i64 d]
def T4 (w0 w : World) (r B s R : Nat) (t : TypeId) : Prop := ∃ a b c d, Sm a ∧ Sm b ∧ Sm c ∧ Sm d ∧ St w0 w r B s R t #[.int .i64 a, .int .i64 b, .int .i64 c, .int .i64 d] #[.int .i64 0, .int .i64 0, .int .i64 0, .int .i64 0]
def R4 (w : World) (r B : Nat) (e : Ending) (w' : World) : Prop := ∃ a b c d, e = .returned (.agg #[.int .i64 a, .int .i64 b, .int .i64 c, .int .i64 d]) ∧ Sm a ∧ Sm b ∧ Sm c ∧ Sm d ∧ RB w' r B ∧ Stp r w w'
theorem T4.same {w w0 : World} {r B B' s R : Nat} {t : TypeId} {a b c d : Int} (h : St w0 w r B s R t #[.int .i64 a, .int .i64 b, .int .i64 c, .int .i64 d] #[.int .i64 0, .int .i64 0, .int .i64 0, .int .i64 0]) (hB : B ≤ B') (ha : Sm a) (hb : Sm b) (hc : Sm c) (hd : Sm d) : T4 w0 w r B' s R t := ⟨a, b, c, d, ha, hb, hc, hd, h.le hB⟩
theorem T4.put {w w0 : World} {r B B' s R : Nat} {t : TypeId} {a b c d : Int} (h : St w0 w r B s R t #[.int .i64 a, .int .i64 b, .int .i64 c, .int .i64 d] #[.int .i64 0, .int .i64 0, .int .i64 0, .int .i64 0]) (hB : B ≤ B') (ha : Sm a) (hb : Sm b) (hc : Sm c) (hd : Sm d) (hs : w0.heap.size ≤ s) (hr : r < s) (hne : R ≠ s) (x : Int) (hx : Sm x) (i : Nat) : T4 w0 (w.setCell ⟨s, i, none⟩ (.int .i64 x)) r B' s R t := by
  have h' := (h.set hs hr hne i (.int .i64 x)).le hB
  rcases (show i = 0 ∨ i = 1 ∨ i = 2 ∨ i = 3 ∨ 4 ≤ i by omega) with rfl | rfl | rfl | rfl | hi
  · exact ⟨x, b, c, d, hx, hb, hc, hd, by simpa using h'⟩
  · exact ⟨a, x, c, d, ha, hx, hc, hd, by simpa using h'⟩
  · exact ⟨a, b, x, d, ha, hb, hx, hd, by simpa using h'⟩
  · exact ⟨a, b, c, x, ha, hb, hc, hx, by simpa using h'⟩
  · rw [Array.setIfInBounds_eq_of_size_le (by simpa using hi)] at h'
    exact ⟨a, b, c, d, ha, hb, hc, hd, h'⟩
/-- one of two elements, whichever the index -/
theorem two_at {w' : World} {g : Nat} {t : TypeId} {u v x : Int} (h : Blk w' g t #[.int .i64 u, .int .i64 v]) (h0 : 0 ≤ x) (h1 : x < 2) (hu : Sm u) (hv : Sm v) : ∃ z, Sm z ∧ w'.cell? ⟨g, x.toNat, none⟩ = some (.int .i64 z) ∧ #[Value.int .i64 u, Value.int .i64 v][x.toNat]? = some (.int .i64 z) := by
  have c0 := h.cell 0
  have c1 := h.cell 1
  simp at c0 c1
  rcases (show x = 0 ∨ x = 1 by omega) with rfl | rfl
  · exact ⟨u, hu, c0, by simp⟩
  · exact ⟨v, hv, c1, by simp⟩
theorem pk2 {w w0 : World} {r B s R : Nat} {t : TypeId} {vs rs : Array Value} (h : St w0 w r B s R t vs rs) (hs : s ≠ r) (hR : R ≠ r) (hB : B ≤ 900000000) (u v : Int) (q : TypeId) :
    Calls Tryd.prog 50 #[.pointer (some ⟨r, 0, none⟩), .int .i64 2] (w.alloc (.cells #[.int .i64 u, .int .i64 v] q)) fun e w' => ∃ x, e = .returned (.int .i64 x) ∧ (x = 0 ∨ x = 1) ∧ w'.cell? ⟨w.heap.size, 0, none⟩ = some (.int .i64 u) ∧ w'.cell? ⟨w.heap.size, 1, none⟩ = some (.int .i64 v) ∧ St w0 w' r (B + 1) s R t vs rs := by
  have h2 := h.alloc (.cells #[.int .i64 u, .int .i64 v] q)
  refine (pk r 2 B _ h2.1 hB (by omega) (by omega)).mono fun e w' ⟨x, he, h0, h1, hr, hp⟩ => ?_
  have hl := h.1.lt
  have hb := hp.blk (Blk.new w q #[.int .i64 u, .int .i64 v]) (by omega)
  have c0 := hb.cell 0
  have c1 := hb.cell 1
  simp at c0 c1
  exact ⟨x, he, by omega, c0, c1, h2.step hr hp hs hR⟩
def T3 (w0 w : World) (r B s R : Nat) (t : TypeId) : Prop := ∃ a b c, Sm a ∧ Sm b ∧ Sm c ∧ St w0 w r B s R t #[.int .i64 a, .int .i64 b, .int .i64 c] #[.int .i64 0, .int .i64 0, .int .i64 0]
def R3 (w : World) (r B : Nat) (e : Ending) (w' : World) : Prop := ∃ a b c, e = .returned (.agg #[.int .i64 a, .int .i64 b, .int .i64 c]) ∧ Sm a ∧ Sm b ∧ Sm c ∧ RB w' r B ∧ Stp r w w'
theorem T3.same {w w0 : World} {r B B' s R : Nat} {t : TypeId} {a b c : Int} (h : St w0 w r B s R t #[.int .i64 a, .int .i64 b, .int .i64 c] #[.int .i64 0, .int .i64 0, .int .i64 0]) (hB : B ≤ B') (ha : Sm a) (hb : Sm b) (hc : Sm c) : T3 w0 w r B' s R t := ⟨a, b, c, ha, hb, hc, h.le hB⟩
theorem T3.put {w w0 : World} {r B B' s R : Nat} {t : TypeId} {a b c : Int} (h : St w0 w r B s R t #[.int .i64 a, .int .i64 b, .int .i64 c] #[.int .i64 0, .int .i64 0, .int .i64 0]) (hB : B ≤ B') (ha : Sm a) (hb : Sm b) (hc : Sm c) (hs : w0.heap.size ≤ s) (hr : r < s) (hne : R ≠ s) (x : Int) (hx : Sm x) (i : Nat) : T3 w0 (w.setCell ⟨s, i, none⟩ (.int .i64 x)) r B' s R t := by
  have h' := (h.set hs hr hne i (.int .i64 x)).le hB
  rcases (show i = 0 ∨ i = 1 ∨ i = 2 ∨ 3 ≤ i by omega) with rfl | rfl | rfl | hi
  · exact ⟨x, b, c, hx, hb, hc, by simpa using h'⟩
  · exact ⟨a, x, c, ha, hx, hc, by simpa using h'⟩
  · exact ⟨a, b, x, ha, hb, hx, by simpa using h'⟩
  · rw [Array.setIfInBounds_eq_of_size_le (by simpa using hi)] at h'
    exact ⟨a, b, c, ha, hb, hc, h'⟩
theorem St.fin3 {w w0 : World} {r B s R : Nat} {t : TypeId} {vs rs : Array Value} (h : St w0 w r B s R t vs rs) (hR : w0.heap.size ≤ R) (hr : r < R) (a b c : Value) :
    RB (((w.setCell ⟨R, 0, none⟩ a).setCell ⟨R, 1, none⟩ b).setCell ⟨R, 2, none⟩ c) r B ∧ Stp r w0 (((w.setCell ⟨R, 0, none⟩ a).setCell ⟨R, 1, none⟩ b).setCell ⟨R, 2, none⟩ c) :=
  ⟨((h.1.far hr 0 a).far hr 1 b).far hr 2 c, ((h.2.2.2.far hR (by omega) 0 a).far hR (by omega) 1 b).far hR (by omega) 2 c⟩
theorem St.fin4 {w w0 : World} {r B s R : Nat} {t : TypeId} {vs rs : Array Value} (h : St w0 w r B s R t vs rs) (hR : w0.heap.size ≤ R) (hr : r < R) (a b c d : Value) :
    RB ((((w.setCell ⟨R, 0, none⟩ a).setCell ⟨R, 1, none⟩ b).setCell ⟨R, 2, none⟩ c).setCell ⟨R, 3, none⟩ d) r B ∧ Stp r w0 ((((w.setCell ⟨R, 0, none⟩ a).setCell ⟨R, 1, none⟩ b).setCell ⟨R, 2, none⟩ c).setCell ⟨R, 3, none⟩ d) :=
  ⟨(((h.1.far hr 0 a).far hr 1 b).far hr 2 c).far hr 3 d, (((h.2.2.2.far hR (by omega) 0 a).far hR (by omega) 1 b).far hR (by omega) 2 c).far hR (by omega) 3 d⟩
end Go.Proofs.YtoiaggjjfahabaaDoor
