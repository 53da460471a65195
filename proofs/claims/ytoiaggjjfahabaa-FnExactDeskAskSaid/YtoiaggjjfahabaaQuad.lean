/- Slices of structs of four ints (bookings, tariffs): words and what toBookS, eqBookS, szBookS compute. No condition but the length that make bears. -/
import Derived.Test.YtoiaggjjfahabaaMem
import Derived.Test.YtoiaggjjfahabaaSc
import Derived.Deep.Fields
namespace Go.Proofs.Ytoiaggjjfahabaa
open Go.RowKit Go.ChangeShapes Go.WideShapes Go.Deep

structure Quad where
  a : Int
  b : Int
  c : Int
  d : Int
deriving DecidableEq
def q0 : Quad := ⟨0, 0, 0, 0⟩
def Quad.cells (q : Quad) : List Value := [.int .i64 q.a, .int .i64 q.b, .int .i64 q.c, .int .i64 q.d]
/-- the slice (A, n) of structs of four ints reads as qs -/
def Books (w : World) (A : Option Addr) (n : Nat) (qs : List Quad) : Prop :=
  qs.length = n ∧ (0 < n → ∃ b off, A = some ⟨b, off, none⟩ ∧ b < w.heap.size ∧ ∀ k, k < n →
    w.cell? ⟨b, off + k * 4, none⟩ = some (.int .i64 (qs.getD k q0).a) ∧ w.cell? ⟨b, off + k * 4 + 1, none⟩ = some (.int .i64 (qs.getD k q0).b) ∧
    w.cell? ⟨b, off + k * 4 + 2, none⟩ = some (.int .i64 (qs.getD k q0).c) ∧ w.cell? ⟨b, off + k * 4 + 3, none⟩ = some (.int .i64 (qs.getD k q0).d))
theorem Books.below {w w' : World} {A : Option Addr} {n : Nat} {qs : List Quad} (h : Books w A n qs) (hb : Below w.heap.size w w') : Books w' A n qs :=
  ⟨h.1, fun hn => by
    obtain ⟨b, off, rfl, hlt, hc⟩ := h.2 hn
    refine ⟨b, off, rfl, Nat.lt_of_lt_of_le hlt hb.size, fun k hk => ?_⟩
    obtain ⟨h1, h2, h3, h4⟩ := hc k hk
    exact ⟨(hb.cell (p := ⟨b, _, none⟩) hlt).trans h1, (hb.cell (p := ⟨b, _, none⟩) hlt).trans h2, (hb.cell (p := ⟨b, _, none⟩) hlt).trans h3, (hb.cell (p := ⟨b, _, none⟩) hlt).trans h4⟩⟩
def Quads (w : World) (A : Option Addr) (n cap : Nat) (qs : List Quad) : Prop :=
  n ≤ cap ∧ cap ≤ maxLen ∧ Books w A n qs ∧ ∀ q ∈ qs, In64 q.a ∧ In64 q.b ∧ In64 q.c ∧ In64 q.d
theorem Quads.books {w : World} {A : Option Addr} {n cap : Nat} {qs : List Quad} (h : Quads w A n cap qs) : Books w A n qs := h.2.2.1
theorem Quads.len {w : World} {A : Option Addr} {n cap : Nat} {qs : List Quad} (h : Quads w A n cap qs) : n ≤ 9223372036854775807 := by have h1 := h.1; have h2 := h.2.1; unfold maxLen at h2; omega
theorem list_of {P : Nat → Quad → Prop} (n : Nat) (h : ∀ i, i < n → ∃ q, P i q) : ∃ qs : List Quad, qs.length = n ∧ ∀ i, i < n → P i (qs.getD i q0) := by
  induction n with
  | zero => exact ⟨[], rfl, fun i hi => absurd hi (by omega)⟩
  | succ n ih =>
    obtain ⟨qs, h1, h2⟩ := ih (fun i hi => h i (by omega))
    obtain ⟨q, hq⟩ := h n (by omega)
    refine ⟨qs ++ [q], by simp [h1], fun i hi => ?_⟩
    rcases Nat.lt_or_ge i n with g | g
    · have := h2 i g
      rw [List.getD_eq_getElem?_getD] at this ⊢
      rwa [List.getElem?_append_left (by omega)]
    · obtain rfl : i = n := by omega
      simpa [h1] using hq
theorem add_none (b off i : Nat) : (⟨b, off, none⟩ : Addr).add i = ⟨b, off + i, none⟩ := by
  unfold Addr.add
  by_cases h : i = 0 <;> simp [h]
theorem quads_of_trod {H : Type} {enc : TypeId × Value → H} {P : Program} {w : World} {base : Nat} {spare : Nat → Bool} {held : Bool} {t e ti fuel : Nat} {A : Option Addr} {n cap : Nat} {x : DataW H × List MemPlace} {f0 f1 f2 f3 : Field}
    (ht : P.underlying t = some (.slice e)) (he : P.underlying e = some (.struct #[f0, f1, f2, f3])) (hone : oneCellFields P #[f0, f1, f2, f3] = true) (hC : P.cellsOf e = 4)
    (hty : f0.type = ti ∧ f1.type = ti ∧ f2.type = ti ∧ f3.type = ti) (hti : P.underlying ti = some (.int .i64)) (h : DataW.trod enc P w base spare held fuel t (Value.slice A n cap).cells.toList = some x) : ∃ qs, Quads w A n cap qs := by
  rcases open_slice ht h with ⟨hcs, _⟩ | ⟨a, l, c, m, k, D, Pl, hcs, _, hl, hm, hmm, _, hi⟩
  · simp [Value.cells] at hcs
    obtain ⟨rfl, rfl, rfl⟩ := hcs
    exact ⟨[], Nat.le_refl _, by simp [maxLen], ⟨rfl, fun h => absurd h (by omega)⟩, by simp⟩
  · simp [Value.cells] at hcs
    obtain ⟨rfl, rfl, rfl⟩ := hcs
    have hlm : n ≤ m := by rw [hmm]; split <;> omega
    have key : ∀ i, i < n → ∃ q : Quad, (w.cell? (a.add (i * 4)) = some (.int .i64 q.a) ∧ w.cell? (a.add (i * 4 + 1)) = some (.int .i64 q.b) ∧ w.cell? (a.add (i * 4 + 2)) = some (.int .i64 q.c) ∧ w.cell? (a.add (i * 4 + 3)) = some (.int .i64 q.d)) ∧ (In64 q.a ∧ In64 q.b ∧ In64 q.c ∧ In64 q.d) := by
      intro i hin
      obtain ⟨cs', hc, ht'⟩ := hi i (by omega)
      rw [hC] at hc
      obtain ⟨ys, n', hn', hy, hlen, hyl, hf⟩ := DataW.trod_struct he ht'
      obtain ⟨_, hcl, hat⟩ := World.cells?_some hc
      have hcl : cs'.length = 4 := by simpa using hcl
      match cs', hcl with
      | [u0, u1, u2, u3], _ =>
        have a0 := hat 0 (by omega)
        have a1 := hat 1 (by omega)
        have a2 := hat 2 (by omega)
        have a3 := hat 3 (by omega)
        obtain ⟨o0, k0⟩ := hone_of hone 0 f0 rfl
        obtain ⟨o1, k1⟩ := hone_of hone 1 f1 rfl
        obtain ⟨o2, k2⟩ := hone_of hone 2 f2 rfl
        obtain ⟨o3, k3⟩ := hone_of hone 3 f3 rfl
        have g0 := hf 0 f0 rfl
        have g1 := hf 1 f1 rfl
        have g2 := hf 2 f2 rfl
        have g3 := hf 3 f3 rfl
        rw [o0, k0] at g0
        rw [o1, k1] at g1
        rw [o2, k2] at g2
        rw [o3, k3] at g3
        obtain ⟨t0, t1, t2, t3⟩ := hty
        rw [t0] at g0
        rw [t1] at g1
        rw [t2] at g2
        rw [t3] at g3
        have hyl : ys.length = 4 := by simpa using hyl
        match ys, hyl with
        | [y0, y1, y2, y3], _ =>
          obtain ⟨z0, e0, _, w0⟩ := DataW.trod_int hti g0
          obtain ⟨z1, e1, _, w1⟩ := DataW.trod_int hti g1
          obtain ⟨z2, e2, _, w2⟩ := DataW.trod_int hti g2
          obtain ⟨z3, e3, _, w3⟩ := DataW.trod_int hti g3
          simp at e0 e1 e2 e3
          subst e0 e1 e2 e3
          rw [Go.Deep.add_add] at a0 a1 a2 a3
          exact ⟨⟨z0, z1, z2, z3⟩, ⟨by simpa using a0, by simpa using a1, by simpa using a2, by simpa using a3⟩, wf64 w0, wf64 w1, wf64 w2, wf64 w3⟩
    obtain ⟨qs, hq1, hq2⟩ := list_of n key
    refine ⟨qs, hl, hm, ⟨hq1, fun hn => ?_⟩, fun q hq => ?_⟩
    · obtain ⟨b, off, spot⟩ := a
      have h0 := (hq2 0 hn).1.1
      have hspot : spot = none := by simpa [Addr.add] using World.cell?_spot h0
      subst hspot
      refine ⟨b, off, rfl, World.block_lt_of_cell? (a := ⟨b, off, none⟩) _ (by simpa [Addr.add] using h0), fun k hk => ?_⟩
      obtain ⟨r0, r1, r2, r3⟩ := (hq2 k hk).1
      rw [add_none] at r0 r1 r2 r3
      exact ⟨r0, r1, r2, r3⟩
    · obtain ⟨i, hi, rfl⟩ := List.getElem_of_mem hq
      have := (hq2 i (by omega)).2
      simpa [hi] using this

def bks (qs : List Quad) : Array Value := (qs.flatMap Quad.cells).toArray
theorem bks_cons (q : Quad) (qs : List Quad) : (bks (q :: qs)).toList = .int .i64 q.a :: .int .i64 q.b :: .int .i64 q.c :: .int .i64 q.d :: (bks qs).toList := by simp [bks, Quad.cells]
theorem bks_at (qs : List Quad) (k : Nat) (h : k < qs.length) :
    (bks qs)[k * 4]? = some (.int .i64 (qs.getD k q0).a) ∧ (bks qs)[k * 4 + 1]? = some (.int .i64 (qs.getD k q0).b) ∧ (bks qs)[k * 4 + 2]? = some (.int .i64 (qs.getD k q0).c) ∧ (bks qs)[k * 4 + 3]? = some (.int .i64 (qs.getD k q0).d) := by
  induction qs generalizing k with
  | nil => simp at h
  | cons q qs ih =>
    simp only [← Array.getElem?_toList] at ih ⊢
    rw [bks_cons]
    rcases k with _ | k
    · simp
    · have := ih k (by simpa using h)
      simp only [Nat.add_mul, Nat.one_mul]
      simpa [Nat.add_right_comm _ 4 _] using this
theorem bks_set (qs : List Quad) (k : Nat) (q : Quad) :
    (((((bks qs).setIfInBounds (k * 4) (.int .i64 q.a)).setIfInBounds (k * 4 + 1) (.int .i64 q.b)).setIfInBounds (k * 4 + 2) (.int .i64 q.c)).setIfInBounds (k * 4 + 3) (.int .i64 q.d)) = bks (qs.set k q) := by
  have key : ∀ (qs : List Quad) (k : Nat), (((((qs.flatMap Quad.cells).set (k * 4) (.int .i64 q.a)).set (k * 4 + 1) (.int .i64 q.b)).set (k * 4 + 2) (.int .i64 q.c)).set (k * 4 + 3) (.int .i64 q.d)) = (qs.set k q).flatMap Quad.cells := by
    intro qs
    induction qs with
    | nil => simp
    | cons q' qs ih =>
      intro k
      rcases k with _ | k
      · simp [Quad.cells]
      · have := ih k
        simp only [Nat.add_mul, Nat.one_mul, List.flatMap_cons, List.set_cons_succ]
        rw [← this]
        simp [Quad.cells, Nat.add_right_comm _ 4 _]
  simp only [bks, List.setIfInBounds_toArray, key]
theorem bks_zero (n : Nat) : (List.replicate n q0).flatMap Quad.cells = List.replicate (n * 4) (Value.int .i64 0) := by
  induction n with
  | zero => rfl
  | succ n ih =>
    rw [List.replicate_succ, List.flatMap_cons, ih, Nat.succ_mul, Nat.add_comm (n * 4) 4, ← List.replicate_append_replicate]
    rfl
theorem bks_made (n : Nat) : madeCells #[.int .i64 0, .int .i64 0, .int .i64 0, .int .i64 0] (n * 4) = bks (List.replicate n q0) := by
  apply Array.ext
  · simp [size_madeCells, bks, bks_zero]
  · intro i h1 h2
    have e : i % 4 = 0 ∨ i % 4 = 1 ∨ i % 4 = 2 ∨ i % 4 = 3 := by omega
    rcases e with e | e | e | e <;> simp [madeCells, bks, bks_zero, e]
theorem Books.of_blk {w : World} {g n : Nat} {t : TypeId} {qs : List Quad} (h : Blk w g t (bks qs)) (hn : qs.length = n) : Books w (some ⟨g, 0, none⟩) n qs := by
  subst hn
  refine ⟨rfl, fun _ => ⟨g, 0, rfl, h.lt, fun k hk => ?_⟩⟩
  obtain ⟨h1, h2, h3, h4⟩ := bks_at qs k hk
  simp only [Nat.zero_add]
  exact ⟨by rw [h.cell, h1], by rw [h.cell, h2], by rw [h.cell, h3], by rw [h.cell, h4]⟩
theorem Blk.bk_cells {w : World} {g : Nat} {t : TypeId} {qs : List Quad} (h : Blk w g t (bks qs)) {k : Nat} (hk : k < qs.length) :
    w.cell? ⟨g, k * 4, none⟩ = some (.int .i64 (qs.getD k q0).a) ∧ w.cell? ⟨g, k * 4 + 1, none⟩ = some (.int .i64 (qs.getD k q0).b) ∧ w.cell? ⟨g, k * 4 + 2, none⟩ = some (.int .i64 (qs.getD k q0).c) ∧ w.cell? ⟨g, k * 4 + 3, none⟩ = some (.int .i64 (qs.getD k q0).d) := by
  obtain ⟨h1, h2, h3, h4⟩ := bks_at qs k hk
  exact ⟨by rw [h.cell, h1], by rw [h.cell, h2], by rw [h.cell, h3], by rw [h.cell, h4]⟩
theorem Blk.bk_set {w : World} {g : Nat} {t : TypeId} {qs : List Quad} (h : Blk w g t (bks qs)) (k : Nat) (a b c d : Int) :
    Blk ((((w.setCell ⟨g, k * 4, none⟩ (.int .i64 a)).setCell ⟨g, k * 4 + 1, none⟩ (.int .i64 b)).setCell ⟨g, k * 4 + 2, none⟩ (.int .i64 c)).setCell ⟨g, k * 4 + 3, none⟩ (.int .i64 d)) g t (bks (qs.set k ⟨a, b, c, d⟩)) := by
  have := (((h.set_ (k * 4) (.int .i64 a)).set_ (k * 4 + 1) (.int .i64 b)).set_ (k * 4 + 2) (.int .i64 c)).set_ (k * 4 + 3) (.int .i64 d)
  rwa [← bks_set qs k ⟨a, b, c, d⟩]
theorem fillq_set (zs : List Quad) (n k : Nat) (q : Quad) (hz : zs.length = n) (hk : k < n) (hq : q = zs.getD k q0) : (zs.take k ++ List.replicate (n - k) q0).set k q = zs.take (k + 1) ++ List.replicate (n - (k + 1)) q0 := by
  subst hz
  subst hq
  have e : zs.length - k = (zs.length - (k + 1)) + 1 := by omega
  have e0 : k - (zs.take k).length = 0 := by simp; omega
  rw [List.getD_eq_getElem?_getD, List.set_append_right _ _ (by simp; omega), e, List.replicate_succ, e0, List.set_cons_zero, List.take_succ_eq_append_getElem hk, List.getElem?_eq_getElem hk, Option.getD_some, List.append_assoc]
  rfl
theorem infoBook : (Try.prog.info? 46).map (fun i => (i.zero, i.size, i.bytes)) = some (some (.agg #[.int .i64 0, .int .i64 0, .int .i64 0, .int .i64 0]), 4, 32) := by kernel_rfl
theorem make_book (n : Nat) (hn : n ≤ 1048576) (w : World) : (Instr.makeSlice 26 (.int .i64 (n : Int)) (.int .i64 (n : Int))).run Try.prog w = .ok (.slice (some ⟨w.heap.size, 0, none⟩) n n) (w.alloc (.cells (bks (List.replicate n q0)) 46)) := by
  obtain ⟨i, hi, hzz⟩ := Option.map_eq_some_iff.1 infoBook
  simp only [Prod.mk.injEq] at hzz
  obtain ⟨hz, hs, hb⟩ := hzz
  have hr := run_make (P := Try.prog) w 26 46 i _ Try.underlying26 hi hz .i64 .i64 n n (by omega) (Int.le_refl _) (by rw [hb]; omega) (by omega)
  simp only [Int.toNat_natCast, hs] at hr
  rw [← bks_made]
  exact hr
def MadeQ (w : World) (n : Nat) (zs : List Quad) (t : TypeId) (e : Ending) (w' : World) : Prop :=
  ∃ g, e = .returned (.slice (some ⟨g, 0, none⟩) n n) ∧ w.heap.size ≤ g ∧ Books w' (some ⟨g, 0, none⟩) n zs ∧ Blk w' g t (bks zs) ∧ Below w.heap.size w w'
theorem toBookS_any (A : Option Addr) (n cap : Nat) (zs : List Quad) (w : World) (h : Books w A n zs) (hn : n ≤ 1048576) :
    Calls Try.prog 8 #[.slice A n cap] w (MadeQ w n zs 46) := by
  have hmk := make_book n hn
  go_enter Try.func8, Try.ntmps8
  go_wp2
  have hB0 := Blk.new w 46 (bks (List.replicate n q0))
  go_loopw [4] (fun i wr => ∃ k : Nat, k ≤ n ∧ i = .int .i64 k ∧ Blk wr w.heap.size 46 (bks (zs.take k ++ List.replicate (n - k) q0)) ∧ Below w.heap.size w wr) (fun i _ => n - (intOf i).toNat)
  case atStart => exact ⟨0, by omega, rfl, hB0, by (repeat (first | exact Below.refl _ _ | assumption | refine Below.alloc ?_ (by first | omega | (simp; done) | (simp; omega)) _ | refine Below.drew ?_ | refine bdN ?_ _ | refine Below.setCell ?_ (by first | omega | (simp; done) | (simp; omega)) _))⟩
  case round =>
    obtain ⟨k, hk, rfl, hB, hb⟩ := hrel
    clear hmk hB0
    by_cases hlt : k < n
    · obtain ⟨b, off, rfl, hbl, hc⟩ := h.2 (by omega)
      obtain ⟨r0, r1, r2, r3⟩ := hc k hlt
      have i1 : (0 : Int) ≤ (k : Int) := by omega
      have i2 : (k : Int) < (n : Int) := by omega
      have c0 : wr.cell? ⟨b, off + k * 4, none⟩ = _ := (hb.cell (p := ⟨b, off + k * 4, none⟩) hbl).trans r0
      have c1 : wr.cell? ⟨b, off + k * 4 + 1, none⟩ = _ := (hb.cell (p := ⟨b, off + k * 4 + 1, none⟩) hbl).trans r1
      have c2 : wr.cell? ⟨b, off + k * 4 + 2, none⟩ = _ := (hb.cell (p := ⟨b, off + k * 4 + 2, none⟩) hbl).trans r2
      have c3 : wr.cell? ⟨b, off + k * 4 + 3, none⟩ = _ := (hb.cell (p := ⟨b, off + k * 4 + 3, none⟩) hbl).trans r3
      clear hc r0 r1 r2 r3
      generalize hq : zs.getD k q0 = q at *
      have Hq := Lib.hid hq
      clear hq
      go_wp2_with fail
      refine (toBook_any _ _ _ _ _).mono ?_
      rintro e w' ⟨rfl, hb'⟩
      have hB2 := hB.below hb' hB.lt
      have hb2 := bt hb hb'
      obtain ⟨s0, s1, s2, s3⟩ := hB2.bk_cells (k := k) (by simp [h.1]; omega)
      have f0 := hB2.frozen (k * 4)
      have f1 := hB2.frozen (k * 4 + 1)
      have f2 := hB2.frozen (k * 4 + 2)
      have f3 := hB2.frozen (k * 4 + 3)
      clear hB hb hb' c0 c1 c2 c3
      go_wp2
      go_roundw
      case rel => exact ⟨k + 1, hlt, by go_num, by rw [← fillq_set zs n k q h.1 hlt Hq.out.symm]; exact hB2.bk_set k _ _ _ _, by (repeat (first | exact Below.refl _ _ | assumption | refine Below.alloc ?_ (by first | omega | (simp; done) | (simp; omega)) _ | refine Below.drew ?_ | refine bdN ?_ _ | refine Below.setCell ?_ (by first | omega | (simp; done) | (simp; omega)) _))⟩
      case measure => simp [intOf]; omega
    · obtain rfl : k = n := by omega
      go_wp2
      go_ret
      have hB' : Blk wr w.heap.size 46 (bks zs) := by simpa [h.1, List.take_of_length_le] using hB
      exact ⟨_, rfl, Nat.le_refl _, Books.of_blk hB' h.1, hB', hb⟩

theorem eqBook_any (a b c d a' b' c' d' : Int) (w : World) :
    Calls Try.prog 33 #[.agg #[.int .i64 a, .int .i64 b, .int .i64 c, .int .i64 d], .agg #[.int .i64 a', .int .i64 b', .int .i64 c', .int .i64 d']] w fun e w' => e = .returned (.bool (decide ((⟨a, b, c, d⟩ : Quad) = ⟨a', b', c', d'⟩))) ∧ Below w.heap.size w w' := by
  have e0 : decide ((⟨a, b, c, d⟩ : Quad) = ⟨a', b', c', d'⟩) = decide (a = a' ∧ b = b' ∧ c = c' ∧ d = d') := by simp
  rw [e0]
  clear e0
  go_enter Try.func33, Try.ntmps33
  go_wp2
  all_goals
    go_ret
    exact ⟨ret_bool (by simp_all), by (repeat (first | exact Below.refl _ _ | assumption | refine Below.alloc ?_ (by first | omega | (simp; done) | (simp; omega)) _ | refine Below.drew ?_ | refine bdN ?_ _ | refine Below.setCell ?_ (by first | omega | (simp; done) | (simp; omega)) _))⟩
theorem eqBook_yes (x y : Quad) (h : x = y) (w : World) :
    Calls Try.prog 33 #[.agg #[.int .i64 x.a, .int .i64 x.b, .int .i64 x.c, .int .i64 x.d], .agg #[.int .i64 y.a, .int .i64 y.b, .int .i64 y.c, .int .i64 y.d]] w fun e w' => e = .returned (.bool true) ∧ Below w.heap.size w w' :=
  (eqBook_any x.a x.b x.c x.d y.a y.b y.c y.d w).mono fun _ _ ⟨e, b⟩ => ⟨by rw [e, decide_eq_true]; exact h, b⟩
theorem eqBook_no (x y : Quad) (h : ¬ x = y) (w : World) :
    Calls Try.prog 33 #[.agg #[.int .i64 x.a, .int .i64 x.b, .int .i64 x.c, .int .i64 x.d], .agg #[.int .i64 y.a, .int .i64 y.b, .int .i64 y.c, .int .i64 y.d]] w fun e w' => e = .returned (.bool false) ∧ Below w.heap.size w w' :=
  (eqBook_any x.a x.b x.c x.d y.a y.b y.c y.d w).mono fun _ _ ⟨e, b⟩ => ⟨by rw [e, decide_eq_false]; exact h, b⟩
def eqQ (xs ys : List Quad) : Bool := decide (xs = ys)
theorem takeq_succ_eq {xs ys : List Quad} {k : Nat} (h : xs.take k = ys.take k) (hk : xs.getD k q0 = ys.getD k q0) (h1 : k < xs.length) (h2 : k < ys.length) : xs.take (k + 1) = ys.take (k + 1) := by
  rw [List.take_succ_eq_append_getElem h1, List.take_succ_eq_append_getElem h2, h]
  have e : xs[k] = ys[k] := by simpa [h1, h2] using hk
  rw [e]
set_option maxHeartbeats 1000000 in
theorem eqBookS_any (A B : Option Addr) (n m c1 c2 : Nat) (xs ys : List Quad) (w : World) (h1 : Books w A n xs) (h2 : Books w B m ys) (b1 : n ≤ 9223372036854775807) :
    Calls Try.prog 11 #[.slice A n c1, .slice B m c2] w fun e w' => e = .returned (.bool (eqQ xs ys)) ∧ Below w.heap.size w w' := by
  by_cases hnm : n = m
  · subst hnm
    go_enter Try.func11, Try.ntmps11
    go_wp2
    go_loopw [5] (fun i wr => ∃ k : Nat, k ≤ n ∧ i = .int .i64 k ∧ xs.take k = ys.take k ∧ Below w.heap.size w wr) (fun i _ => n - (intOf i).toNat)
    case atStart => exact ⟨0, by omega, rfl, rfl, by (repeat (first | exact Below.refl _ _ | assumption | refine Below.alloc ?_ (by first | omega | (simp; done) | (simp; omega)) _ | refine Below.drew ?_ | refine bdN ?_ _ | refine Below.setCell ?_ (by first | omega | (simp; done) | (simp; omega)) _))⟩
    case round =>
      obtain ⟨k, hk, rfl, he, hb⟩ := hrel
      have He := Lib.hid he
      clear he
      by_cases hlt : k < n
      · obtain ⟨b, off, rfl, hbl, hc⟩ := (h1.below hb).2 (by omega)
        obtain ⟨b', off', rfl, hbl', hc'⟩ := (h2.below hb).2 (by omega)
        obtain ⟨r0, r1, r2, r3⟩ := hc k hlt
        obtain ⟨s0, s1, s2, s3⟩ := hc' k hlt
        have i1 : (0 : Int) ≤ (k : Int) := by omega
        have i2 : (k : Int) < (n : Int) := by omega
        clear hc hc'
        generalize hx : xs.getD k q0 = x at *
        generalize hy : ys.getD k q0 = y at *
        have Hx := Lib.hid hx
        have Hy := Lib.hid hy
        clear hx hy
        have hsz := hb.size
        by_cases hxy : x = y
        all_goals
          have Hxy := Lib.hid hxy
          clear hxy
          go_wp2
          go_region_held3 (fun w' => Below (wr.heap.size) (wr) w' ∧ ∀ k o, k < wr.heap.size → w'.cell? ⟨k, o, none⟩ = World.cell? (wr) ⟨k, o, none⟩) (first | assumption | exact kp_start | (refine kp_step ?_ hb ?_; assumption; (first | omega | (simp; done) | (simp; omega))) | (refine kp_drew ?_; assumption) | (refine kp_drew (kp_of hb ?_); (first | omega | (simp; done) | (simp; omega)))) (first | (go_at_call 33; (first | refine (eqBook_yes x y Hxy.out _).mono ?_ | refine (eqBook_no x y Hxy.out _).mono ?_); rintro e w' ⟨rfl, hb⟩))
          first
          | go_wp2
            go_roundw
            case rel => exact ⟨k + 1, hlt, by go_num, takeq_succ_eq He.out (by rw [Hx.out, Hy.out]; exact Hxy.out) (by rw [h1.1]; exact hlt) (by rw [h2.1]; exact hlt), by (refine kp_end (by assumption) ?_ (by first | omega | (simp; done) | (simp; omega)); (repeat (first | exact Below.refl _ _ | assumption | refine Below.alloc ?_ (by first | omega | (simp; done) | (simp; omega)) _ | refine Below.drew ?_ | refine bdN ?_ _ | refine Below.setCell ?_ (by first | omega | (simp; done) | (simp; omega)) _)))⟩
            case measure => simp [intOf]; omega
          | go_wp2
            go_ret
            exact ⟨ret_bool (by symm; unfold eqQ; rw [decide_eq_false_iff_not]; intro e; exact Hxy.out (by rw [← Hx.out, ← Hy.out, e])), by (refine kp_end (by assumption) ?_ (by first | omega | (simp; done) | (simp; omega)); (repeat (first | exact Below.refl _ _ | assumption | refine Below.alloc ?_ (by first | omega | (simp; done) | (simp; omega)) _ | refine Below.drew ?_ | refine bdN ?_ _ | refine Below.setCell ?_ (by first | omega | (simp; done) | (simp; omega)) _)))⟩
      · obtain rfl : k = n := by omega
        go_wp2
        go_ret
        refine ⟨ret_bool ?_, by (repeat (first | exact Below.refl _ _ | assumption | refine Below.alloc ?_ (by first | omega | (simp; done) | (simp; omega)) _ | refine Below.drew ?_ | refine bdN ?_ _ | refine Below.setCell ?_ (by first | omega | (simp; done) | (simp; omega)) _))⟩
        have e1 := He.out
        rw [List.take_of_length_le (by rw [h1.1]; exact Nat.le_refl _), List.take_of_length_le (by rw [h2.1]; exact Nat.le_refl _)] at e1
        simp [eqQ, e1]
  · have hx : ((n : Int) != (m : Int)) = true := by simp; omega
    have hxs : eqQ xs ys = false := by
      unfold eqQ
      rw [decide_eq_false_iff_not]
      intro e
      have a1 := h1.1
      have a2 := h2.1
      rw [e] at a1
      omega
    go_enter Try.func11, Try.ntmps11
    go_wp2
    go_ret
    exact ⟨ret_bool hxs.symm, by (repeat (first | exact Below.refl _ _ | assumption | refine Below.alloc ?_ (by first | omega | (simp; done) | (simp; omega)) _ | refine Below.drew ?_ | refine bdN ?_ _ | refine Below.setCell ?_ (by first | omega | (simp; done) | (simp; omega)) _))⟩
theorem szBookS_any (A : Option Addr) (n cap : Nat) (m : Int) (w : World) (hn : n ≤ 9223372036854775807) (hm : 0 ≤ m ∧ m ≤ 1048576) (hl : (n : Int) ≤ m) :
    Calls Try.prog 6 #[.slice A n cap, .int .i64 m] w fun e w' => e = .returned (.int .i64 (m - n)) ∧ w = w' := by
  go_enter Try.func6, Try.ntmps6
  go_wp2
  go_ret
  exact ⟨rfl, rfl⟩
theorem szBookS_big (A : Option Addr) (n cap : Nat) (m : Int) (w : World) (hn : n ≤ 9223372036854775807) (hm : 0 ≤ m ∧ m ≤ 1048576) (hl : m < (n : Int)) :
    Calls Try.prog 6 #[.slice A n cap, .int .i64 m] w fun e w' => e = .returned (.int .i64 (-1)) ∧ w = w' := by
  go_enter Try.func6, Try.ntmps6
  go_wp2
  go_ret
  exact ⟨rfl, rfl⟩
end Go.Proofs.Ytoiaggjjfahabaa
