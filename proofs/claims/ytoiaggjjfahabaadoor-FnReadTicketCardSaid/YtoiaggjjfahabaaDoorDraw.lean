/- The reader of a law's bytes (spec.l20Rd): l20Open, pick, odd: what they return is bounded; of memory only the reader's own block changes. No condition. -/
import Derived.Test.YtoiaggjjfahabaaDoorMem
import Derived.Laws.Bits64
namespace Go.Proofs.YtoiaggjjfahabaaDoor
open Go.RowKit
set_option linter.unusedVariables false

theorem xor_nn {a b : Int} (ha : 0 ≤ a) (ha2 : a < 4611686018427387904) (hb : 0 ≤ b) (hb2 : b < 4611686018427387904) : 0 ≤ bits .xor .i64 a b ∧ bits .xor .i64 a b < 4611686018427387904 := by
  obtain ⟨A, rfl⟩ := Int.eq_ofNat_of_zero_le ha
  obtain ⟨B, rfl⟩ := Int.eq_ofNat_of_zero_le hb
  have hx : A ^^^ B < 2 ^ 62 := Nat.xor_lt_two_pow (by omega) (by omega)
  have h1 : (BitVec.ofInt 64 (A : Int)).toNat = A := by
    rw [BitVec.ofInt_natCast, BitVec.toNat_ofNat]; exact Nat.mod_eq_of_lt (by omega)
  have h2 : (BitVec.ofInt 64 (B : Int)).toNat = B := by
    rw [BitVec.ofInt_natCast, BitVec.toNat_ofNat]; exact Nat.mod_eq_of_lt (by omega)
  have e : bits .xor .i64 (A : Int) (B : Int) = ((A ^^^ B : Nat) : Int) := by
    show IntKind.i64.wrap ((BitVec.ofInt 64 (A : Int) ^^^ BitVec.ofInt 64 (B : Int)).toNat : Int) = _
    rw [BitVec.toNat_xor, h1, h2]
    exact IntWalk.i64_in _ (by constructor <;> omega)
  rw [e]
  omega

/-- what a step does to memory: nothing below the reader's block; of the older blocks only the reader's -/
def Stp (r : Nat) (w w' : World) : Prop := Below r w w' ∧ w.heap.size ≤ w'.heap.size ∧ ∀ k, k ≠ r → k < w.heap.size → w'.heap[k]? = w.heap[k]?
theorem Stp.refl (r : Nat) (w : World) : Stp r w w := ⟨Below.refl _ _, Nat.le_refl _, fun _ _ _ => rfl⟩
theorem Stp.trans {r : Nat} {a b c : World} (h : Stp r a b) (h' : Stp r b c) : Stp r a c :=
  ⟨h.1.trans h'.1, Nat.le_trans h.2.1 h'.2.1, fun k hk hlt => (h'.2.2 k hk (Nat.lt_of_lt_of_le hlt h.2.1)).trans (h.2.2 k hk hlt)⟩
theorem Stp.of_below {r : Nat} {a b : World} (h : Below a.heap.size a b) (hr : r ≤ a.heap.size) : Stp r a b :=
  ⟨h.mono hr, h.size, fun k _ hlt => h.block k hlt⟩
theorem Stp.blk {r : Nat} {w w' : World} (h : Stp r w w') {g : Nat} {t : TypeId} {cs : Array Value} (hg : Blk w g t cs) (hne : g ≠ r) : Blk w' g t cs := (h.2.2 g hne hg.lt).trans hg
theorem Stp.set {r : Nat} (w : World) (i : Nat) (v : Value) : Stp r w (w.setCell ⟨r, i, none⟩ v) :=
  ⟨(Below.refl r w).setCell (p := ⟨r, i, none⟩) (Nat.le_refl _) v, by simp [World.setCell], fun k hk _ => Below.heap_setCell _ _ _ _ (fun e => hk e)⟩

/-- the bytes read as zs -/
def Byt (w : World) (r : Nat) (A : Option Addr) (n : Nat) (zs : List Int) : Prop :=
  zs.length = n ∧ (∀ k, k < n → 0 ≤ zs.getD k 0 ∧ zs.getD k 0 ≤ 255) ∧ (0 < n → ∃ b off, A = some ⟨b, off, none⟩ ∧ b < r ∧ ∀ k, k < n → w.cell? ⟨b, off + k, none⟩ = some (.int .u8 (zs.getD k 0)))
def Rd (w : World) (r : Nat) (A : Option Addr) (n cap : Nat) (zs : List Int) (p : Nat) : Prop :=
  n ≤ 2000 ∧ n ≤ cap ∧ Byt w r A n zs ∧ Blk w r 109 #[.slice A n cap, .int .i64 p]
theorem Byt.stp {w w' : World} {r : Nat} {A : Option Addr} {n : Nat} {zs : List Int} (h : Byt w r A n zs) (hs : Stp r w w') : Byt w' r A n zs :=
  ⟨h.1, h.2.1, fun hn => by
    obtain ⟨b, off, rfl, hlt, hc⟩ := h.2.2 hn
    exact ⟨b, off, rfl, hlt, fun k hk => (hs.1.cell (p := ⟨b, off + k, none⟩) hlt).trans (hc k hk)⟩⟩

set_option maxRecDepth 100000 in
theorem pick_ok (r : Nat) (m : Int) (A : Option Addr) (n cap : Nat) (zs : List Int) (p : Nat) (w : World) (h : Rd w r A n cap zs p) (hp : p ≤ 1000000000) (hm : -1000000 ≤ m) (hm2 : m ≤ 1000000000) :
    Calls Tryd.prog 50 #[.pointer (some ⟨r, 0, none⟩), .int .i64 m] w fun e w' => ∃ x, e = .returned (.int .i64 x) ∧ 0 ≤ x ∧ (x < m ∨ m < 1 ∧ x = 0) ∧ Rd w' r A n cap zs (p + 1) ∧ Stp r w w' := by
  obtain ⟨hn, hnc, hby, hbk⟩ := h
  have c0 := hbk.cell 0
  have c1 := hbk.cell 1
  simp at c0 c1
  have f1 := hbk.frozen 1
  have f0 := hbk.frozen 0
  have hst := Stp.set (r := r) w 1 (.int .i64 ((p : Int) + 1))
  have hby2 := hby.stp hst
  have hbk2 := hbk.set_ 1 (.int .i64 ((p : Int) + 1))
  simp at hbk2
  have HR : Hid (Rd (w.setCell ⟨r, 1, none⟩ (.int .i64 ((p : Int) + 1))) r A n cap zs (p + 1)) := ⟨hn, hnc, hby2, hbk2⟩
  have d0 := hbk2.cell 0
  have d1 := hbk2.cell 1
  simp at d0 d1
  have HS := Lib.hid hst
  clear hst hbk2 hbk hby
  go_enter Tryd.func50, Tryd.ntmps50
  by_cases h1 : m < 1
  · have h1b : decide (m < 1) = true := by simpa using h1
    go_wp2
    go_ret
    exact ⟨0, rfl, by omega, .inr ⟨h1, rfl⟩, HR.out, HS.out⟩
  · have h1b : decide (m < 1) = false := by simpa using h1
    by_cases hn0 : n = 0
    · subst hn0
      go_wp2
      go_ret
      exact ⟨0, rfl, by omega, .inl (by omega), HR.out, HS.out⟩
    · have hnb : ((n : Int) == 0) = false := by simp; omega
      obtain ⟨b, off, rfl, hbr, hc⟩ := hby2.2.2 (by omega)
      have hz := hby2.2.1
      clear hby2
      by_cases hlt : p < n
      · have hcp := hc p hlt
        have hzp := hz p hlt
        generalize zs.getD p 0 = z at hcp hzp
        clear hc hz
        go_wp2
        go_ret
        refine ⟨_, rfl, ?_, .inl ?_, HR.out, HS.out⟩
        · first | exact Int.tmod_nonneg _ hzp.1 | exact Int.emod_nonneg _ (by omega)
        · first | exact Int.tmod_lt_of_pos _ (by omega) | exact Int.emod_lt_of_pos _ (by omega)
      · have hcp := hc (p % n) (Nat.mod_lt _ (by omega))
        have hzp := hz (p % n) (Nat.mod_lt _ (by omega))
        have hcq := hc ((p * 7 + 3) % n) (Nat.mod_lt _ (by omega))
        have hzq := hz ((p * 7 + 3) % n) (Nat.mod_lt _ (by omega))
        generalize zs.getD (p % n) 0 = z at hcp hzp
        generalize zs.getD ((p * 7 + 3) % n) 0 = y at hcq hzq
        clear hc hz
        have e1 : Int.tmod (p : Int) (n : Int) = ((p % n : Nat) : Int) := by rw [Int.tmod_eq_emod_of_nonneg (by omega)]; omega
        have e2 : Int.tmod ((p : Int) * 7 + 3) (n : Int) = (((p * 7 + 3) % n : Nat) : Int) := by
          have e0 : (p : Int) * 7 + 3 = ((p * 7 + 3 : Nat) : Int) := by omega
          rw [e0, Int.tmod_eq_emod_of_nonneg (by omega)]; omega
        have e3 : Int.tdiv (p : Int) (n : Int) = ((p / n : Nat) : Int) := by rw [Int.tdiv_eq_ediv_of_nonneg (by omega)]; omega
        have b1 : p % n < n := Nat.mod_lt _ (by omega)
        have b2 : (p * 7 + 3) % n < n := Nat.mod_lt _ (by omega)
        have b3 : p / n ≤ p := Nat.div_le_self _ _
        generalize p % n = K1 at *
        generalize (p * 7 + 3) % n = K2 at *
        generalize p / n = K3 at *
        have i1 : (0 : Int) ≤ (K1 : Int) := by omega
        have i2 : (K1 : Int) < (n : Int) := by omega
        have i3 : (0 : Int) ≤ (K2 : Int) := by omega
        have i4 : (K2 : Int) < (n : Int) := by omega
        have u1 : IntKind.i64.wrap ((p : Int) * 7) = (p : Int) * 7 := IntWalk.i64_in _ (by omega)
        have u2 : IntKind.i64.wrap ((p : Int) * 7 + 3) = (p : Int) * 7 + 3 := IntWalk.i64_in _ (by omega)
        have u3 : IntKind.i64.wrap z = z := IntWalk.i64_in _ (by omega)
        have u4 : IntKind.i64.wrap y = y := IntWalk.i64_in _ (by omega)
        have u5 : IntKind.i64.wrap (z * 131) = z * 131 := IntWalk.i64_in _ (by omega)
        have u6 : IntKind.i64.wrap (y * 1117) = y * 1117 := IntWalk.i64_in _ (by omega)
        have u7 : IntKind.i64.wrap (z * 131 + y * 1117) = z * 131 + y * 1117 := IntWalk.i64_in _ (by omega)
        have u8 : IntKind.i64.wrap ((p : Int) * 29) = (p : Int) * 29 := IntWalk.i64_in _ (by omega)
        have u9 : IntKind.i64.wrap (z * 131 + y * 1117 + (p : Int) * 29) = z * 131 + y * 1117 + (p : Int) * 29 := IntWalk.i64_in _ (by omega)
        have v1 : IntKind.i64.wrap (K3 : Int) = (K3 : Int) := IntWalk.i64_in _ (by omega)
        have v2 : IntKind.i64.wrap ((K3 : Int) * 53) = (K3 : Int) * 53 := IntWalk.i64_in _ (by omega)
        have v3 : IntKind.i64.wrap (z * 131 + y * 1117 + (p : Int) * 29 + (K3 : Int) * 53) = z * 131 + y * 1117 + (p : Int) * 29 + (K3 : Int) * 53 := IntWalk.i64_in _ (by omega)
        go_wp2
        go_quiet (fail)
        clear u1 u2 u3 u4 u5 u6 u7 u8 u9 v1 v2 v3
        go_wp2
        have hT : 0 ≤ z * 131 + y * 1117 + (p : Int) * 29 + (K3 : Int) * 53 ∧ z * 131 + y * 1117 + (p : Int) * 29 + (K3 : Int) * 53 ≤ 1000000000000 := by omega
        generalize z * 131 + y * 1117 + (p : Int) * 29 + (K3 : Int) * 53 = T at hT
        have hX := xor_nn (a := T) (b := T / 64) (by omega) (by omega) (by omega) (by omega)
        go_ret
        refine ⟨_, rfl, Int.tmod_nonneg _ hX.1, .inl (Int.tmod_lt_of_pos _ (by omega)), HR.out, ⟨bdN HS.out.1 _, HS.out.2⟩⟩

theorem odd_ok (r : Nat) (m : Int) (A : Option Addr) (n cap : Nat) (zs : List Int) (p : Nat) (w : World) (h : Rd w r A n cap zs p) (hp : p ≤ 1000000000) (hm : -1000000 ≤ m) (hm2 : m ≤ 1000000000) :
    Calls Tryd.prog 101 #[.pointer (some ⟨r, 0, none⟩), .int .i64 m] w fun e w' => ∃ x, e = .returned (.bool x) ∧ (m < 1 → x = false) ∧ (∃ q, q ≤ p + 1 ∧ Rd w' r A n cap zs q) ∧ Stp r w w' := by
  have H := Lib.hid h
  clear h
  go_enter Tryd.func101, Tryd.ntmps101
  by_cases h1 : 0 < m
  · have h1b : decide (0 < m) = true := by simpa using h1
    go_wp2_with (go_at_call 50; refine (pick_ok r m A n cap zs p _ H.out hp hm hm2).mono ?_; rintro e w1 ⟨x, rfl, x0, x1, hr, hs⟩)
    all_goals (go_ret; exact ⟨_, rfl, fun h => absurd h (by omega), ⟨p + 1, Nat.le_refl _, hr⟩, hs⟩)
  · have h1b : decide (0 < m) = false := by simpa using h1
    go_wp2
    go_ret
    exact .inl ⟨rfl, ⟨p, by omega, H.out⟩, Stp.refl _ _⟩

theorem open_ok (A : Option Addr) (n cap : Nat) (zs : List Int) (w : World) (h : Nums .u8 w A n cap zs) (hn : n ≤ 1048576) :
    Calls Tryd.prog 48 #[.slice A n cap] w fun e w' => ∃ m, e = .returned (.pointer (some ⟨w.heap.size, 0, none⟩)) ∧ Rd w' w.heap.size A m cap (zs.take m) 0 ∧ Below w.heap.size w w' ∧ w.heap.size < w'.heap.size := by
  obtain ⟨h1, h2, h3, h4, h5⟩ := h
  have hz : ∀ k, k < n → 0 ≤ zs.getD k 0 ∧ zs.getD k 0 ≤ 255 := fun k hk => by
    have := h5 (zs[k]'(by omega)) (List.getElem_mem _)
    simp [Lit.wf, IntKind.min, IntKind.max, IntKind.signed, IntKind.bits] at this
    rw [List.getD_eq_getElem?_getD, List.getElem?_eq_getElem (by omega)]
    simpa using this
  have key : ∀ m, m ≤ n → m ≤ 2000 → Rd (w.alloc (.cells #[.slice A m cap, .int .i64 0] 109)) w.heap.size A m cap (zs.take m) 0 := fun m hm hm2 => by
    have eg : ∀ k, k < m → (zs.take m).getD k 0 = zs.getD k 0 := fun k hk => by simp [List.getD_eq_getElem?_getD, hk]
    refine ⟨hm2, by omega, ⟨by simp; omega, fun k hk => by rw [eg k hk]; exact hz k (by omega), fun hm0 => ?_⟩, Blk.new _ _ _⟩
    obtain ⟨b, off, rfl, hb, hc⟩ := h4 (by omega)
    exact ⟨b, off, rfl, hb, fun k hk => by rw [eg k hk]; exact (((Below.refl w.heap.size w).alloc (Nat.le_refl _) _).cell (p := ⟨b, off + k, none⟩) hb).trans (hc k (by omega))⟩
  have K := Lib.hid key
  clear key
  go_enter Tryd.func48, Tryd.ntmps48
  by_cases hl : 2000 < n
  · have hlb : decide (2000 < n) = true := by simpa using hl
    obtain ⟨b, off, rfl, hb, hc⟩ := h4 (by omega)
    clear hc
    go_wp2
    go_ret
    exact ⟨2000, rfl, K.out 2000 (by omega) (by omega), by (repeat (first | exact Below.refl _ _ | assumption | refine Below.alloc ?_ (by first | omega | (simp; done) | (simp; omega)) _ | refine Below.drew ?_ | refine bdN ?_ _ | refine Below.setCell ?_ (by first | omega | (simp; done) | (simp; omega)) _)), by simp⟩
  · have hlb : decide (2000 < n) = false := by simpa using hl
    go_wp2
    go_ret
    exact ⟨n, rfl, K.out n (by omega) (by omega), by (repeat (first | exact Below.refl _ _ | assumption | refine Below.alloc ?_ (by first | omega | (simp; done) | (simp; omega)) _ | refine Below.drew ?_ | refine bdN ?_ _ | refine Below.setCell ?_ (by first | omega | (simp; done) | (simp; omega)) _)), by simp⟩
end Go.Proofs.YtoiaggjjfahabaaDoor
