/- Texts that are tickets: which they are, and which number each tells. No program in sight. -/
import Derived.Test.YtoiaggjjfahabaaDoorTkP
namespace Go.Proofs.YtoiaggjjfahabaaDoor
open Go
set_option linter.unusedVariables false
attribute [local instance] Classical.propDecidable
def isT (s : ByteArray) : Prop := ∃ n : Nat, n ≤ 9999 ∧ s = tkB n
noncomputable def rdB (s : ByteArray) : Bool := decide (isT s)
noncomputable def rdN (s : ByteArray) : Int := if h : isT s then (h.choose : Int) else -1
/-- byte i of a text -/
def byt (s : ByteArray) (i : Nat) : Nat := (s.data.toList.getD i 0).toNat
theorem isT_of {s : ByteArray} (h : rdB s = true) : isT s := by unfold rdB at h; exact of_decide_eq_true h
theorem byt_lt (s : ByteArray) (i : Nat) : byt s i < 256 := UInt8.toNat_lt _
theorem ofN (x : Nat) (h : x < 256) : (UInt8.ofNat x).toNat = x := by show x % 256 = x; exact Nat.mod_eq_of_lt h
theorem byt_tk (n : Nat) (h : n ≤ 9999) : byt (tkB n) 0 = 48 + n / 1000 ∧ byt (tkB n) 1 = 48 + n / 100 % 10 ∧ byt (tkB n) 2 = 48 + n / 10 % 10 ∧ byt (tkB n) 3 = 48 + n % 10 ∧ byt (tkB n) 4 = 65 + n % 23 :=
  ⟨ofN _ (by omega), ofN _ (by omega), ofN _ (by omega), ofN _ (by omega), ofN _ (by omega)⟩
theorem ext5 {s r : ByteArray} (h : s.size = 5) (g : r.size = 5) (he : ∀ i, i < 5 → byt s i = byt r i) : s = r := by
  apply ByteArray.ext
  have hs : s.data.toList.length = 5 := by rw [Array.length_toList]; exact h
  have hr : r.data.toList.length = 5 := by rw [Array.length_toList]; exact g
  rw [← Array.toList_inj]
  apply List.ext_getElem (by omega)
  intro i h1 h2
  have := he i (by omega)
  unfold byt at this
  rw [List.getD_eq_getElem?_getD, List.getElem?_eq_getElem h1, List.getD_eq_getElem?_getD, List.getElem?_eq_getElem h2] at this
  exact UInt8.toNat_inj.1 this
theorem dsum (n : Nat) : (((0 * 10 + n / 1000) * 10 + n / 100 % 10) * 10 + n / 10 % 10) * 10 + n % 10 = n := by
  have a : n / 1000 * 10 + n / 100 % 10 = n / 100 := by omega
  have b : n / 100 * 10 + n / 10 % 10 = n / 10 := by omega
  have c : n / 10 * 10 + n % 10 = n := by omega
  rw [Nat.zero_mul, Nat.zero_add, a, b, c]
/-- the number that the first four digits tell -/
def val (s : ByteArray) : Nat → Nat
  | 0 => 0
  | j + 1 => val s j * 10 + (byt s j - 48)
theorem isT_iff (s : ByteArray) : isT s ↔ s.size = 5 ∧ (∀ i, i < 4 → 48 ≤ byt s i ∧ byt s i ≤ 57) ∧ byt s 4 = 65 + val s 4 % 23 := by
  constructor
  · rintro ⟨n, hn, rfl⟩
    obtain ⟨h0, h1, h2, h3, h4⟩ := byt_tk n hn
    refine ⟨tkB_size n, fun i hi => ?_, ?_⟩
    · rcases (by omega : i = 0 ∨ i = 1 ∨ i = 2 ∨ i = 3) with rfl | rfl | rfl | rfl
      · rw [h0]; omega
      · rw [h1]; omega
      · rw [h2]; omega
      · rw [h3]; omega
    · rw [h4]; simp only [val, h0, h1, h2, h3, Nat.add_sub_cancel_left]; rw [dsum]
  · rintro ⟨hs, hd, h4⟩
    have d0 := hd 0 (by omega); have d1 := hd 1 (by omega); have d2 := hd 2 (by omega); have d3 := hd 3 (by omega)
    obtain ⟨x0, e0⟩ : ∃ x, byt s 0 = 48 + x := ⟨_, (Nat.add_sub_cancel' d0.1).symm⟩
    obtain ⟨x1, e1⟩ : ∃ x, byt s 1 = 48 + x := ⟨_, (Nat.add_sub_cancel' d1.1).symm⟩
    obtain ⟨x2, e2⟩ : ∃ x, byt s 2 = 48 + x := ⟨_, (Nat.add_sub_cancel' d2.1).symm⟩
    obtain ⟨x3, e3⟩ : ∃ x, byt s 3 = 48 + x := ⟨_, (Nat.add_sub_cancel' d3.1).symm⟩
    have hv : val s 4 = ((x0 * 10 + x1) * 10 + x2) * 10 + x3 := by simp only [val, e0, e1, e2, e3, Nat.add_sub_cancel_left]; omega
    rw [e0] at d0; rw [e1] at d1; rw [e2] at d2; rw [e3] at d3
    have v1 : val s 4 / 1000 = x0 := by rw [hv]; omega
    have v2 : val s 4 / 100 = x0 * 10 + x1 := by rw [hv]; omega
    have v3 : val s 4 / 10 = (x0 * 10 + x1) * 10 + x2 := by rw [hv]; omega
    have v4 : val s 4 % 10 = x3 := by rw [hv]; omega
    refine ⟨val s 4, by omega, ext5 hs (tkB_size _) fun i hi => ?_⟩
    obtain ⟨g0, g1, g2, g3, g4⟩ := byt_tk (val s 4) (by omega)
    rcases (by omega : i = 0 ∨ i = 1 ∨ i = 2 ∨ i = 3 ∨ i = 4) with rfl | rfl | rfl | rfl | rfl
    · rw [g0, e0, v1]
    · rw [g1, e1, v2]; omega
    · rw [g2, e2, v3]; omega
    · rw [g3, e3, v4]
    · rw [g4, h4]
theorem tkB_inj {n m : Nat} (h : n ≤ 9999) (g : m ≤ 9999) (e : tkB n = tkB m) : n = m := by
  obtain ⟨h0, h1, h2, h3, _⟩ := byt_tk n h
  obtain ⟨g0, g1, g2, g3, _⟩ := byt_tk m g
  rw [e] at h0 h1 h2 h3
  omega
theorem rd_yes (n : Nat) (h : n ≤ 9999) : rdB (tkB n) = true ∧ rdN (tkB n) = n := by
  have ht : isT (tkB n) := ⟨n, h, rfl⟩
  refine ⟨decide_eq_true ht, ?_⟩
  unfold rdN
  rw [dif_pos ht]
  obtain ⟨c1, c2⟩ := ht.choose_spec
  rw [tkB_inj c1 h c2.symm]
theorem rd_no {s : ByteArray} (h : ¬ isT s) : rdB s = false ∧ rdN s = -1 := ⟨decide_eq_false h, by unfold rdN; rw [dif_neg h]⟩
theorem rd_no' {s : ByteArray} (h : rdB s = false) : rdN s = -1 := by
  unfold rdB at h; exact (rd_no (of_decide_eq_false h)).2
theorem val_lt (s : ByteArray) (j : Nat) (h : ∀ i, i < j → 48 ≤ byt s i ∧ byt s i ≤ 57) : val s j + 1 ≤ 10 ^ j := by
  induction j with
  | zero => simp [val]
  | succ j ih =>
    have := ih fun i hi => h i (by omega)
    have := h j (by omega)
    simp only [val, Nat.pow_succ]; omega
/-- the text of the number that the digits tell is the text, or the text is no ticket -/
theorem tk_back {s : ByteArray} (h5 : s.size = 5) (h : ∀ i, i < 4 → 48 ≤ byt s i ∧ byt s i ≤ 57) : val s 4 ≤ 9999 ∧ ((tkB (val s 4)).toList == s.toList) = rdB s ∧ (rdB s = true → rdN s = val s 4) := by
  have hv := val_lt s 4 h
  have hle : val s 4 ≤ 9999 := by omega
  refine ⟨hle, ?_, fun hr => ?_⟩
  · rw [Bool.eq_iff_iff, beq_iff_eq]
    constructor
    · intro e
      rw [ByteArray.toList_eq, ByteArray.toList_eq] at e
      have : tkB (val s 4) = s := ByteArray.ext (Array.toList_inj.1 e)
      rw [← this]; exact (rd_yes _ hle).1
    · intro hr
      have ht : isT s := isT_of hr
      obtain ⟨n, hn, rfl⟩ := ht
      obtain ⟨h0, h1, h2, h3, _⟩ := byt_tk n hn
      have : val (tkB n) 4 = n := by simp only [val, h0, h1, h2, h3, Nat.add_sub_cancel_left]; exact dsum n
      rw [this]
  · have ht : isT s := isT_of hr
    obtain ⟨n, hn, rfl⟩ := ht
    obtain ⟨h0, h1, h2, h3, _⟩ := byt_tk n hn
    have : val (tkB n) 4 = n := by simp only [val, h0, h1, h2, h3, Nat.add_sub_cancel_left]; exact dsum n
    rw [(rd_yes n hn).2, this]
end Go.Proofs.YtoiaggjjfahabaaDoor
