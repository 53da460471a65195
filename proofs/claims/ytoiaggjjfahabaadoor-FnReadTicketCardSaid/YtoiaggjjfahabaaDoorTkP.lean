/- The text of a ticket: four digits and a letter. No program in sight. -/
import Derived.WalkKit
import Derived.Lib.ItoaNum
namespace Go.Proofs.YtoiaggjjfahabaaDoor
open Go
set_option linter.unusedVariables false
def d4 (n : Nat) : List UInt8 := [UInt8.ofNat (48 + n / 1000), UInt8.ofNat (48 + n / 100 % 10), UInt8.ofNat (48 + n / 10 % 10), UInt8.ofNat (48 + n % 10)]
def tkC (n : Nat) : ByteArray := ⟨#[UInt8.ofNat (65 + n % 23)]⟩
def tkB (n : Nat) : ByteArray := ⟨(d4 n ++ [UInt8.ofNat (65 + n % 23)]).toArray⟩
def tk (n : Int) : ByteArray := if 0 ≤ n ∧ n ≤ 9999 then tkB n.toNat else ⟨#[]⟩
/-- the last k of the four digits -/
def ss (n k : Nat) : ByteArray := ⟨((d4 n).drop (4 - k)).toArray⟩
def zs (c : Nat) : ByteArray := ⟨(List.replicate c 48).toArray⟩
theorem app_mk (a b : List UInt8) : (⟨a.toArray⟩ : ByteArray) ++ ⟨b.toArray⟩ = ⟨(a ++ b).toArray⟩ := by
  apply ByteArray.ext
  simp
theorem ss_size (n k : Nat) (h : k ≤ 4) : (ss n k).size = k := by
  unfold ss d4 ByteArray.size
  simp; omega
theorem zs_size (c : Nat) : (zs c).size = c := by unfold zs ByteArray.size; simp
theorem tkB_size (n : Nat) : (tkB n).size = 5 := by unfold tkB d4 ByteArray.size; simp
theorem tkC_size (n : Nat) : (tkC n).size = 1 := rfl
theorem ss_tk (n : Nat) : ss n 4 ++ tkC n = tkB n := by
  unfold ss tkC tkB
  rw [show (⟨#[UInt8.ofNat (65 + n % 23)]⟩ : ByteArray) = ⟨[UInt8.ofNat (65 + n % 23)].toArray⟩ from rfl, app_mk]
  rfl
theorem zs_ss (n c : Nat) (h : c ≤ 4) (hz : (d4 n).take c = List.replicate c 48) : zs c ++ ss n (4 - c) = ss n 4 := by
  unfold zs ss
  rw [app_mk, ← hz, show 4 - (4 - c) = c by omega, List.take_append_drop]
  simp
theorem one_ss (n k : Nat) (h : k < 4) (hz : (d4 n).drop (4 - (k + 1)) = 48 :: (d4 n).drop (4 - k)) : (⟨#[48]⟩ : ByteArray) ++ ss n k = ss n (k + 1) := by
  unfold ss
  rw [show (⟨#[48]⟩ : ByteArray) = ⟨[48].toArray⟩ from rfl, app_mk, hz]
  rfl
theorem u0 : UInt8.ofNat (48 + 0) = 48 := rfl
theorem dec_d4 (n : Nat) (hn : n ≤ 9999) : ∃ m, 1 ≤ m ∧ m ≤ 4 ∧ Lib.decDigits n = (d4 n).drop (4 - m) ∧ (d4 n).take (4 - m) = List.replicate (4 - m) 48 := by
  rcases Nat.lt_or_ge n 10 with a | a
  · refine ⟨1, by omega, by omega, ?_, ?_⟩
    · rw [Lib.decDigits, dif_pos a]; simp [d4, show n % 10 = n by omega]
    · simp [d4, show n / 1000 = 0 by omega, show n / 100 = 0 by omega, show n / 10 = 0 by omega]
  rcases Nat.lt_or_ge n 100 with b | b
  · refine ⟨2, by omega, by omega, ?_, ?_⟩
    · rw [Lib.decDigits, dif_neg (by omega), Lib.decDigits, dif_pos (by omega)]; simp [d4, show n / 10 % 10 = n / 10 by omega]
    · simp [d4, show n / 1000 = 0 by omega, show n / 100 = 0 by omega]
  rcases Nat.lt_or_ge n 1000 with c | c
  · refine ⟨3, by omega, by omega, ?_, ?_⟩
    · rw [Lib.decDigits, dif_neg (by omega), Lib.decDigits, dif_neg (by omega), Lib.decDigits, dif_pos (by omega)]; simp [d4, show n / 10 / 10 = n / 100 by omega, show n / 100 % 10 = n / 100 by omega]
    · simp [d4, show n / 1000 = 0 by omega]
  · refine ⟨4, by omega, by omega, ?_, ?_⟩
    · rw [Lib.decDigits, dif_neg (by omega), Lib.decDigits, dif_neg (by omega), Lib.decDigits, dif_neg (by omega), Lib.decDigits, dif_pos (by omega)]; simp [d4, show n / 10 / 10 = n / 100 by omega, show n / 100 / 10 = n / 1000 by omega]
    · simp
theorem dec_ss (n : Nat) (hn : n ≤ 9999) : ∃ m, 1 ≤ m ∧ m ≤ 4 ∧ (⟨(Lib.decDigits n).toArray⟩ : ByteArray) = ss n m ∧ zs (4 - m) ++ ss n m = ss n 4 ∧ ∀ k, m ≤ k → k < 4 → (⟨#[48]⟩ : ByteArray) ++ ss n k = ss n (k + 1) := by
  obtain ⟨m, h1, h4, hd, hz⟩ := dec_d4 n hn
  refine ⟨m, h1, h4, by rw [hd]; rfl, ?_, fun k hk h => one_ss n k h ?_⟩
  · have := zs_ss n (4 - m) (by omega) hz
    rwa [show 4 - (4 - m) = m by omega] at this
  · have hl : (d4 n).length = 4 := rfl
    have hlt : 4 - (k + 1) < (d4 n).length := by omega
    rw [List.drop_eq_getElem_cons hlt, show 4 - (k + 1) + 1 = 4 - k by omega]
    congr 1
    have h1 : ((d4 n).take (4 - m))[4 - (k + 1)]? = some 48 := by rw [hz, List.getElem?_replicate, if_pos (by omega)]
    rw [List.getElem?_take, if_pos (by omega), List.getElem?_eq_getElem hlt] at h1
    exact Option.some.inj h1
/-- a numeral grows by its last digit -/
theorem dec_next (n : Nat) (h : 10 ≤ n) : (⟨(Lib.decDigits (n / 10)).toArray⟩ : ByteArray) ++ ⟨#[UInt8.ofNat (48 + n % 10)]⟩ = ⟨(Lib.decDigits n).toArray⟩ := by
  rw [show (⟨#[UInt8.ofNat (48 + n % 10)]⟩ : ByteArray) = ⟨[UInt8.ofNat (48 + n % 10)].toArray⟩ from rfl, app_mk]
  conv => rhs; rw [Lib.decDigits, dif_neg (by omega)]
theorem dec_one (n : Nat) (h : n < 10) : (⟨(Lib.decDigits n).toArray⟩ : ByteArray) = ⟨#[UInt8.ofNat (48 + n)]⟩ := by
  rw [Lib.decDigits, dif_pos h]
theorem dec_size (n : Nat) (h : n ≤ 9999) : (⟨(Lib.decDigits n).toArray⟩ : ByteArray).size ≤ 4 := by
  obtain ⟨m, _, h4, e, _⟩ := dec_ss n h
  rw [e, ss_size n m h4]; exact h4
end Go.Proofs.YtoiaggjjfahabaaDoor
