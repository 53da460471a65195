/- Words that all of this seat's texts use: what a region with calls keeps of the world; small facts on endings. No condition. -/
import Derived.Test.YtoiaggjjfahabaaRows
import Derived.WalkKit
import Derived.ProofKit
import Derived.WalkSpells
import Derived.WalkLawsBesides
import Derived.Deep.RegionHeld3
import Derived.BigQuiet
import Derived.Deep.QuietTactic
import Derived.Deep.LoopGhost
import Derived.Below
import Derived.Lib.Hide
import Derived.Outline
namespace Go.Proofs.Ytoiaggjjfahabaa
open Go.RowKit

theorem kp_start {B : Nat} {W : World} : Below B W W.drew ∧ ∀ b o, b < B → W.drew.cell? ⟨b, o, none⟩ = W.cell? ⟨b, o, none⟩ := ⟨(Below.refl _ _).drew, fun _ _ _ => rfl⟩
theorem kp_step {B : Nat} {W w1 w2 : World} (h : Below B W w1 ∧ ∀ b o, b < B → w1.cell? ⟨b, o, none⟩ = W.cell? ⟨b, o, none⟩) (hb : Below w1.heap.size w1 w2) (hB : B ≤ W.heap.size) :
    Below B W w2 ∧ ∀ b o, b < B → w2.cell? ⟨b, o, none⟩ = W.cell? ⟨b, o, none⟩ := by
  have h1 := h.1.size
  have h2 : Below B W w2 := h.1.trans (hb.mono (by omega))
  exact ⟨h2, fun b o hlt => h2.cell (p := ⟨b, o, none⟩) hlt⟩
theorem kp_drew {B : Nat} {W w1 : World} (h : Below B W w1 ∧ ∀ b o, b < B → w1.cell? ⟨b, o, none⟩ = W.cell? ⟨b, o, none⟩) :
    Below B W w1.drew ∧ ∀ b o, b < B → w1.drew.cell? ⟨b, o, none⟩ = W.cell? ⟨b, o, none⟩ := ⟨h.1.drew, h.2⟩
theorem kp_of {B : Nat} {W w1 : World} (hb : Below W.heap.size W w1) (hB : B ≤ W.heap.size) : Below B W w1 ∧ ∀ b o, b < B → w1.cell? ⟨b, o, none⟩ = W.cell? ⟨b, o, none⟩ :=
  ⟨hb.mono hB, fun b o hlt => hb.cell (p := ⟨b, o, none⟩) (Nat.lt_of_lt_of_le hlt hB)⟩
theorem kp_alloc {B : Nat} {W w1 : World} (h : Below B W w1 ∧ ∀ b o, b < B → w1.cell? ⟨b, o, none⟩ = W.cell? ⟨b, o, none⟩) (hB : B ≤ W.heap.size) (x : Obj) :
    Below B W (w1.alloc x) ∧ ∀ b o, b < B → (w1.alloc x).cell? ⟨b, o, none⟩ = W.cell? ⟨b, o, none⟩ := by
  have h2 : Below B W (w1.alloc x) := h.1.alloc (Nat.le_trans hB h.1.size) x
  exact ⟨h2, fun b o hlt => h2.cell (p := ⟨b, o, none⟩) hlt⟩
theorem kp_set {B : Nat} {W w1 : World} {p : Addr} (h : Below B W w1 ∧ ∀ b o, b < B → w1.cell? ⟨b, o, none⟩ = W.cell? ⟨b, o, none⟩) (hp : B ≤ p.block) (x : Value) :
    Below B W (w1.setCell p x) ∧ ∀ b o, b < B → (w1.setCell p x).cell? ⟨b, o, none⟩ = W.cell? ⟨b, o, none⟩ := by
  have h2 : Below B W (w1.setCell p x) := h.1.setCell hp x
  exact ⟨h2, fun b o hlt => h2.cell (p := ⟨b, o, none⟩) hlt⟩
theorem kp_realloc {B : Nat} {W w1 : World} {x y : Obj} (h : Below B W (w1.alloc x) ∧ ∀ b o, b < B → (w1.alloc x).cell? ⟨b, o, none⟩ = W.cell? ⟨b, o, none⟩) (hB : B ≤ w1.heap.size) :
    Below B W (w1.alloc y) ∧ ∀ b o, b < B → (w1.alloc y).cell? ⟨b, o, none⟩ = W.cell? ⟨b, o, none⟩ := by
  have h2 : Below B W (w1.alloc y) := ⟨h.1.os, h.1.tape, h.1.output, by have := h.1.size; simp at this ⊢; exact this, fun k hk => by
    have e1 := h.1.block k hk
    rw [Below.heap_alloc _ _ _ (by omega)] at e1 ⊢
    exact e1⟩
  exact ⟨h2, fun b o hlt => h2.cell (p := ⟨b, o, none⟩) hlt⟩
theorem kp_end {B : Nat} {W0 W w1 : World} (h : Below B W w1 ∧ ∀ b o, b < B → w1.cell? ⟨b, o, none⟩ = W.cell? ⟨b, o, none⟩) (h0 : Below W0.heap.size W0 W) (hB : W0.heap.size ≤ B) : Below W0.heap.size W0 w1 :=
  h0.trans (h.1.mono hB)
theorem bdN {B : Nat} {a w : World} (h : Below B a w) (n : Nat) : Below B a (w.drewN n) := ⟨h.os, h.tape, h.output, h.size, h.block⟩
theorem bcell {W w1 : World} (hb : Below W.heap.size W w1) : (∀ b o, b < W.heap.size → w1.cell? ⟨b, o, none⟩ = W.cell? ⟨b, o, none⟩) ∧ (∀ b o, b < W.heap.size → w1.frozen? ⟨b, o, none⟩ = W.frozen? ⟨b, o, none⟩) :=
  ⟨fun b o h => hb.cell (p := ⟨b, o, none⟩) h, fun b o h => hb.frozen (p := ⟨b, o, none⟩) h⟩
theorem ret_int {k : IntKind} {a b : Int} (h : a = b) : Ending.returned (.int k a) = .returned (.int k b) := by rw [h]
theorem ret_bool {a b : Bool} (h : a = b) : Ending.returned (.bool a) = .returned (.bool b) := by rw [h]
theorem ownP : ownKnob Try.prog.godebug = none := by kernel_rfl
theorem laidOutP : laidOutB Try.prog = true := by kernel_rfl
/-- an int fits its kind -/
def In64 (n : Int) : Prop := -9223372036854775808 ≤ n ∧ n ≤ 9223372036854775807
theorem wf64 {n : Int} (h : (Lit.int .i64 n).wf = true) : In64 n := by
  simpa [Lit.wf, IntKind.min, IntKind.max, IntKind.signed, IntKind.bits, In64] using h
end Go.Proofs.Ytoiaggjjfahabaa
