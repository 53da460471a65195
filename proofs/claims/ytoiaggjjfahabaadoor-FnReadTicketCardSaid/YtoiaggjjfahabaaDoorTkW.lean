/- What spec.l1Number, spec.TicketText, strings.Repeat (of "0", up to three times) and impl.TicketText compute. Condition of impl.TicketText: the table of powers of ten holds what the program's text lays in it. -/
import Derived.Test.YtoiaggjjfahabaaDoorTkP
import Derived.Test.YtoiaggjjfahabaaDoorMem
import Derived.Test.YtoiaggjjfahabaaDoorSc
import Derived.Test.YtoiaggjjfahabaaDoorShelf
import Derived.Deep.RegionLaw
import Derived.Deep.Cut
namespace Go.Proofs.YtoiaggjjfahabaaDoor
open Go.RowKit
set_option linter.unusedVariables false
theorem cvB (w : World) (b x : Nat) (hx : x < 256) (hc : w.cell? ⟨b, 0, none⟩ = some (.int .u8 x)) :
    (convert 27 9 (.slice (some ⟨b, 0, none⟩) 1 1)).run Tryd.prog w = .ok (.string ⟨#[UInt8.ofNat x]⟩) w :=
  run_convert_bytes_back w 27 9 5 ⟨b, 0, none⟩ 1 [UInt8.ofNat x] Tryd.underlying27 Tryd.underlying5 Tryd.underlying9 (fun j hj => by
    obtain rfl : j = 0 := by simpa using hj
    simp [Addr.add, hc]; omega)
theorem addS (w : World) (a b c : ByteArray) (h : a ++ b = c) (hs : a.size + b.size ≤ 100) : (Op.stringOp .add a b).run Tryd.prog w = .ok (.string c) w := by
  rw [run_string_add_sum w a b (by omega), h]
def StrQ (s : ByteArray) (w : World) (e : Ending) (w' : World) : Prop := e = .returned (.string s) ∧ Below w.heap.size w w'
theorem cvB' (w : World) (b x : Nat) (c : ByteArray) (hx : x < 256) (e : (⟨#[UInt8.ofNat x]⟩ : ByteArray) = c) (y : Int) (hy : y = x) (hc : w.cell? ⟨b, 0, none⟩ = some (.int .u8 y)) :
    (convert 27 9 (.slice (some ⟨b, 0, none⟩) 1 1)).run Tryd.prog w = .ok (.string c) w := by
  subst hy; rw [← e]; exact cvB w b x hx hc
theorem cellOf {w w1 : World} {v : Value} {t : TypeId} (hb : Below (w.alloc (.cells #[v] t)).heap.size (w.alloc (.cells #[v] t)) w1) : w1.cell? ⟨w.heap.size, 0, none⟩ = some v := by
  have h := (Blk.new w t #[v]).below hb (Blk.new w t #[v]).lt
  rw [h.cell]; rfl
theorem cellOf' {w w1 : World} {v : Value} {t : TypeId} (hb : Below (w.alloc (.cells #[v] t)).drew.heap.size (w.alloc (.cells #[v] t)).drew w1) : w1.cell? ⟨w.heap.size, 0, none⟩ = some v := by
  have h := ((Blk.new w t #[v]).drew).below hb (Blk.new w t #[v]).lt
  rw [h.cell]; rfl
set_option maxRecDepth 100000 in
set_option maxHeartbeats 1000000 in
theorem l1Number_any (n : Nat) : n ≤ 9999 → ∀ w, Calls Tryd.prog 45 #[.int .i64 n] w (StrQ ⟨(Lib.decDigits n).toArray⟩ w) := by
  induction n using Nat.strongRecOn with | _ n ih => ?_
  intro hn w
  have hneg : decide ((n : Int) < 0) = false := by simp
  by_cases h : n < 10
  · have hlt : decide ((n : Int) < 10) = true := by simp; omega
    rw [dec_one n h]
    obtain ⟨c, hc⟩ : ∃ c, (⟨#[UInt8.ofNat (48 + n)]⟩ : ByteArray) = c := ⟨_, rfl⟩
    have C := fun w b => cvB' w b (48 + n) c (by omega) hc (48 + (n : Int)) (by omega)
    rw [hc]
    clear ih hc
    go_enter Tryd.func45, Tryd.ntmps45
    go_wp2
    go_ret
    exact ⟨rfl, (Below.refl _ _).alloc (Nat.le_refl _) _⟩
  · have hlt : decide ((n : Int) < 10) = false := by simp; omega
    have hi := ih (n / 10) (by omega) (by omega)
    have hN := dec_next n (by omega)
    have hz1 := dec_size (n / 10) (by omega)
    clear ih
    obtain ⟨c, hc⟩ : ∃ c, (⟨#[UInt8.ofNat (48 + n % 10)]⟩ : ByteArray) = c := ⟨_, rfl⟩
    have hcs : c.size = 1 := by rw [← hc]; rfl
    have C := fun w b => cvB' w b (48 + n % 10) c (by omega) hc (IntKind.u8.wrap (IntKind.i64.wrap (48 + (n : Int).tmod 10))) (by
      rw [Int.tmod_eq_emod_of_nonneg (by omega), IntWalk.i64_in _ (by omega)]
      show (48 + (n : Int) % 10) % 256 = _
      omega)
    have hq : IntKind.i64.wrap ((n : Int) / 10) = ((n / 10 : Nat) : Int) := by rw [IntWalk.i64_in _ (by omega)]; omega
    rw [← hq] at hi
    clear hq
    generalize (⟨(Lib.decDigits (n / 10)).toArray⟩ : ByteArray) = s1 at *
    generalize (⟨(Lib.decDigits n).toArray⟩ : ByteArray) = s2 at *
    rw [hc] at hN
    have A1 := fun w => addS w s1 _ s2 hN (by omega)
    clear hN hz1 hcs hc
    go_enter Tryd.func45, Tryd.ntmps45
    go_upto_region 7 with fail
    go_region_with (go_at_call 45; refine (hi _).mono ?_; rintro e w1 ⟨rfl, hb⟩; first | (have hc : w1.cell? ⟨w.heap.size, 0, none⟩ = some _ := cellOf hb) | (have hc : w1.cell? ⟨w.heap.size, 0, none⟩ = some _ := cellOf' hb) | skip)
    all_goals
      go_wp2_with fail
      go_ret
      exact ⟨rfl, by first | exact (bt (Below.refl _ _).drew hb).alloc hb.size _ | exact bt (((Below.refl _ _).alloc (Nat.le_refl _) _).drew) hb | exact bt ((Below.refl _ _).drew.alloc (Nat.le_refl _) _) hb⟩
theorem Prefix_any (z s : ByteArray) (r : Bool) (hs : s.size ≤ z.size) (he : ((z.extract 0 s.size).toList == s.toList) = r) (w : World) :
    Calls Tryd.prog 83 #[.string z, .string s] w fun e w' => e = .returned (.bool r) ∧ w = w' := by
  go_enter Tryd.func83, Tryd.ntmps83
  go_wp2
  go_ret
  exact ⟨rfl, rfl⟩
set_option maxRecDepth 100000 in
set_option maxHeartbeats 1000000 in
theorem Repeat_0 (w : World) : Calls Tryd.prog 47 #[.string ⟨#[48]⟩, .int .i64 0] w fun e w' => e = .returned (.string (zs 0)) ∧ w = w' := by
  go_enter Tryd.func47, Tryd.ntmps47
  go_wp2
  go_ret
  exact ⟨rfl, rfl⟩
set_option maxRecDepth 100000 in
set_option maxHeartbeats 1000000 in
theorem Repeat_1 (w : World) : Calls Tryd.prog 47 #[.string ⟨#[48]⟩, .int .i64 1] w fun e w' => e = .returned (.string (zs 1)) ∧ w = w' := by
  go_enter Tryd.func47, Tryd.ntmps47
  go_wp2
  go_ret
  exact ⟨rfl, rfl⟩
set_option maxRecDepth 100000 in
set_option maxHeartbeats 1000000 in
theorem Repeat_2 (w : World) : Calls Tryd.prog 47 #[.string ⟨#[48]⟩, .int .i64 2] w fun e w' => e = .returned (.string (zs 2)) ∧ w = w' := by
  have hm := fun w => Tryd.bits_Mul 1 2 (by omega) (by omega) w
  go_enter Tryd.func47, Tryd.ntmps47
  go_wp2_with (first | (go_at_call 82; refine (hm _).mono ?_; rintro e w' ⟨rfl, rfl⟩) | (go_at_call 83; first | (refine (Prefix_any _ _ false (by decide +kernel) (by decide +kernel) _).mono ?_; rintro e w' ⟨rfl, rfl⟩) | (refine (Prefix_any _ _ true (by decide +kernel) (by decide +kernel) _).mono ?_; rintro e w' ⟨rfl, rfl⟩)))
  go_ret
  exact ⟨rfl, rfl⟩
set_option maxRecDepth 100000 in
set_option maxHeartbeats 1000000 in
theorem Repeat_3 (w : World) : Calls Tryd.prog 47 #[.string ⟨#[48]⟩, .int .i64 3] w fun e w' => e = .returned (.string (zs 3)) ∧ w = w' := by
  have hm := fun w => Tryd.bits_Mul 1 3 (by omega) (by omega) w
  go_enter Tryd.func47, Tryd.ntmps47
  go_wp2_with (first | (go_at_call 82; refine (hm _).mono ?_; rintro e w' ⟨rfl, rfl⟩) | (go_at_call 83; first | (refine (Prefix_any _ _ false (by decide +kernel) (by decide +kernel) _).mono ?_; rintro e w' ⟨rfl, rfl⟩) | (refine (Prefix_any _ _ true (by decide +kernel) (by decide +kernel) _).mono ?_; rintro e w' ⟨rfl, rfl⟩)))
  go_ret
  exact ⟨rfl, rfl⟩
end Go.Proofs.YtoiaggjjfahabaaDoor
