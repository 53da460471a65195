/- l6ByFrom of the reference: what it computes. Condition: a short list. -/
import Derived.Test.YtoiaggjjfahabaaOQ
import Derived.Test.YtoiaggjjfahabaaSl
import Derived.Test.YtoiaggjjfahabaaPPlc
namespace Go.Proofs.Ytoiaggjjfahabaa
open Go.RowKit
set_option linter.unusedVariables false
/-- a list of ints of the call's own -/
def PI (w0 w : World) (v : Value) (n : Nat) (zs : List Int) : Prop :=
  Below w0.heap.size w0 w ∧ w.ownsRow w0.heap.size 3 1 v n (zs.map (Value.int .i64)) ∧ zs.length = n
theorem PI.alloc {w0 w : World} {v : Value} {n : Nat} {zs : List Int} (h : PI w0 w v n zs) (o : Obj) : PI w0 (w.alloc o) v n zs := ⟨h.1.alloc h.1.size o, h.2.1.alloc o, h.2.2⟩
theorem PI.new {w0 w : World} (h : Below w0.heap.size w0 w) : PI w0 (w.alloc (.cells #[] 3)) (.slice (some ⟨w.heap.size, 0, none⟩) 0 0) 0 [] :=
  ⟨h.alloc h.size _, o_new0 w w0.heap.size 3 1 h.size, rfl⟩
theorem PI.app {w0 w w1 : World} {v v' : Value} {n : Nat} {zs : List Int} {o : Obj} {x : Int} (h : PI w0 w v n zs) (ho : w1.ownsRow w0.heap.size 3 1 v' (n + 1) (zs.map (Value.int .i64) ++ [.int .i64 x])) (hg : (w.alloc o).grownBy w1 v.ownBlock) : PI w0 w1 v' (n + 1) (zs ++ [x]) := by
  have hsz := h.1.size
  refine ⟨(h.1.alloc hsz o).grown hg (by simp; omega) (fun q hq => (h.2.1.lt q hq).1), by rw [List.map_append]; simpa using ho, by simp [h.2.2]⟩
/-- numbers as ints -/
def nI (l : List Nat) : List Int := l.map Int.ofNat
theorem nI_app (l : List Nat) (k : Nat) : nI (l ++ [k]) = nI l ++ [(k : Int)] := by simp [nI]
theorem nI_at (l : List Nat) {k : Nat} (h : k < l.length) : (nI l).getD k 0 = ((l.getD k 0 : Nat) : Int) := by
  unfold nI
  rw [List.getD_eq_getElem?_getD, List.getElem?_map, List.getElem?_eq_getElem h, List.getD_eq_getElem?_getD, List.getElem?_eq_getElem h]; rfl
theorem nI_len (l : List Nat) : (nI l).length = l.length := by simp [nI]
set_option maxRecDepth 100000 in
set_option maxHeartbeats 2000000 in
theorem l6ByFrom_s (A : Option Addr) (n cap : Nat) (qs : List Quad) (w : World) (h : Books w A n qs) (hn : n ≤ 9) :
    Calls Try.prog 26 #[.slice A n cap] w fun e w' => ∃ v m, e = .returned v ∧ PI w w' v m (nI (ordF qs)) := by
  obtain ⟨i0, hi, ia, ib, ic⟩ := info_parts infoInt
  have hlen := h.1
  have HLN := Lib.hid hlen
  clear hlen
  have T : PI w (w.alloc (.cells #[] 3)) (.slice (some ⟨w.heap.size, 0, none⟩) 0 0) 0 [] := PI.new (Below.refl _ _)
  go_enter Try.func26, Try.ntmps26
  go_wp2
  go_loopw [3, 4] (fun v i wr => ∃ (t m : Nat), i = .int .i64 t ∧ t ≤ 31 ∧ m ≤ 9 * t ∧ PI w wr v m (nI (ofH qs t))) (fun _ i _ => 31 - (intOf i).toNat)
  case atStart => exact ⟨0, 0, rfl, by omega, by omega, T⟩
  case round =>
    clear T
    obtain ⟨t, m, rfl, ht, hm, T⟩ := hrel
    by_cases hlt : t ≤ 30
    · have b30 : decide ((t : Int) ≤ 30) = true := by simp; omega
      go_wp2
      go_loopw [3, 5] (fun v i wr => ∃ (k m : Nat), i = .int .i64 k ∧ k ≤ n ∧ m ≤ 9 * t + k ∧ PI w wr v m (nI (ofH qs t ++ ofK qs t k))) (fun _ i _ => n - (intOf i).toNat)
      case atStart => exact ⟨0, m, rfl, by omega, by omega, by unfold ofK; rw [List.append_nil]; exact T⟩
      case round =>
        clear T hm
        obtain ⟨k, m, rfl, hk, hm, T⟩ := hrel
        by_cases hlk : k < n
        · obtain ⟨nb, no, rfl, hnl, hnc⟩ := h.2 (by omega)
          obtain ⟨r0, r1, r2, r3⟩ := hnc k hlk
          have c1 := (T.1.cell (p := ⟨nb, no + k * 4 + 1, none⟩) hnl).trans r1
          have hs := show ofK qs t (k + 1) = if (qs.getD k q0).b = (t : Int) then ofK qs t k ++ [k] else ofK qs t k from rfl
          obtain ⟨b, hb⟩ : ∃ b, (qs.getD k q0).b = b := ⟨_, rfl⟩
          rw [hb] at c1 hs
          have HS := Lib.hid hs
          have hsz := T.1.size
          have i1 : (0 : Int) ≤ (k : Int) := by omega
          have i2 : (k : Int) < (n : Int) := by omega
          clear hnc r0 r1 r2 r3 hs hb
          by_cases hb : b = (t : Int)
          · have hbb : (b == (t : Int)) = true := by simpa using hb
            have e : Hid (ofK qs t (k + 1) = ofK qs t k ++ [k]) := by show _ = _; rw [HS.out, if_pos hb]
            clear hb HS
            go_wp2_with (at_builtin; refine wpList_append_own _ rfl _ _ 24 rfl w.heap.size 3 i0 (.int .i64 0) 1 8 Try.underlying24 hi ia ib ic rfl (by decide) _ _ _ rfl (T.2.1.alloc _) ⟨wr.heap.size, 0, none⟩ 1 1 [.int .i64 (k : Int)] rfl rfl (o_one wr _ _) ?c2 ?c3 ?c4 ?c5 ?_)
            case c2 => simp [Value.oneCell']
            case c3 => unfold maxLen; omega
            case c4 => omega
            case c5 => first | omega | (simp; omega)
            intro v' w1 hown1 hgrow _
            have T' := T.app hown1 hgrow
            clear hown1 hgrow T
            go_wp2
            go_roundw
            case rel => exact ⟨k + 1, m + 1, by go_num, hlk, by omega, by rw [e.out, ← List.append_assoc, nI_app]; exact T'⟩
            case measure => simp [intOf]; omega
          · have hbb : (b == (t : Int)) = false := by simpa using hb
            have e : Hid (ofK qs t (k + 1) = ofK qs t k) := by show _ = _; rw [HS.out, if_neg hb]
            clear hb HS
            go_wp2
            go_roundw
            case rel => exact ⟨k + 1, m, by go_num, hlk, by omega, by rw [e.out]; exact T⟩
            case measure => simp [intOf]; omega
        · obtain rfl : k = n := by omega
          go_wp2
          go_roundw
          case rel => exact ⟨t + 1, m, by go_num, by omega, by omega, by unfold ofH; rw [HLN.out]; exact T⟩
          case measure => simp [intOf]; omega
    · obtain rfl : t = 31 := by omega
      go_wp2
      go_ret
      exact ⟨_, m, rfl, T⟩
end Go.Proofs.Ytoiaggjjfahabaa
