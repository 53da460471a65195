/- The draw and the walk of laws.FnReadTicket. Condition: the table of powers of ten holds what the program's text lays in it. -/
import Derived.Test.YtoiaggjjfahabaaDoorLTk
namespace Go.Proofs.YtoiaggjjfahabaaDoor
open Go.RowKit
set_option linter.unusedVariables false
def five : Array Value := #[.string ⟨#[]⟩, .string ⟨#[48]⟩, .string ⟨#[55]⟩, .string ⟨#[65]⟩, .string ⟨#[97]⟩]
theorem five_any (x : Int) (h0 : 0 ≤ x) (h1 : x < 5) : ∃ u : ByteArray, u.size ≤ 1 ∧ #[Value.string ⟨#[]⟩, Value.string ⟨#[48]⟩, Value.string ⟨#[55]⟩, Value.string ⟨#[65]⟩, Value.string ⟨#[97]⟩][x.toNat]? = some (.string u) ∧ ∀ hx, ([Value.string ⟨#[]⟩, Value.string ⟨#[48]⟩, Value.string ⟨#[55]⟩, Value.string ⟨#[65]⟩, Value.string ⟨#[97]⟩] : List Value)[x.toNat]'hx = .string u := by
  rcases (show x = 0 ∨ x = 1 ∨ x = 2 ∨ x = 3 ∨ x = 4 by omega) with rfl | rfl | rfl | rfl | rfl
  · exact ⟨_, by decide, rfl, fun _ => rfl⟩
  · exact ⟨_, by decide, rfl, fun _ => rfl⟩
  · exact ⟨_, by decide, rfl, fun _ => rfl⟩
  · exact ⟨_, by decide, rfl, fun _ => rfl⟩
  · exact ⟨_, by decide, rfl, fun _ => rfl⟩
set_option maxRecDepth 100000 in
set_option maxHeartbeats 2000000 in
theorem drawReadTicket_ok (A : Option Addr) (n cap : Nat) (zs : List Int) (w : World) (h : Nums .u8 w A n cap zs) (hn : n ≤ 1048576) :
    Calls Tryd.prog 37 #[.slice A n cap] w fun e w' => ∃ s, e = .returned (.string s) ∧ Below w.heap.size w w' := by
  go_enter Tryd.func37, Tryd.ntmps37
  go_upto_region 2 with (go_at_call 48; ((with_reducible refine (opN A n cap zs _ h hn).mono ?_); rintro e w1 ⟨rfl, hr, hb, hlt⟩; clear h))
  have H1 := Lib.hid hr
  have B1 := Lib.hid hb
  clear hr hb
  go_upto_region 3 with (first
    | (go_at_call 50; ((with_reducible refine (pk w.heap.size _ _ _ H1.out ?_ ?_ ?_).mono ?_); (omega); (omega); (omega); rintro e w2 ⟨x1, rfl, y1, z1, hr, s1⟩; have H2 := Lib.hid hr; have B2 := Lib.hid (B1.out.trans s1.1); clear hr s1 H1 B1))
    | (go_at_call 50; ((with_reducible refine (pk w.heap.size _ _ _ H2.out ?_ ?_ ?_).mono ?_); (omega); (omega); (omega); rintro e w3 ⟨x2, rfl, y2, z2, hr, s1⟩; have H3 := Lib.hid hr; have B3 := Lib.hid (B2.out.trans s1.1); clear hr s1 H2 B2))
    | (go_at_call 11; refine (TicketText_s _ _).mono ?_; rintro e w4 ⟨rfl, hb⟩; obtain ⟨t, ht, ts⟩ : ∃ t, tk (x1 * 39 + x2) = t ∧ t.size = 5 := ⟨_, rfl, by unfold tk; rw [if_pos (by omega)]; exact tkB_size _⟩; rw [ht]; clear ht; have H4 := Lib.hid (H3.out.below hb); have B4 := Lib.hid (bt B3.out hb); clear hb H3 B3))
  go_upto_if 17 with (go_at_call 50; ((with_reducible refine (pk w.heap.size _ _ _ H4.out ?_ ?_ ?_).mono ?_); (omega); (omega); (omega); rintro e w5 ⟨x3, rfl, y3, z3, hr, s1⟩; have H5 := Lib.hid hr; have B5 := Lib.hid (B4.out.trans s1.1); clear hr s1 H4 B4))
  by_cases hx : x3 = 0
  · subst hx
    go_upto_region 5 with (go_at_call 50; ((refine (pk w.heap.size _ _ _ H5.out ?_ ?_ ?_).mono ?_); (omega); (omega); (omega); rintro e w6 ⟨x4, rfl, y4, z4, hr, s1⟩; have H6 := Lib.hid hr; have B6 := Lib.hid (B5.out.trans s1.1); clear hr s1 H5 B5))
    obtain ⟨k, rfl⟩ : ∃ k : Nat, x4 = k := ⟨x4.toNat, by omega⟩
    have hk : k < 5 := by omega
    have P1 := slH t k (by omega) _ rfl
    have P3 := slL t _ (k + 1) (wr1 k (by omega)) (by omega) _ rfl
    have z1 : (t.extract 0 k).size ≤ 5 := by rw [size_ext t 0 k (by omega)]; omega
    have z2 : (t.extract (k + 1) t.size).size ≤ 5 := by rw [size_ext t (k + 1) t.size (Nat.le_refl _)]; omega
    have Q1 : ∀ u : ByteArray, u.size ≤ 1 → ∀ w, (Op.stringOp .add (t.extract 0 k) u).run Tryd.prog w = .ok (.string (t.extract 0 k ++ u)) w := fun u hu w => addS w _ _ _ rfl (by omega)
    have Q2 : ∀ u : ByteArray, u.size ≤ 1 → ∀ w, (Op.stringOp .add (t.extract 0 k ++ u) (t.extract (k + 1) t.size)).run Tryd.prog w = .ok (.string (t.extract 0 k ++ u ++ t.extract (k + 1) t.size)) w := fun u hu w => addS w _ _ _ rfl (by rw [size_app]; omega)
    generalize t.extract 0 k = a1 at *
    generalize t.extract (k + 1) t.size = a2 at *
    clear z1 z2 y4 z4 hk ts
    have hl6 := H6.out.lt
    generalize w6 = W at *
    go_region_with (go_at_call 50; ((refine (pk w.heap.size _ _ _ (by first | exact H6.out | exact H6.out.drew | exact H6.out.alloc _ | exact (H6.out.alloc _).drew | exact H6.out.drew.alloc _) ?_ ?_ ?_).mono ?_); (omega); (omega); (omega); rintro e w7 ⟨x5, rfl, y5, z5, hr, s1⟩; have B7 : Below w.heap.size w w7 := (by first | exact B6.out.trans s1.1 | exact (B6.out.drew).trans s1.1 | exact ((B6.out.alloc B6.out.size _).drew).trans s1.1 | exact (B6.out.alloc B6.out.size _).trans s1.1 | exact (B6.out.drew.alloc B6.out.size _).trans s1.1); have z6 : x5 < 5 := (by omega); obtain ⟨u, hu, cu, cl⟩ := five_any x5 y5 z6; first | (have cc : w7.cell? ⟨W.heap.size, x5.toNat, none⟩ = some (.string u) := (by first | exact ((s1.blk (Blk.new W 9 five) (by omega)).cell _).trans cu | exact ((s1.blk (Blk.new W 9 five).drew (by omega)).cell _).trans cu)) | skip; clear s1 hr z5))
    all_goals
      go_wp2_with fail
      go_ret
      exact ⟨_, rfl, by first | exact B7 | exact B7.alloc B7.size _⟩
  · have hq : (x3 == 0) = false := by rw [beq_eq_false_iff_ne]; exact hx
    go_wp2
    go_ret
    exact ⟨t, rfl, B5.out⟩
set_option maxRecDepth 100000 in
set_option maxHeartbeats 2000000 in
theorem FnReadTicket_walk (w : World) (A : Option Addr) (n cap : Nat) (zs : List Int) (h : Nums .u8 w A n cap zs) (hT : TabT w) :
    Calls Tryd.prog 9 #[.slice A n cap] w fun e w' => e = .returned (.bool true) ∧ Below w.heap.size w w' := by
  go_enter Tryd.func9, Tryd.ntmps9
  by_cases hn : 1048576 < n
  · have hnb : decide (1048576 < n) = true := by simpa using hn
    clear h
    go_wp2
    go_ret
    exact ⟨rfl, by (repeat (first | exact Below.refl _ _ | assumption | refine Below.alloc ?_ (by first | omega | (simp; done) | (simp; omega)) _ | refine Below.drew ?_ | refine bdN ?_ _ | refine Below.setCell ?_ (by first | omega | (simp; done) | (simp; omega)) _))⟩
  · have hnb : decide (1048576 < n) = false := by simpa using hn
    go_upto_region 4 with (go_at_call 37; refine (drawReadTicket_ok A n cap zs _ h (by omega)).mono ?_; rintro E w1 ⟨s, rfl, hw⟩; clear h)
    have HT : ∀ w', Below w.heap.size w w' → TabT w' := fun w' hb => hT.below hb
    clear hn hnb hT
    have S := ReadTicket_s s
    have I := ReadTicket_i s
    unfold RdQ at S I
    cases hr : rdB s
    · have h2 := rd_no' hr
      rw [hr, h2] at S I
      go_wp2_with (first
        | (go_at_call 14; refine (I _ (HT _ hw)).mono ?_; rintro E w2 ⟨rfl, hb⟩; replace hw := bt hw hb; clear hb I)
        | (go_at_call 13; refine (S _).mono ?_; rintro E w2 ⟨rfl, hb⟩; replace hw := bt hw hb; clear hb S)
        | (go_at_call 19; refine (alive_ok _).mono ?_; rintro E w2 ⟨rfl, hb⟩; replace hw := bt hw hb; clear hb))
      go_ret
      exact ⟨rfl, hw⟩
    · obtain ⟨m, hm, rfl⟩ := isT_of hr
      rw [hr, (rd_yes m hm).2] at S I
      have TT := TicketText_i m
      rw [show tk m = tkB m by unfold tk; rw [if_pos (by omega)]; rfl] at TT
      clear hr
      generalize tkB m = t at *
      go_wp2_with (first
        | (go_at_call 14; refine (I _ (HT _ hw)).mono ?_; rintro E w2 ⟨rfl, hb⟩; replace hw := bt hw hb; clear hb I)
        | (go_at_call 13; refine (S _).mono ?_; rintro E w2 ⟨rfl, hb⟩; replace hw := bt hw hb; clear hb S)
        | (go_at_call 12; refine (TT _ (HT _ hw)).mono ?_; rintro E w2 ⟨rfl, hb⟩; replace hw := bt hw hb; clear hb TT))
      go_ret
      exact ⟨rfl, hw⟩
end Go.Proofs.YtoiaggjjfahabaaDoor
