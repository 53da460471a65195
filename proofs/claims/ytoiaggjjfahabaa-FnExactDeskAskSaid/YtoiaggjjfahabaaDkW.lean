/- withBook: what it computes. Condition: short lists. -/
import Derived.Test.YtoiaggjjfahabaaWBk
namespace Go.Proofs.Ytoiaggjjfahabaa
open Go.RowKit
set_option linter.unusedVariables false
/-- a list of bookings that the call has made, or none -/
def MQ0 (w : World) (n : Nat) (qs : List Quad) (e : Ending) (w' : World) : Prop :=
  ∃ v, e = .returned v ∧ w'.ownsRow w.heap.size 46 4 v n (qs.flatMap Quad.cells) ∧ Below w.heap.size w w'
set_option maxRecDepth 100000 in
set_option maxHeartbeats 1000000 in
theorem Clone_e (p : Addr) (cap : Nat) (w : World) :
    Calls Try.prog 55 #[.slice (some p) 0 cap] w (MQ0 w 0 []) := by
  obtain ⟨i0, hi, ia, ib, ic⟩ := info_parts infoBk2
  have hnl := fun (w : World) (n c : Nat) => Lib.run_eql_slice_nil (P := Try.prog) w 26 46 (some p) n c 0 0 Try.underlying26
  go_enter Try.func55, Try.ntmps55
  go_wp2_with (at_builtin; refine wpList_append_own _ rfl _ _ 26 rfl w.heap.size 46 i0 (.agg #[.int .i64 0, .int .i64 0, .int .i64 0, .int .i64 0]) 4 32 Try.underlying26 hi ia ib ic rfl (by decide) _ _ _ rfl (o_new0 w w.heap.size 46 4 (Nat.le_refl _)) p 0 cap [] rfl ?c0 ?c1 ?c2 ?c3 ?c4 ?c5 ?_)
  case c0 => rfl
  case c1 => intro j u hj; simp at hj
  case c2 => intro u hu; cases hu
  case c3 => unfold maxLen; omega
  case c4 => omega
  case c5 => simp
  intro v' w1 hown1 hgrow hnil
  have hown2 : w1.ownsRow w.heap.size 46 4 v' 0 [] := by simpa using hown1
  have hb1 : Below w.heap.size w w1 := ((Below.refl w.heap.size w).alloc (Nat.le_refl _) (.cells #[] 46)).grown hgrow (by simp) (fun q hq => by simp [Value.ownBlock] at hq; omega)
  clear hown1 hgrow hnil
  go_wp2
  go_ret
  exact ⟨v', rfl, hown2, hb1⟩
set_option maxRecDepth 100000 in
set_option maxHeartbeats 1000000 in
theorem Clone_all (A : Option Addr) (n cap : Nat) (qs : List Quad) (w : World) (h : Books w A n qs) (hn : n ≤ 1048576) :
    Calls Try.prog 55 #[.slice A n cap] w (MQ0 w n qs) := by
  cases A with
  | some p =>
    rcases Nat.eq_zero_or_pos n with rfl | hp
    · obtain rfl : qs = [] := List.length_eq_zero_iff.1 h.1
      exact Clone_e p cap w
    · obtain ⟨b, off, e, _⟩ := h.2 hp
      obtain rfl := Option.some.inj e
      exact (Clone_any b off n cap qs w h hn).mono fun e w' ⟨g, c, he, ho, hl, hb⟩ => ⟨_, he, ho, hb⟩
  | none =>
    obtain rfl : n = 0 := by
      rcases Nat.eq_zero_or_pos n with z | z
      · exact z
      · obtain ⟨_, _, e, _⟩ := h.2 z; cases e
    obtain rfl : qs = [] := List.length_eq_zero_iff.1 h.1
    clear h
    have hnl := Lib.run_eql_slice_nil (P := Try.prog) w 26 46 none 0 cap 0 0 Try.underlying26
    go_enter Try.func55, Try.ntmps55
    go_wp2
    go_ret
    exact ⟨_, rfl, ⟨by simp, .inl ⟨rfl, rfl⟩⟩, Below.refl _ _⟩
theorem kpA {W w' : World} {o : Obj} (h : Below W.heap.size W w' ∧ ∀ (k i : Nat), k < W.heap.size → w'.cell? ⟨k, i, none⟩ = W.cell? ⟨k, i, none⟩) :
    Below W.heap.size W (w'.alloc o) ∧ ∀ (k i : Nat), k < W.heap.size → (w'.alloc o).cell? ⟨k, i, none⟩ = W.cell? ⟨k, i, none⟩ := by
  have hb := h.1.alloc h.1.size o
  exact ⟨hb, fun k i hk => hb.cell (p := ⟨k, i, none⟩) hk⟩
theorem kpB {W w' : World} (hb : Below W.heap.size W w') : Below W.heap.size W w' ∧ ∀ (k i : Nat), k < W.heap.size → w'.cell? ⟨k, i, none⟩ = W.cell? ⟨k, i, none⟩ := ⟨hb, fun k i hk => hb.cell (p := ⟨k, i, none⟩) hk⟩
theorem cellsQn (w : World) (t : TypeId) (a b c d : Int) : ∀ j u, [Value.int .i64 a, .int .i64 b, .int .i64 c, .int .i64 d][j]? = some u → (w.alloc (.cells #[.int .i64 a, .int .i64 b, .int .i64 c, .int .i64 d] t)).cell? ((⟨w.heap.size, 0, none⟩ : Addr).add j) = some u := by
  intro j u hj
  have h := (Blk.new w t #[.int .i64 a, .int .i64 b, .int .i64 c, .int .i64 d]).cell j
  rw [add_none, Nat.zero_add, h]
  simpa using hj
theorem cellsQm {w w' : World} {t : TypeId} {a b c d : Int} (hb : Below (w.alloc (.cells #[.int .i64 a, .int .i64 b, .int .i64 c, .int .i64 d] t)).drew.heap.size (w.alloc (.cells #[.int .i64 a, .int .i64 b, .int .i64 c, .int .i64 d] t)).drew w') : ∀ j u, [Value.int .i64 a, .int .i64 b, .int .i64 c, .int .i64 d][j]? = some u → w'.cell? ((⟨w.heap.size, 0, none⟩ : Addr).add j) = some u := by
  intro j u hj
  have h := ((Blk.new w t #[.int .i64 a, .int .i64 b, .int .i64 c, .int .i64 d]).drew.below hb (Blk.new w t #[.int .i64 a, .int .i64 b, .int .i64 c, .int .i64 d]).lt).cell j
  rw [add_none, Nat.zero_add, h]
  simpa using hj
theorem oneQ (a b c d : Int) : ∀ u ∈ [Value.int .i64 a, .int .i64 b, .int .i64 c, .int .i64 d], u.oneCell' = true := by
  intro u hu
  simp at hu
  rcases hu with rfl | rfl | rfl | rfl <;> rfl
set_option maxRecDepth 100000 in
set_option maxHeartbeats 1000000 in
theorem withBook_j (A : Option Addr) (n cap : Nat) (qs : List Quad) (a b c d : Int) (w : World) (h : Books w A n qs) (hn : n ≤ 7) :
    Calls Try.prog 46 #[.slice A n cap, .agg #[.int .i64 a, .int .i64 b, .int .i64 c, .int .i64 d]] w fun e w' => ∃ g cc ys, e = .returned (.slice (some ⟨g, 0, none⟩) (n + 1) cc) ∧ n + 1 ≤ cc ∧ Rq w' g (n + 1) ys ∧ ys.Perm (qs ++ [⟨a, b, c, d⟩]) ∧ (∀ i j, i < j → j < n + 1 → (ys.getD i q0).a ≤ (ys.getD j q0).a) ∧ w.heap.size ≤ g ∧ Below w.heap.size w w' := by
  obtain ⟨i0, hi, ia, ib, ic⟩ := info_parts infoBk2
  have hlen := h.1
  have hbW : Below w.heap.size w (w.alloc (.cells #[.int .i64 a, .int .i64 b, .int .i64 c, .int .i64 d] 46)) := (Below.refl _ _).alloc (Nat.le_refl _) _
  have hBx := Blk.new w 46 #[.int .i64 a, .int .i64 b, .int .i64 c, .int .i64 d]
  have HC := Lib.hid (fun w' (hb : Below w.heap.size w w') => Clone_all A n cap qs w' (h.below hb) (by omega))
  have HL := Lib.hid hlen
  clear h hlen
  go_enter Try.func46, Try.ntmps46
  go_upto_region 1 with fail
  generalize (w.alloc (.cells #[.int .i64 a, .int .i64 b, .int .i64 c, .int .i64 d] 46)) = W at *
  have k0 := hBx.cell 0
  have k1 := hBx.cell 1
  have k2 := hBx.cell 2
  have k3 := hBx.cell 3
  simp at k0 k1 k2 k3
  have hlW := hBx.lt
  have HW := Lib.hid hbW
  clear hBx hbW
  go_region_held3 (fun w' => Below (W.heap.size) (W) w' ∧ ∀ k o, k < W.heap.size → w'.cell? ⟨k, o, none⟩ = World.cell? (W) ⟨k, o, none⟩) (first | (first | assumption | exact kp_start | (refine kp_step ?_ hb ?_; assumption; (first | omega | (simp; done) | (simp; omega))) | (refine kp_drew ?_; assumption) | (refine kp_drew (kp_of hb ?_); (first | omega | (simp; done) | (simp; omega)))) | (refine kpA ?_; first | assumption | exact kp_start) | (refine kp_drew (kpA ?_); first | assumption | exact kp_start) | (refine kpB ?_; assumption) | exact kp_drew (kpA ⟨Below.refl _ _, fun _ _ _ => rfl⟩) | exact kpA ⟨Below.refl _ _, fun _ _ _ => rfl⟩) (first
    | (go_at_call 55; refine (HC.out _ (bt HW.out (by (refine kp_end (by assumption) ?_ (by first | omega | (simp; done) | (simp; omega)); (repeat (first | exact Below.refl _ _ | assumption | refine Below.alloc ?_ (by first | omega | (simp; done) | (simp; omega)) _ | refine Below.drew ?_ | refine bdN ?_ _ | refine Below.setCell ?_ (by first | omega | (simp; done) | (simp; omega)) _)))))).mono ?_; rintro e w' ⟨v, rfl, ho, hb⟩)
    | (refine step_append_fresh (by rfl) (.tmp 7) (.tmp 9) 26 rfl W.drew.heap.size 46 i0 (.agg #[.int .i64 0, .int .i64 0, .int .i64 0, .int .i64 0]) 4 32 Try.underlying26 hi ia ib ic rfl (by decide) v n (qs.flatMap Quad.cells) (by rfl) (ho.alloc _) ⟨w'.heap.size, 0, none⟩ 1 1 [.int .i64 a, .int .i64 b, .int .i64 c, .int .i64 d] (by rfl) ?_ ?_ ?_ ?_ ?_ ?_ ?_; (rfl); (exact cellsQn w' _ a b c d); (exact oneQ a b c d); (unfold maxLen; omega); (omega); (exact Nat.le_trans hb.size (by simp)); (intro v1 w2 hown hgrow _; have hB1 : Below W.heap.size W w2 := (((Below.refl W.heap.size W).drew.trans hb).alloc hb.size _).grown hgrow (Nat.le_trans hb.size (by simp)) (fun q hq => (ho.lt q hq).1)))
    | (refine step_append_fresh (by rfl) (.tmp 7) (.tmp 9) 26 rfl _ 46 i0 (.agg #[.int .i64 0, .int .i64 0, .int .i64 0, .int .i64 0]) 4 32 Try.underlying26 hi ia ib ic rfl (by decide) v n (qs.flatMap Quad.cells) (by rfl) ho ⟨W.heap.size, 0, none⟩ 1 1 [.int .i64 a, .int .i64 b, .int .i64 c, .int .i64 d] (by rfl) ?_ ?_ ?_ ?_ ?_ ?_ ?_; (rfl); (exact cellsQm hb); (exact oneQ a b c d); (unfold maxLen; omega); (omega); (exact hb.size); (intro v1 w2 hown hgrow _; have hB1 : Below W.heap.size W w2 := (((Below.refl W.heap.size W).alloc (Nat.le_refl _) _).drew.trans (hb.mono (by simp))).grown hgrow (Nat.le_trans (by simp) hb.size) (fun q hq => Nat.le_trans (by simp) (ho.lt q hq).1))))
  all_goals
    rcases hown.2 with ⟨_, h00⟩ | ⟨g, cc, cur, rfl, hbg, hgc, hcc, hm, _⟩
    · exact absurd h00 (by omega)
    have hR := Rq.of_own (qs := qs ++ [⟨a, b, c, d⟩]) (by rw [List.flatMap_append]; exact hown) (by simp [HL.out])
    have hgW : W.heap.size ≤ g := Nat.le_trans (by simp) hbg
    have SQ := sortQ_any g (n + 1) cc _ w2 hR.1 (by omega)
    clear hown hgrow hgc hR hbg
    go_wp2_with (go_at_call 56; refine SQ.mono ?_; rintro e w3 ⟨rfl, ys, hY, hp, hs, hch⟩)
    go_ret
    exact ⟨g, cc, ys, rfl, hcc, hY, hp, hs, Nat.le_trans HW.out.size hgW, bt HW.out (hB1.trans (hch.below hgW hB1.size))⟩
theorem withBook_i (A : Option Addr) (n cap : Nat) (qs : List Quad) (a b c d : Int) (w : World) (h : Books w A n qs) (hn : n ≤ 7) :
    Calls Try.prog 46 #[.slice A n cap, .agg #[.int .i64 a, .int .i64 b, .int .i64 c, .int .i64 d]] w fun e w' => ∃ g cc ys, e = .returned (.slice (some ⟨g, 0, none⟩) (n + 1) cc) ∧ n + 1 ≤ cc ∧ Rq w' g (n + 1) ys ∧ ys.Perm (qs ++ [⟨a, b, c, d⟩]) ∧ Below w.heap.size w w' :=
  (withBook_j A n cap qs a b c d w h hn).mono fun _ _ ⟨g, cc, ys, h1, h2, h3, h4, _, _, h7⟩ => ⟨g, cc, ys, h1, h2, h3, h4, h7⟩
end Go.Proofs.Ytoiaggjjfahabaa
