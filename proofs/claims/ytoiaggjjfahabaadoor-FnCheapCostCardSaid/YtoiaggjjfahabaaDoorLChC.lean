/- The walk of laws.FnCheapCost. No condition. -/
import Derived.Test.YtoiaggjjfahabaaDoorChg20
import Derived.Test.YtoiaggjjfahabaaDoorChg13
import Derived.Test.YtoiaggjjfahabaaDoorLPV0
import Derived.Test.YtoiaggjjfahabaaDoorAliveL
import Derived.Deep.RegionLaw
namespace Go.Proofs.YtoiaggjjfahabaaDoor
open Go.RowKit
set_option linter.unusedVariables false
/-- CheapCost -/
def ccV (qs : List Quad) (cs ps : List Int) : Int := lcoV (clO qs cs ps) ps
theorem fv_nil : fvV [] = false := by unfold fvV; rw [decide_eq_false_iff_not]; simp
theorem lco_nil (ps : List Int) : lcoV [] ps = -1 := by unfold lcoV; rw [if_neg (by rw [fv_nil]; simp)]
theorem cl_bd {qs : List Quad} {cs ps : List Int} (h1 : nsV qs = true) (h2 : fvV cs = true) (j : Nat) : 0 ≤ (clL (usL qs) (rssL qs) cs ps).getD j 0 ∧ (clL (usL qs) (rssL qs) cs ps).getD j 0 ≤ cs.getD j 0 := by
  rw [clL_eq]
  exact (ld_le (us := usL qs) (rss := rssL qs) (ordL_ord ps) (nn_us h1) (nn_rs h1) (nn_cs h2) 0 6 (Nat.le_refl _)).2 j
theorem cl_fv {qs : List Quad} {cs : List Int} (ps : List Int) (h1 : nsV qs = true) (h2 : fvV cs = true) : fvV (clL (usL qs) (rssL qs) cs ps) = true := by
  unfold fvV
  rw [decide_eq_true_iff]
  refine ⟨clL_len _ _ _ _, fun k _ => ?_⟩
  have := cl_bd (ps := ps) h1 h2 k
  have := (fv_at h2).2 k
  omega
theorem cc_case (qs : List Quad) (cs ps : List Int) : ccV qs cs ps = -1 ∨ nsV qs = true ∧ fvV cs = true ∧ fvV ps = true ∧ ccV qs cs ps = costTo (clL (usL qs) (rssL qs) cs ps) ps 6 ∧ 0 ≤ ccV qs cs ps := by
  by_cases hv : nsV qs = true ∧ fvV cs = true ∧ fvV ps = true
  · right
    obtain ⟨v1, v2, v3⟩ := hv
    have e : ccV qs cs ps = costTo (clL (usL qs) (rssL qs) cs ps) ps 6 := by
      unfold ccV; rw [clO_yes v1 v2 v3]; unfold lcoV; rw [if_pos ⟨cl_fv ps v1 v2, v3⟩]
    exact ⟨v1, v2, v3, e, by rw [e]; exact (cost_bd (fv_at (cl_fv ps v1 v2)).2 (fv_at v3).2 6).1⟩
  · left; unfold ccV; rw [clO_no hv, lco_nil]
theorem cc_bd (qs : List Quad) (cs ps : List Int) : -1 ≤ ccV qs cs ps ∧ ccV qs cs ps ≤ 5400 := by
  rcases cc_case qs cs ps with h | ⟨v1, v2, v3, e, _⟩
  · omega
  · have := cost_bd (fv_at (cl_fv ps v1 v2)).2 (fv_at v3).2 6
    omega
/-- a plan of the most units costs as much at least -/
theorem plan_cost {qs : List Quad} {cs ps : List Int} {p : List (List Int)} (h1 : nsV qs = true) (h2 : fvV cs = true) (h3 : fvV ps = true) (P : Plan (usL qs) (rssL qs) cs p) (hall : allL p qs.length = muV qs cs) : ccV qs cs ps ≤ lcoV (loadsL p qs.length) ps := by
  have hc := P.cost_le (ps := ps) (nn_us h1) (nn_rs h1) (nn_cs h2) (nn_cs h3) (fv_at h2).1 (by rw [us_len, hall, (muV_nn h1 h2).1])
  rw [us_len] at hc
  have hf : fvV (loadsL p qs.length) = true := by
    unfold fvV
    rw [decide_eq_true_iff]
    have hl : (loadsL p qs.length).length = 6 := by simp [loadsL]
    refine ⟨hl, fun k hk => ?_⟩
    have e : (loadsL p qs.length).getD k 0 = loadL p k qs.length := by
      unfold loadsL
      rw [List.getD_eq_getElem?_getD, List.getElem?_map, List.getElem?_range (by omega)]; rfl
    rw [e]
    have a := P.load k (by omega)
    rw [us_len] at a
    have b := (fv_at h2).2 k
    have c : ∀ n, n ≤ qs.length → 0 ≤ loadL p k n := by
      intro n
      induction n with
      | zero => intro _; simp [loadL]
      | succ n ih =>
        intro hn
        have := ih (by omega)
        have r := P.row n (by rw [us_len]; omega) k
        have e : loadL p k (n + 1) = loadL p k n + (p.getD n []).getD k 0 := rfl
        omega
    have := c qs.length (Nat.le_refl _)
    omega
  rcases cc_case qs cs ps with h | ⟨_, _, _, e, _⟩
  · have : 0 ≤ lcoV (loadsL p qs.length) ps := by unfold lcoV; rw [if_pos ⟨hf, h3⟩]; exact (cost_bd (fv_at hf).2 (fv_at h3).2 6).1
    omega
  · rw [e]; unfold lcoV; rw [if_pos ⟨hf, h3⟩]; exact hc
set_option maxHeartbeats 1000000 in
theorem CheapCost_i (A C Q : Option Addr) (n c1 m c2 k c3 : Nat) (qs : List Quad) (cs ps : List Int) (w : World) (h : Books w A n qs) (hC : Ints w C m cs) (hQ : Ints w Q k ps) (hn : n ≤ 1048576) (hm : m ≤ 1048576) (hk : k ≤ 1048576) :
    Calls Tryd.prog 28 #[.slice A n c1, .slice C m c2, .slice Q k c3] w fun e w' => e = .returned (.int .i64 (ccV qs cs ps)) ∧ Below w.heap.size w w' := by
  have C0 := CheapLoads_i A C Q n c1 m c2 k c3 qs cs ps w h hC hQ hn hm hk
  have hcc : Hid (ccV qs cs ps = lcoV (clO qs cs ps) ps) := rfl
  have hlen : clO qs cs ps = [] ∨ (clO qs cs ps).length = 6 := by
    by_cases hv : nsV qs = true ∧ fvV cs = true ∧ fvV ps = true
    · right; rw [clO_yes hv.1 hv.2.1 hv.2.2]; exact clL_len _ _ _ _
    · left; exact clO_no hv
  obtain ⟨xs, hx⟩ : ∃ xs, clO qs cs ps = xs := ⟨_, rfl⟩
  rw [hx] at C0 hcc hlen
  have hnl := fun (w : World) (A : Option Addr) (n c : Nat) => Lib.run_eql_slice_nil (P := Tryd.prog) w 28 3 A n c 0 0 Tryd.underlying28
  have L0 := fun A c w h h' => LoadCost_i A Q 6 c k c3 xs ps w h h' (by omega) hk
  clear hx
  rcases hlen with rfl | hl
  · have e : Hid (ccV qs cs ps = -1) := by show _ = _; rw [hcc.out, lco_nil]
    clear L0
    go_enter Tryd.func28, Tryd.ntmps28
    go_wp2_with (go_at_call 24; ((with_reducible refine C0.mono ?_); rintro e w1 ⟨A1, c, rfl, hI, hnil, hb⟩; obtain ⟨rfl, rfl⟩ := hnil rfl; clear hI hnil C0))
    all_goals (go_ret; exact ⟨ret_int e.out.symm, hb⟩)
  · have HL := Lib.hid hl
    clear hl
    go_enter Tryd.func28, Tryd.ntmps28
    go_upto_region 2 with (go_at_call 24; ((with_reducible refine C0.mono ?_); rintro e w1 ⟨A1, c, rfl, hI, hnil, hb⟩; clear hnil C0))
    rw [HL.out] at hI ⊢
    obtain ⟨ab, ao, rfl⟩ := hI.addr (by omega)
    have L1 := L0 _ c w1 hI (hQ.below hb)
    clear L0
    go_wp2_with (go_at_call 34; ((with_reducible refine L1.mono ?_); rintro e w2 ⟨rfl, hb2⟩; clear L1))
    all_goals (go_ret; exact ⟨ret_int hcc.out.symm, bt hb hb2⟩)
set_option maxHeartbeats 1000000 in
theorem CheapCost_s (A C Q : Option Addr) (n c1 m c2 k c3 : Nat) (qs : List Quad) (cs ps : List Int) (w : World) (h : Books w A n qs) (hC : Ints w C m cs) (hQ : Ints w Q k ps) (hn : n ≤ 1048576) (hm : m ≤ 1048576) (hk : k ≤ 1048576) (sa : SmA qs) :
    Calls Tryd.prog 29 #[.slice A n c1, .slice C m c2, .slice Q k c3] w fun e w' => e = .returned (.int .i64 (ccV qs cs ps)) ∧ Below w.heap.size w w' := by
  have C0 := CheapLoads_s A C Q n c1 m c2 k c3 qs cs ps w h hC hQ hn hm hk sa
  have hcc : Hid (ccV qs cs ps = lcoV (clO qs cs ps) ps) := rfl
  have hlen : (clO qs cs ps).length ≤ 6 := by
    by_cases hv : nsV qs = true ∧ fvV cs = true ∧ fvV ps = true
    · rw [clO_yes hv.1 hv.2.1 hv.2.2, clL_len]; exact Nat.le_refl _
    · rw [clO_no hv]; simp
  obtain ⟨xs, hx⟩ : ∃ xs, clO qs cs ps = xs := ⟨_, rfl⟩
  rw [hx] at C0 hcc hlen
  have L0 := fun A c w h h' => LoadCost_s A Q xs.length c k c3 xs ps w h h' (by omega) hk
  clear hx
  go_enter Tryd.func29, Tryd.ntmps29
  go_wp2_with (first
    | (go_at_call 25; ((with_reducible refine C0.mono ?_); rintro e w1 ⟨A1, c, rfl, hI, hb⟩; clear C0; have L1 := L0 _ c w1 hI (hQ.below hb); clear L0))
    | (go_at_call 65; ((with_reducible refine L1.mono ?_); rintro e w2 ⟨rfl, hb2⟩; clear L1)))
  go_ret
  exact ⟨ret_int hcc.out.symm, bt hb hb2⟩
/-- two rows of ints of the call's own -/
structure TW (w0 w : World) (na ga ca nb gb cb : Nat) (xs ys : List Int) : Prop where
  a : w.ownsRow w0.heap.size 3 1 (.slice (some ⟨ga, 0, none⟩) na ca) na (xs.map (Value.int .i64))
  b : w.ownsRow w0.heap.size 3 1 (.slice (some ⟨gb, 0, none⟩) nb cb) nb (ys.map (Value.int .i64))
  d : ga ≠ gb
  bw : Below w0.heap.size w0 w
theorem TW.swap {w0 w : World} {na ga ca nb gb cb : Nat} {xs ys : List Int} (h : TW w0 w na ga ca nb gb cb xs ys) : TW w0 w nb gb cb na ga ca ys xs := ⟨h.b, h.a, fun e => h.d e.symm, h.bw⟩
theorem TW.below {w0 w w' : World} {na ga ca nb gb cb : Nat} {xs ys : List Int} (h : TW w0 w na ga ca nb gb cb xs ys) (hb : Below w.heap.size w w') : TW w0 w' na ga ca nb gb cb xs ys :=
  ⟨own_keep h.a (hb.block ga (own_lt h.a).2), own_keep h.b (hb.block gb (own_lt h.b).2), h.d, bt h.bw hb⟩
theorem TW.app {w0 w w1 : World} {na ga ca nb gb cb : Nat} {xs ys : List Int} {o : Obj} {v' : Value} {x : Int} (h : TW w0 w na ga ca nb gb cb xs ys)
    (ho : w1.ownsRow w0.heap.size 3 1 v' (na + 1) (xs.map (Value.int .i64) ++ [.int .i64 x])) (hg : (w.alloc o).grownBy w1 (Value.slice (some ⟨ga, 0, none⟩) na ca).ownBlock) (hf : v'.ownBlock = some ga ∨ v'.ownBlock = some (w.heap.size + 1)) :
    ∃ g' c', v' = .slice (some ⟨g', 0, none⟩) (na + 1) c' ∧ TW w0 w1 (na + 1) g' c' nb gb cb (xs ++ [x]) ys := by
  obtain ⟨g', c', rfl, e1, e2, e3, e4⟩ := own_at ho (by omega)
  have la := own_lt h.a
  have lb := own_lt h.b
  have hd := h.d
  have kb : w1.heap[gb]? = w.heap[gb]? := (hg.block gb (by simp; omega) (by simp [Value.ownBlock]; exact fun q => hd q.symm)).trans (Below.heap_alloc w o gb lb.2)
  refine ⟨g', c', rfl, by rw [List.map_append]; exact ho, own_keep h.b kb, ?_, (h.bw.alloc h.bw.size o).grown hg (by simp; have := h.bw.size; omega) (fun q hq => by simp [Value.ownBlock] at hq; omega)⟩
  rcases hf with q | q
  · simp [Value.ownBlock] at q; omega
  · simp [Value.ownBlock] at q; omega
/-- the loads of the first hours -/
def ldK (p : List (List Int)) (n j : Nat) : List Int := (List.range j).map fun h => loadL p h n
theorem ldK_next (p : List (List Int)) (n j : Nat) : ldK p n (j + 1) = ldK p n j ++ [loadL p j n] := by unfold ldK; rw [List.range_succ, List.map_append]; rfl
/-- the prices of the first hours -/
def csK (M j : Nat) : List Int := (List.range j).map fun h => (((h : Nat) : Int) * 7 + (M : Int)) % 11
theorem csK_next (M j : Nat) : csK M (j + 1) = csK M j ++ [((j : Int) * 7 + (M : Int)) % 11] := by unfold csK; rw [List.range_succ, List.map_append]; rfl
theorem csK_fv (M : Nat) : fvV (csK M 6) = true := by
  unfold fvV
  rw [decide_eq_true_iff]
  refine ⟨by simp [csK], fun k hk => ?_⟩
  have hk6 : k < 6 := by simpa [csK] using hk
  have e : (csK M 6).getD k 0 = ((k : Int) * 7 + (M : Int)) % 11 := by
    unfold csK
    rw [List.getD_eq_getElem?_getD, List.getElem?_map, List.getElem?_range hk6]; rfl
  rw [e]; omega
set_option maxRecDepth 100000 in
set_option maxHeartbeats 8000000 in
theorem FnCheapCost_walk (w : World) (A : Option Addr) (n cap : Nat) (zs : List Int) (h : Nums .u8 w A n cap zs) (A' : Option Addr) (n' cap' : Nat) (zs' : List Int) (h' : Nums .u8 w A' n' cap' zs') :
    Calls Tryd.prog 7 #[.slice A n cap, .slice A' n' cap'] w fun e w' => e = .returned (.bool true) ∧ Below w.heap.size w w' := by
  obtain ⟨i0, hi, ia, ib, ic⟩ := info_parts infoIn
  go_enter Tryd.func7, Tryd.ntmps7
  by_cases hn : 1048576 < n
  · have hnb : decide (1048576 < n) = true := by simpa using hn
    clear h h'
    go_wp2
    go_ret
    exact ⟨rfl, by (repeat (first | exact Below.refl _ _ | assumption | refine Below.alloc ?_ (by first | omega | (simp; done) | (simp; omega)) _ | refine Below.drew ?_ | refine bdN ?_ _ | refine Below.setCell ?_ (by first | omega | (simp; done) | (simp; omega)) _))⟩
  · by_cases hn' : 1048576 < n'
    · have hnb : decide (1048576 < n) = false := by simpa using hn
      have hnb' : decide (1048576 < n') = true := by simpa using hn'
      clear h h'
      go_wp2
      go_ret
      exact ⟨rfl, by (repeat (first | exact Below.refl _ _ | assumption | refine Below.alloc ?_ (by first | omega | (simp; done) | (simp; omega)) _ | refine Below.drew ?_ | refine bdN ?_ _ | refine Below.setCell ?_ (by first | omega | (simp; done) | (simp; omega)) _))⟩
    · have hnb : decide (1048576 < n) = false := by simpa using hn
      have hnb' : decide (1048576 < n') = false := by simpa using hn'
      go_upto_region 4 with (go_at_call 27; refine (drawCheapCost_ok A n cap zs _ h (by omega)).mono ?_; rintro E w1 ⟨B, k, c, qs, G, m, d, ys, H, l, f, us, rfl, hB, hC, hP, k9, kc, cm, m7, md, dm, l7, lf, fm, sa, hw⟩; replace h' := h'.kept hw; clear h)
      clear hn hnb hnb'
      obtain ⟨X, hX⟩ : ∃ X, ccV qs ys us = X := ⟨_, rfl⟩
      have F_i : ∀ w, Books w B k qs → Ints w G m ys → Ints w H l us → Calls Tryd.prog 28 #[.slice B k c, .slice G m d, .slice H l f] w fun E w' => E = .returned (.int .i64 X) ∧ Below w.heap.size w w' := fun w h1 h2 h3 => by have := CheapCost_i B G H k c m d l f qs ys us w h1 h2 h3 (by omega) (by omega) (by omega); rw [hX] at this; exact this
      have F_s : ∀ w, Books w B k qs → Ints w G m ys → Ints w H l us → Calls Tryd.prog 29 #[.slice B k c, .slice G m d, .slice H l f] w fun E w' => E = .returned (.int .i64 X) ∧ Below w.heap.size w w' := fun w h1 h2 h3 => by have := CheapCost_s B G H k c m d l f qs ys us w h1 h2 h3 (by omega) (by omega) (by omega) sa; rw [hX] at this; exact this
      have HX := Lib.hid hX
      clear hX sa
      go_upto_if 41 with (first
        | (go_at_call 28; ((with_reducible refine (F_i _ hB hC hP).mono ?_); rintro E wk ⟨rfl, hb⟩; replace hB := hB.below hb; replace hC := hC.below hb; replace hP := hP.below hb; replace h' := h'.kept hb; replace hw := bt hw hb; clear hb))
        | (go_at_call 29; ((with_reducible refine (F_s _ hB hC hP).mono ?_); rintro E wk ⟨rfl, hb⟩; replace hB := hB.below hb; replace hC := hC.below hb; replace hP := hP.below hb; replace h' := h'.kept hb; replace hw := bt hw hb; clear hb)))
      clear F_i F_s
      go_upto_region 8 with (go_at_call 30; refine (drawPlanValid_ok A' n' cap' zs' _ h' (by omega)).mono ?_; rintro E w2 ⟨B2, k2, c2, qs2, G2, m2, d2, ys2, P, np, cp, rows, rfl, hB2, hC2, hT, _, _, _, m72, _, _, n9, _, _, h6, hmid, sa2, hw2⟩; clear h')
      replace hB := hB.below hw2
      replace hC := hC.below hw2
      replace hP := hP.below hw2
      replace hw := bt hw hw2
      have hk2 := hB2.1
      have hpl := hT.1
      have hsml : ∀ i, Sml (rows.getD i []) := fun i j => by have := hmid i j; omega
      have hl6 : ∀ i, (rows.getD i []).length ≤ 1000 := fun i => by
        rcases Nat.lt_or_ge i np with g | g
        · rw [h6 i g]; omega
        · rw [getD_hi rows [] i (by omega)]; simp
      obtain ⟨V, hV⟩ : ∃ V, pvV qs2 ys2 rows = V := ⟨_, rfl⟩
      obtain ⟨L, hL⟩ : ∃ L, muV qs2 ys2 = L := ⟨_, rfl⟩
      obtain ⟨S, hS⟩ : ∃ S, allL rows np = S := ⟨_, rfl⟩
      have V_s : ∀ w, Books w B2 k2 qs2 → Ints w G2 m2 ys2 → Tabs w P np rows → Calls Tryd.prog 31 #[.slice B2 k2 c2, .slice G2 m2 d2, .slice P np cp] w fun E w' => E = .returned (.bool V) ∧ Below w.heap.size w w' := fun w h1 h2 h3 => by have := PlanValid_s B2 G2 P k2 c2 m2 d2 np cp qs2 ys2 rows w h1 h2 h3 (by omega) (by omega) (by omega) hsml hl6 sa2; rw [hV] at this; exact this
      have A_i : ∀ w, Tabs w P np rows → Calls Tryd.prog 32 #[.slice P np cp] w fun E w' => E = .returned (.int .i64 S) ∧ Below w.heap.size w w' := fun w h2 => by have := PlanAll_i P np cp rows w h2 (by omega) hsml h6; rw [hS] at this; exact this
      have M_i : ∀ w, Books w B2 k2 qs2 → Ints w G2 m2 ys2 → Calls Tryd.prog 26 #[.slice B2 k2 c2, .slice G2 m2 d2] w fun E w' => E = .returned (.int .i64 L) ∧ Below w.heap.size w w' := fun w h h' => by have := MostUnits_i B2 G2 k2 c2 d2 m2 qs2 ys2 w h h' (by omega) (by omega); rw [hL] at this; exact this
      have P_i0 : (∀ (j : Nat) (w : World), Tabs w P np rows → Calls Tryd.prog 33 #[.slice P np cp, .int .i64 j] w fun E w' => E = .returned (.int .i64 (loadL rows j np)) ∧ Below w.heap.size w w') := fun j w h2 => PlanLoad_i P np cp rows j w h2 (by omega) hsml
      have P_i := Lib.hid P_i0
      have good : V = true → S = L → nsV qs2 = true ∧ fvV ys2 = true ∧ Plan (usL qs2) (rssL qs2) ys2 rows ∧ np = k2 ∧ allL rows qs2.length = muV qs2 ys2 := fun hv he => by
        rw [hv] at hV
        obtain ⟨v1, v2, v3, _, _⟩ := pvV_yes.1 hV
        have e : np = qs2.length := by rw [← hpl, v3]
        exact ⟨v1, v2, pv_plan hV, by rw [e, hk2], by rw [← e, hS, he, hL]⟩
      have GOOD := Lib.hid good
      have HPL := Lib.hid hpl
      have HK2 := Lib.hid hk2
      clear hV hL hS hsml hl6 h6 hmid sa2 hpl hk2 P_i0 good hw2
      go_cut [59] (fun s wx => ∃ b : Bool, s = .bool b ∧ (b = true → V = true ∧ S = L) ∧ Books wx B k qs ∧ Ints wx G m ys ∧ Ints wx H l us ∧ Books wx B2 k2 qs2 ∧ Ints wx G2 m2 ys2 ∧ Tabs wx P np rows ∧ Below w.heap.size w wx)
      case first =>
        cases V
        · go_wp2_with (go_at_call 31; ((with_reducible refine (V_s _ hB2 hC2 hT).mono ?_); rintro E wk ⟨rfl, hb⟩; replace hB := hB.below hb; replace hC := hC.below hb; replace hP := hP.below hb; replace hB2 := hB2.below hb; replace hC2 := hC2.below hb; replace hT := hT.below hb; replace hw := bt hw hb; clear hb))
          go_meet
          exact ⟨false, rfl, fun h => (by cases h), hB, hC, hP, hB2, hC2, hT, hw⟩
        · go_wp2_with (first
            | (go_at_call 31; ((with_reducible refine (V_s _ hB2 hC2 hT).mono ?_); rintro E wk ⟨rfl, hb⟩; replace hB := hB.below hb; replace hC := hC.below hb; replace hP := hP.below hb; replace hB2 := hB2.below hb; replace hC2 := hC2.below hb; replace hT := hT.below hb; replace hw := bt hw hb; clear hb))
            | (go_at_call 32; ((with_reducible refine (A_i _ hT).mono ?_); rintro E wk ⟨rfl, hb⟩; replace hB := hB.below hb; replace hC := hC.below hb; replace hP := hP.below hb; replace hB2 := hB2.below hb; replace hC2 := hC2.below hb; replace hT := hT.below hb; replace hw := bt hw hb; clear hb))
            | (go_at_call 26; ((with_reducible refine (M_i _ hB2 hC2).mono ?_); rintro E wk ⟨rfl, hb⟩; replace hB := hB.below hb; replace hC := hC.below hb; replace hP := hP.below hb; replace hB2 := hB2.below hb; replace hC2 := hC2.below hb; replace hT := hT.below hb; replace hw := bt hw hb; clear hb)))
          go_meet
          exact ⟨S == L, rfl, fun h => ⟨by first | rfl | trivial, by simpa using h⟩, hB, hC, hP, hB2, hC2, hT, hw⟩
      case rest =>
        clear hB hC hP hB2 hC2 hT hw V_s A_i M_i
        obtain ⟨b, rfl, hb9, hB, hC, hP, hB2, hC2, hT, hw⟩ := hcut
        have HB9 := Lib.hid hb9
        clear hb9
        go_upto_if 59 with fail
        go_cut [] (fun wx => Books wx B k qs ∧ Ints wx G m ys ∧ Ints wx H l us ∧ Below w.heap.size w wx)
        case first =>
          cases b
          · clear HB9 GOOD P_i
            go_wp2_with fail
            go_meet
            exact ⟨hB, hC, hP, hw⟩
          · obtain ⟨q1, q2⟩ := HB9.out rfl
            obtain ⟨v1, v2, PL, rfl, hall⟩ := GOOD.out q1 q2
            obtain rfl : m2 = 6 := by rw [← hC2.1]; exact (fv_at v2).1
            have hpc := plan_cost v1 v2 (csK_fv n') PL hall
            rw [HK2.out] at hpc
            have hpc2 : ccV qs2 ys2 (csK n' 6) ≤ lcoV (ldK rows np 6) (csK n' 6) := hpc
            have HPC := Lib.hid hpc2
            have HB := Lib.hid hB
            have HC := Lib.hid hC
            have HP := Lib.hid hP
            have HB2 := Lib.hid hB2
            have HC2 := Lib.hid hC2
            have HT := Lib.hid hT
            have HW := Lib.hid hw
            clear hpc hpc2 PL hall v1 v2 q1 q2 HB9 GOOD hB hC hP hB2 hC2 hT hw
            have T0 : TW wc ((wc.alloc (.cells #[] 3)).alloc (.cells #[] 3)) 0 wc.heap.size 0 0 (wc.heap.size + 1) 0 (ldK rows np 0) (csK n' 0) :=
              ⟨(nw_new0 wc wc.heap.size 3 1 (Nat.le_refl _)).alloc _, by have := nw_new0 (wc.alloc (.cells #[] 3)) wc.heap.size 3 1 (by simp); rw [show (wc.alloc (.cells #[] 3)).heap.size = wc.heap.size + 1 by simp] at this; exact this, by omega, ((Below.refl _ _).alloc (Nat.le_refl _) _).alloc (by simp) _⟩
            go_wp2
            go_loopw [12, 13, 14] (fun v12 v13 i wr => ∃ (j ga ca gb cb : Nat), i = .int .i64 j ∧ j ≤ 6 ∧ v12 = .slice (some ⟨ga, 0, none⟩) j ca ∧ v13 = .slice (some ⟨gb, 0, none⟩) j cb ∧ TW wc wr j ga ca j gb cb (ldK rows np j) (csK n' j)) (fun _ _ i _ => 6 - (intOf i).toNat)
            case atStart => exact ⟨0, _, _, _, _, rfl, by omega, rfl, rfl, T0⟩
            case round =>
              clear T0
              obtain ⟨j, ga, ca, gb, cb, rfl, hj, rfl, rfl, T⟩ := hrel
              by_cases hlj : j < 6
              · have P1 := P_i.out j wr (HT.out.below T.bw)
                have e1 := ldK_next rows np j
                have e2 := csK_next n' j
                obtain ⟨Y, hY⟩ : ∃ Y, loadL rows j np = Y := ⟨_, rfl⟩
                rw [hY] at P1 e1
                have E1 := Lib.hid e1
                have E2 := Lib.hid e2
                clear hY e1 e2
                go_wp2_with (first
                  | (go_at_call 33; ((with_reducible refine P1.mono ?_); rintro E w3 ⟨rfl, hb⟩; replace T := T.below hb; have hsz := T.bw.size; clear hb P1))
                  | (at_builtin; refine wpList_append_fresh _ rfl _ _ 28 rfl wc.heap.size 3 i0 (.int .i64 0) 1 8 Tryd.underlying28 hi ia ib ic rfl (by decide) _ _ _ rfl (T.a.alloc _) ⟨w3.heap.size, 0, none⟩ 1 1 ([Y].map (Value.int .i64)) rfl rfl ?c1 ?c2 ?c3 ?c4 ?c5 ?_))
                case c1 => exact news_one w3 _ Y
                case c2 => exact one_ints [Y]
                case c3 => unfold maxLen; omega
                case c4 => omega
                case c5 => simp; omega
                intro v' w4 hown hgrow hfr
                obtain ⟨ga2, ca2, rfl, T2⟩ := T.app hown hgrow hfr
                clear hown hgrow hfr T hsz
                have hsz := T2.bw.size
                have T3 := T2.swap
                clear T2
                go_wp2_with (at_builtin; refine wpList_append_fresh _ rfl _ _ 28 rfl wc.heap.size 3 i0 (.int .i64 0) 1 8 Tryd.underlying28 hi ia ib ic rfl (by decide) _ _ _ rfl (T3.a.alloc _) ⟨w4.heap.size, 0, none⟩ 1 1 ([((j : Int) * 7 + (n' : Int)) % 11].map (Value.int .i64)) rfl rfl ?d1 ?d2 ?d3 ?d4 ?d5 ?_)
                case d1 => exact news_one w4 _ _
                case d2 => exact one_ints [_]
                case d3 => unfold maxLen; omega
                case d4 => omega
                case d5 => simp; omega
                intro v' w5 hown hgrow hfr
                obtain ⟨gb2, cb2, rfl, T4⟩ := T3.app hown hgrow hfr
                rw [← E2.out] at T4
                rw [← E1.out] at T4
                have T5 := T4.swap
                clear hown hgrow hfr T3 T4 hsz
                go_wp2
                go_roundw
                case rel => exact ⟨j + 1, ga2, ca2, gb2, cb2, by go_num, by omega, rfl, rfl, T5⟩
                case measure => simp [intOf]; omega
              · obtain rfl : j = 6 := by omega
                have rA := (Rw.of_own T.a (by simp [ldK])).1.ints
                have rB := (Rw.of_own T.b (by simp [csK])).1.ints
                have hpc := HPC.out
                have HW3 := Lib.hid (bt HW.out T.bw)
                have hB3 := Lib.hid (HB.out.below T.bw)
                have hC3 := Lib.hid (HC.out.below T.bw)
                have hP3 := Lib.hid (HP.out.below T.bw)
                have L1 := LoadCost_i _ _ 6 ca 6 cb _ _ wr rA rB (by omega) (by omega)
                have K1 := fun w h1 h2 h3 => CheapCost_i B2 G2 (some ⟨gb, 0, none⟩) np c2 6 d2 6 cb qs2 ys2 (csK n' 6) w h1 h2 h3 (by have := HK2.out; omega) (by omega) (by omega)
                have hB4 := HB2.out.below T.bw
                have hC4 := HC2.out.below T.bw
                obtain ⟨Y, hY⟩ : ∃ Y, lcoV (ldK rows np 6) (csK n' 6) = Y := ⟨_, rfl⟩
                obtain ⟨Z, hZ⟩ : ∃ Z, ccV qs2 ys2 (csK n' 6) = Z := ⟨_, rfl⟩
                rw [hY] at hpc L1
                rw [hZ] at hpc K1
                have t9 : decide (Y < Z) = false := by simpa using hpc
                clear hpc hY hZ T rA
                go_wp2_with (first
                  | (go_at_call 34; ((with_reducible refine L1.mono ?_); rintro E w3 ⟨rfl, hb⟩; have K2 := K1 _ (hB4.below hb) (hC4.below hb) (rB.below hb); have hb6 := hb; clear hb L1 K1 hB4 hC4 rB))
                  | (go_at_call 28; ((with_reducible refine K2.mono ?_); rintro E w4 ⟨rfl, hb⟩; have hb7 := bt hb6 hb; clear hb K2)))
                go_meet
                exact ⟨hB3.out.below hb7, hC3.out.below hb7, hP3.out.below hb7, bt HW3.out hb7⟩
        case rest =>
          clear hB hC hP hB2 hC2 hT hw HB9 GOOD P_i
          obtain ⟨hB, hC, hP, hw⟩ := hcut
          have hbl := hB.1
          rcases cc_case qs ys us with hx | ⟨v1, v2, v3, _, hx⟩
          · rw [HX.out] at hx
            subst hx
            clear HX
            go_wp2_with (go_at_call 19; ((with_reducible refine (alive_ok _).mono ?_); rintro E wk ⟨rfl, hb⟩; replace hw := bt hw hb; clear hb))
            go_ret
            exact ⟨rfl, hw⟩
          · obtain ⟨PL, pl, ps, p6, pa⟩ := mp_good v1 v2
            have hpc := plan_cost v1 v2 v3 PL (by rw [pa, (muV_nn v1 v2).1])
            rw [HX.out] at hpc hx
            rw [hbl] at pl hpc
            obtain rfl : m = 6 := by rw [← hC.1]; exact (fv_at v2).1
            obtain rfl : l = 6 := by rw [← hP.1]; exact (fv_at v3).1
            have P0 : ∀ w, Books w B k qs → Ints w G 6 ys → Calls Tryd.prog 35 #[.slice B k c, .slice G 6 d] w fun E w' => ∃ Q, E = .returned (.slice Q k k) ∧ Tabs w' Q k (mpV qs ys) ∧ Below w.heap.size w w' := fun w h h' => (MostPlan_i B G k c d 6 qs ys w h h' (by omega) (by omega)).mono fun E w' r => by obtain ⟨Q, e, hT, _, hb⟩ := r; rw [pl] at e hT; exact ⟨Q, e, hT, hb⟩
            have tX : decide (X < 0) = false := by simpa using hx
            obtain ⟨p, hp⟩ : ∃ p, mpV qs ys = p := ⟨_, rfl⟩
            rw [hp] at P0 ps hpc
            have hpc2 : X ≤ lcoV (ldK p k 6) us := hpc
            have HPC := Lib.hid hpc2
            have PS := Lib.hid ps
            clear PL pl ps p6 pa hpc hpc2 hp hx v1 v2 v3 HX hbl
            go_upto_region 21 with (go_at_call 35; ((with_reducible refine (P0 _ hB hC).mono ?_); rintro E w5 ⟨Q, rfl, hT, hb⟩; replace hP := hP.below hb; replace hw := bt hw hb; clear hb P0 hB hC))
            have HP := Lib.hid hP
            have HT := Lib.hid hT
            have HW := Lib.hid hw
            have T0 : (w5.alloc (.cells #[] 3)).ownsRow w5.heap.size 3 1 (.slice (some ⟨w5.heap.size, 0, none⟩) 0 0) 0 ((ldK p k 0).map (Value.int .i64)) := nw_new0 w5 w5.heap.size 3 1 (Nat.le_refl _)
            have hb0 : Below w5.heap.size w5 (w5.alloc (.cells #[] 3)) := (Below.refl _ _).alloc (Nat.le_refl _) _
            clear hP hT hw
            go_wp2
            go_loopw [16, 17] (fun v i wr => ∃ (j g cg : Nat), i = .int .i64 j ∧ j ≤ 6 ∧ v = .slice (some ⟨g, 0, none⟩) j cg ∧ wr.ownsRow w5.heap.size 3 1 v j ((ldK p k j).map (Value.int .i64)) ∧ Below w5.heap.size w5 wr) (fun _ i _ => 6 - (intOf i).toNat)
            case atStart => exact ⟨0, _, _, rfl, by omega, rfl, T0, hb0⟩
            case round =>
              clear T0 hb0
              obtain ⟨j, g, cg, rfl, hj, rfl, T, hq⟩ := hrel
              by_cases hlj : j < 6
              · have P1 := PlanLoad_i Q k k p j wr (HT.out.below hq) (by omega) PS.out
                have e1 := ldK_next p k j
                obtain ⟨Y, hY⟩ : ∃ Y, loadL p j k = Y := ⟨_, rfl⟩
                rw [hY] at P1 e1
                have E1 := Lib.hid e1
                clear hY e1
                go_wp2_with (first
                  | (go_at_call 33; ((with_reducible refine P1.mono ?_); rintro E w3 ⟨rfl, hb⟩; replace T := own_keep T (hb.block g (own_lt T).2); replace hq := bt hq hb; have hsz := hq.size; clear hb P1))
                  | (at_builtin; refine wpList_append_own _ rfl _ _ 28 rfl w5.heap.size 3 i0 (.int .i64 0) 1 8 Tryd.underlying28 hi ia ib ic rfl (by decide) _ _ _ rfl (T.alloc _) ⟨w3.heap.size, 0, none⟩ 1 1 ([Y].map (Value.int .i64)) rfl rfl ?c1 ?c2 ?c3 ?c4 ?c5 ?_))
                case c1 => exact news_one w3 _ Y
                case c2 => exact one_ints [Y]
                case c3 => unfold maxLen; omega
                case c4 => omega
                case c5 => simp; omega
                intro v' w4 hown hgrow _
                obtain ⟨g2, cg2, rfl, _, _, _, _⟩ := own_at hown (by omega)
                have hq2 := (hq.alloc hsz _).grown hgrow (by simp; omega) (fun q hq => (T.lt q hq).1)
                have ho : Hid (w4.ownsRow w5.heap.size 3 1 (.slice (some ⟨g2, 0, none⟩) (j + 1) cg2) (j + 1) ((ldK p k (j + 1)).map (Value.int .i64))) := by
                  show World.ownsRow _ _ _ _ _ _ _
                  rw [E1.out, List.map_append]; exact hown
                clear hown hgrow T hq hsz
                go_wp2
                go_roundw
                case rel => exact ⟨j + 1, g2, cg2, by go_num, by omega, rfl, ho.out, hq2⟩
                case measure => simp [intOf]; omega
              · obtain rfl : j = 6 := by omega
                have rA := (Rw.of_own T (by simp [ldK])).1.ints
                have L1 := LoadCost_i _ _ 6 cg 6 f _ _ wr rA (HP.out.below hq) (by omega) (by omega)
                have hpc := HPC.out
                have HQ := Lib.hid (bt HW.out hq)
                obtain ⟨Y, hY⟩ : ∃ Y, lcoV (ldK p k 6) us = Y := ⟨_, rfl⟩
                rw [hY] at hpc L1
                have t9 : decide (X ≤ Y) = true := by simpa using hpc
                clear hpc hY rA T hq
                go_wp2_with (go_at_call 34; ((with_reducible refine L1.mono ?_); rintro E w6 ⟨rfl, hb⟩; clear L1))
                go_ret
                exact ⟨rfl, bt HQ.out hb⟩
end Go.Proofs.YtoiaggjjfahabaaDoor
