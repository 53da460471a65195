/- Slices of tariffs: what toTariffS, eqTariffS, szTariffS compute. No condition but the length that make bears. -/
import Derived.Test.YtjijaejlcbailaaDoorQuad
namespace Go.Proofs.YtjijaejlcbailaaDoor
open Go.RowKit Go.ChangeShapes Go.WideShapes Go.Deep

theorem infoTariff : (Tryd.prog.info? 42).map (fun i => (i.zero, i.size, i.bytes)) = some (some (.agg #[.int .i64 0, .int .i64 0, .int .i64 0, .int .i64 0]), 4, 32) := by kernel_rfl
theorem make_tariff (n : Nat) (hn : n ≤ 1048576) (w : World) : (Instr.makeSlice 36 (.int .i64 (n : Int)) (.int .i64 (n : Int))).run Tryd.prog w = .ok (.slice (some ⟨w.heap.size, 0, none⟩) n n) (w.alloc (.cells (bks (List.replicate n q0)) 42)) := by
  obtain ⟨i, hi, hzz⟩ := Option.map_eq_some_iff.1 infoTariff
  simp only [Prod.mk.injEq] at hzz
  obtain ⟨hz, hs, hb⟩ := hzz
  have hr := run_make (P := Tryd.prog) w 36 42 i _ Tryd.underlying36 hi hz .i64 .i64 n n (by omega) (Int.le_refl _) (by rw [hb]; omega) (by omega)
  simp only [Int.toNat_natCast, hs] at hr
  rw [← bks_made]
  exact hr
end Go.Proofs.YtjijaejlcbailaaDoor
