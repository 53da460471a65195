/- What PayStay computes, of the program and of the reference. No condition. -/
import Derived.Test.YtolnjpnaoeeanaaDoorLeave
namespace Go.Proofs.YtolnjpnaoeeanaaDoor
open Go.RowKit

structure Paid where
  i : Int
  q : Int
  a : Int
  back : Int
  ok : Bool
def payV (f s p c i q a m x : Int) : Paid :=
  if dueV f s p c i q a m < 0 ∨ x < 1 ∨ 300 < x then ⟨0, 0, 0, x, false⟩
  else if dueV f s p c i q a m = 0 then ⟨i, q, a, x, false⟩
  else ⟨i, q + min x (dueV f s p c i q a m), m, x - min x (dueV f s p c i q a m), true⟩
def PayEnd (w : World) (r : Paid) (e : Ending) (w' : World) : Prop := e = .returned (.tuple #[.agg #[.int .i64 r.i, .int .i64 r.q, .int .i64 r.a], .int .i64 r.back, .bool r.ok]) ∧ Below w.heap.size w w'
end Go.Proofs.YtolnjpnaoeeanaaDoor
