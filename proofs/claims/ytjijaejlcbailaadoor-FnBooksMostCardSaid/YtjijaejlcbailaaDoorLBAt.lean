/- The draw of bookings and an hour, and the walk of laws.FnBooksAt. No condition. -/
import Derived.Test.YtjijaejlcbailaaDoorDBooks
import Derived.Test.YtjijaejlcbailaaDoorPBk
import Derived.Test.YtjijaejlcbailaaDoorAliveL
namespace Go.Proofs.YtjijaejlcbailaaDoor
open Go.RowKit
set_option linter.unusedVariables false
theorem op0 (A : Option Addr) (n cap : Nat) (zs : List Int) (w : World) (h : Nums .u8 w A n cap zs) (hn : n ≤ 1048576) :
    Calls Tryd.prog 58 #[.slice A n cap] w fun e w' => e = .returned (.pointer (some ⟨w.heap.size, 0, none⟩)) ∧ RB w' w.heap.size 0 ∧ Below w.heap.size w w' ∧ w.heap.size < w'.heap.size := op w.heap.size A n cap zs w h hn rfl
def DB (w : World) (A : Option Addr) (k c : Nat) (qs : List Quad) (w' : World) : Prop := Books w' A k qs ∧ k ≤ 9 ∧ k ≤ c ∧ c ≤ maxLen ∧ (∀ q ∈ qs, SmQ q) ∧ Below w.heap.size w w'
end Go.Proofs.YtjijaejlcbailaaDoor
