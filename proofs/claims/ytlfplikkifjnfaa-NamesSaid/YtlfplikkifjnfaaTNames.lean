/- The top's: the build's own names. -/
import Derived.Test.YtlfplikkifjnfaaFacts
namespace Go.Proofs.Ytlfplikkifjnfaa
open Go.RowKit
theorem walk_Names (w : World) : Calls Try.prog 3 #[] w fun e w' => e = .returned (.bool true) ∧ Below w.heap.size w w' := by
  go_enter Try.func3, Try.ntmps3
  go_wp2_with fail
  go_ret
  exact ⟨rfl, Below.refl _ _⟩
end Go.Proofs.Ytlfplikkifjnfaa
