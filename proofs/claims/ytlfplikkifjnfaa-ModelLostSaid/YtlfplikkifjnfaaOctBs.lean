/- Layer 1's contracts, by bytes as opaque values. -/
import Derived.Test.YtlfplikkifjnfaaBs
import Derived.Test.YtlfplikkifjnfaaOct2
import Derived.Test.YtlfplikkifjnfaaFacts
namespace Go.Proofs.Ytlfplikkifjnfaa
open Go.RowKit
def BoolRes (w : World) (b : Bool) (e : Ending) (w' : World) : Prop := e = .returned (.bool b) ∧ Below w.heap.size w w'
theorem refSame_bs {w : World} {a b : Value} {l m : List UInt8} (ha : Bs w a l) (hb : Bs w b m) : Calls Try.prog 22 #[a, b] w (BoolRes w (decide (l = m))) := by
  obtain ⟨A, c, rfl, h1, h2, h3⟩ := ha
  obtain ⟨B, d, rfl, g1, g2, g3⟩ := hb
  refine (refSame_any A B c d l m h1 g1 h2 g2 w h3 g3).mono ?_
  rintro e w' ⟨rfl, n, rfl⟩
  exact ⟨rfl, below_drewN (Below.refl _ _)⟩
end Go.Proofs.Ytlfplikkifjnfaa
