/- Layer 1's contracts, by bytes as opaque values. -/
import Derived.Test.YtopmdbmnlflpgaaDoorBs
import Derived.Test.YtopmdbmnlflpgaaDoorOct2
import Derived.Test.YtopmdbmnlflpgaaDoorFacts
namespace Go.Proofs.YtopmdbmnlflpgaaDoor
open Go.RowKit
def BoolRes (w : World) (b : Bool) (e : Ending) (w' : World) : Prop := e = .returned (.bool b) ∧ Below w.heap.size w w'
theorem refSame_bs {w : World} {a b : Value} {l m : List UInt8} (ha : Bs w a l) (hb : Bs w b m) : Calls Tryd.prog 23 #[a, b] w (BoolRes w (decide (l = m))) := by
  obtain ⟨A, c, rfl, h1, h2, h3⟩ := ha
  obtain ⟨B, d, rfl, g1, g2, g3⟩ := hb
  refine (refSame_any A B c d l m h1 g1 h2 g2 w h3 g3).mono ?_
  rintro e w' ⟨rfl, n, rfl⟩
  exact ⟨rfl, below_drewN (Below.refl _ _)⟩
theorem ofHigh_bs {w : World} {a : Value} {l : List UInt8} (ha : Bs w a l) : Calls Tryd.prog 90 #[a] w fun e w' => e = .returned (.int .u64 (n64 (ofHighK l (min l.length 8)))) ∧ w = w' := by
  obtain ⟨A, c, rfl, h1, h2, h3⟩ := ha
  exact (ofHigh_any A c l h1 h2 w h3).mono fun _ _ h => h
theorem refOfHigh_bs {w : World} {a : Value} {l : List UInt8} (ha : Bs w a l) : Calls Tryd.prog 28 #[a] w fun e w' => e = .returned (.int .u64 (n64 (numK l (min l.length 8)))) ∧ w = w' := by
  obtain ⟨A, c, rfl, h1, h2, h3⟩ := ha
  exact (refOfHigh_any A c l h1 h2 w h3).mono fun _ _ h => h
end Go.Proofs.YtopmdbmnlflpgaaDoor
