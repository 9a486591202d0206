/- Layer 1's contracts, by bytes as opaque values. -/
import Derived.Test.YtbiiffendpkidaaDoorBs
import Derived.Test.YtbiiffendpkidaaDoorOct2
import Derived.Test.YtbiiffendpkidaaDoorFacts
namespace Go.Proofs.YtbiiffendpkidaaDoor
open Go.RowKit
def BoolRes (w : World) (b : Bool) (e : Ending) (w' : World) : Prop := e = .returned (.bool b) ∧ Below w.heap.size w w'
theorem refSame_bs {w : World} {a b : Value} {l m : List UInt8} (ha : Bs w a l) (hb : Bs w b m) : Calls Tryd.prog 16 #[a, b] w (BoolRes w (decide (l = m))) := by
  obtain ⟨A, c, rfl, h1, h2, h3⟩ := ha
  obtain ⟨B, d, rfl, g1, g2, g3⟩ := hb
  refine (refSame_any A B c d l m h1 g1 h2 g2 w h3 g3).mono ?_
  rintro e w' ⟨rfl, n, rfl⟩
  exact ⟨rfl, below_drewN (Below.refl _ _)⟩
theorem xor_bs {w : World} {a b : Value} {l m : List UInt8} (ha : Bs w a l) (hb : Bs w b m) : Calls Tryd.prog 23 #[a, b] w (BsRes w (xorB l m)) := by
  obtain ⟨A, c, rfl, h1, h2, h3⟩ := ha
  obtain ⟨B, d, rfl, g1, g2, g3⟩ := hb
  refine (xor_any A B c d l m h1 g1 h2 g2 w h3 g3).mono ?_
  rintro e w' ⟨rfl, rfl⟩
  exact ⟨_, rfl, Bs.of (Nat.le_refl _) (by rw [xorB_length]; omega) ((rd8_new _ _ _).drewN' _), below_drewN ((Below.refl _ _).alloc (Nat.le_refl _) _)⟩
theorem ofLow_bs {w : World} {a : Value} {l : List UInt8} (ha : Bs w a l) : Calls Tryd.prog 24 #[a] w fun e w' => e = .returned (.int .u64 (n64 (ofLowK l (min l.length 8)))) ∧ w = w' := by
  obtain ⟨A, c, rfl, h1, h2, h3⟩ := ha
  exact (ofLow_any A c l h1 h2 w h3).mono fun _ _ h => h
end Go.Proofs.YtbiiffendpkidaaDoor
