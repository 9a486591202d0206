/- Keys and digits, by bytes as opaque values. -/
import Derived.Test.YtojnjaedfbokmaaOctBs
import Derived.Test.YtojnjaedfbokmaaKey
import Derived.Test.YtojnjaedfbokmaaHex
import Derived.Test.YtojnjaedfbokmaaRefHex
namespace Go.Proofs.Ytojnjaedfbokmaa
open Go.RowKit
theorem toKey_bs {w : World} {a : Value} {l : List UInt8} (ha : Bs w a l) : Calls Try.prog 26 #[a] w (KeyRes l w) := by
  obtain ⟨A, c, rfl, h1, h2, h3⟩ := ha
  exact toKey_any A c l h1 h2 w h3
theorem refToKey_bs {w : World} {a : Value} {l : List UInt8} (ha : Bs w a l) : Calls Try.prog 28 #[a] w (KeyRes l w) := by
  obtain ⟨A, c, rfl, h1, h2, h3⟩ := ha
  exact refToKey_any A c l h1 h2 w h3
theorem bytes_bs (l : List UInt8) (hl : l.length = 32) (w : World) : Calls Try.prog 27 #[.agg (u8s l)] w (BsRes w l) :=
  (bytes_any l hl w).mono fun _ _ h => h.bs (by omega)
def StrOut (w : World) (l : List UInt8) (e : Ending) (w' : World) : Prop := e = .returned (.string ⟨l.toArray⟩) ∧ Below w.heap.size w w'
theorem hex_bs {w : World} {a : Value} {l : List UInt8} (ha : Bs w a l) (hm : l.length ≤ 35184372088832) : Calls Try.prog 13 #[a] w (StrOut w (hexB l)) := by
  obtain ⟨A, c, rfl, h1, h2, h3⟩ := ha
  exact (hex_any A c l h1 hm w h3).mono fun _ _ h => h
theorem refHex_bs {w : World} {a : Value} {l : List UInt8} (ha : Bs w a l) (hm : l.length ≤ 35184372088832) : Calls Try.prog 30 #[a] w (StrOut w (hexB l)) := by
  obtain ⟨A, c, rfl, h1, h2, h3⟩ := ha
  refine (refHex_any A c l h1 hm w h3).mono ?_
  rintro e w' ⟨rfl, n, rfl⟩
  exact ⟨rfl, below_drewN (Below.refl _ _)⟩
end Go.Proofs.Ytojnjaedfbokmaa
