/- Keys, by bytes as opaque values. -/
import Derived.Test.YtifnpphkplogaaaOctBs
import Derived.Test.YtifnpphkplogaaaKey
namespace Go.Proofs.Ytifnpphkplogaaa
open Go.RowKit
theorem toKey_bs {w : World} {a : Value} {l : List UInt8} (ha : Bs w a l) : Calls Try.prog 79 #[a] w (KeyRes l w) := by
  obtain ⟨A, c, rfl, h1, h2, h3⟩ := ha
  exact toKey_any A c l h1 h2 w h3
theorem refToKey_bs {w : World} {a : Value} {l : List UInt8} (ha : Bs w a l) : Calls Try.prog 80 #[a] w (KeyRes l w) := by
  obtain ⟨A, c, rfl, h1, h2, h3⟩ := ha
  exact refToKey_any A c l h1 h2 w h3
theorem bytes_bs (l : List UInt8) (hl : l.length = 32) (w : World) : Calls Try.prog 72 #[.agg (u8s l)] w (BsRes w l) :=
  (bytes_any l hl w).mono fun _ _ h => h.bs (by omega)
end Go.Proofs.Ytifnpphkplogaaa
