/- What the stream's two laid variables hold. -/
import Derived.Test.YtbiiffendpkidaaDoorRows
import Derived.Test.YtbiiffendpkidaaDoorCards
import Derived.Test.YtbiiffendpkidaaDoorTie
import Derived.Test.YtbiiffendpkidaaDoorBlock
import Derived.SevenTiedAt
import Derived.LaidByTextLater
import Derived.LaidMore
import Derived.Stop.Joined
namespace Go.Proofs.YtbiiffendpkidaaDoor
open Go.ChangeShapes Go.WideShapes Go.ChangeAt Go.WideMaps Go.WideElems Go.RowKit
def laidL : List (String × DataW Unit) := [("cablegram/stream.start", Rows.laid_cablegram_stream_start), ("cablegram/stream.quarters", Rows.laid_cablegram_stream_quarters)]
theorem door_met (os : Os) (args : Array Value) : laidMetH Tryd.prog laidL ((World.doorLaid Tryd.prog 400 os).forCall (fun _ _ => 0) ⟨#[], args, []⟩).memory :=
  laidMetH_of_parts3 (fuel := 8) (laidMet_of_run' 8 (by kernel_rfl) (by kernel_rfl)) (by kernel_rfl) (by kernel_rfl)
theorem of_laid {W : World} (h : laidMetH Tryd.prog laidL W) : RowIs W 1 (u32s startL) ∧ RowIs W 0 qCells := by
  rw [MakeChecks.laidMetH_plain _ _ _ (by kernel_rfl)] at h
  obtain ⟨ps, hv, _, hc⟩ := h
  constructor
  · obtain ⟨g, t, cs, fuel, p, hg, ht, hd, hrow⟩ := laid_block hv (n := "cablegram/stream.start") (d := Rows.laid_cablegram_stream_start) (by simp [laidL]) (fun b off hb => (hc b off hb).1)
    obtain rfl := Option.some.inj ((show Tryd.prog.globalNamed "cablegram/stream.start" = some 1 by kernel_rfl).symm.trans hg)
    obtain rfl := Option.some.inj ((show (Tryd.prog.globals[1]?).map (·.type) = some 56 by kernel_rfl).symm.trans ht)
    have e := cells_ints (zs := [1634760805, 857760878, 2036477234, 1797285236]) Tryd.underlying56 Tryd.underlying22 (by kernel_rfl) (by kernel_rfl) hd
    have ec : cs = u32s startL := by
      rw [u32s_def, startL_def]
      cases cs
      simp at e
      simp [e, n32_def]
    rw [← ec]
    exact hrow (by rw [ec, u32s_size, startL_length]; omega)
  · obtain ⟨g, t, cs, fuel, p, hg, ht, hd, hrow⟩ := laid_block hv (n := "cablegram/stream.quarters") (d := Rows.laid_cablegram_stream_quarters) (by simp [laidL]) (fun b off hb => (hc b off hb).1)
    obtain rfl := Option.some.inj ((show Tryd.prog.globalNamed "cablegram/stream.quarters" = some 0 by kernel_rfl).symm.trans hg)
    obtain rfl := Option.some.inj ((show (Tryd.prog.globals[0]?).map (·.type) = some 47 by kernel_rfl).symm.trans ht)
    have e := cells_rows (zss := [[0, 4, 8, 12], [1, 5, 9, 13], [2, 6, 10, 14], [3, 7, 11, 15], [0, 5, 10, 15], [1, 6, 11, 12], [2, 7, 8, 13], [3, 4, 9, 14]]) Tryd.underlying47 Tryd.underlying46 Tryd.underlying3 (by kernel_rfl) (by kernel_rfl) (by kernel_rfl) hd
    obtain ⟨_, _, _, _, hlen, _, _⟩ := DataW.trod_array Tryd.underlying47 hd
    have hl : cs.toList.length = 8 * 4 := by rw [hlen]; kernel_rfl
    have e2 := flat_rows (n := 8) (m := 4) (by omega) (rs := [[0, 4, 8, 12], [1, 5, 9, 13], [2, 6, 10, 14], [3, 7, 11, 15], [0, 5, 10, 15], [1, 6, 11, 12], [2, 7, 8, 13], [3, 4, 9, 14]].map fun r : List Int => r.map (Value.int .i64)) hl (by rfl) (by decide +kernel) (fun i hi => by
      rw [e i hi]
      have : i = 0 ∨ i = 1 ∨ i = 2 ∨ i = 3 ∨ i = 4 ∨ i = 5 ∨ i = 6 ∨ i = 7 := by omega
      rcases this with rfl | rfl | rfl | rfl | rfl | rfl | rfl | rfl <;> rfl)
    have ec : cs = qCells := by
      rw [qCells_def]
      cases cs
      simp at e2
      rw [e2]
      rfl
    rw [← ec]
    exact hrow (by rw [ec, qCells_size]; omega)
end Go.Proofs.YtbiiffendpkidaaDoor
