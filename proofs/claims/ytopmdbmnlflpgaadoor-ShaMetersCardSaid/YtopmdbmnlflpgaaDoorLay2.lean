/- What sha's two laid variables hold. -/
import Derived.Test.YtopmdbmnlflpgaaDoorRows
import Derived.Test.YtopmdbmnlflpgaaDoorCards
import Derived.Test.YtopmdbmnlflpgaaDoorTie
import Derived.Test.YtopmdbmnlflpgaaDoorMet
import Derived.Test.YtopmdbmnlflpgaaDoorLaid
import Derived.SevenTiedAt
import Derived.LaidByTextLater
import Derived.LaidMore
import Derived.Stop.Joined
namespace Go.Proofs.YtopmdbmnlflpgaaDoor
open Go.ChangeShapes Go.WideShapes Go.ChangeAt Go.WideMaps Go.WideElems Go.RowKit
def laidL : List (String × DataW Unit) := [("cablegram/sha.rounds", Rows.laid_cablegram_sha_rounds), ("cablegram/sha.start", Rows.laid_cablegram_sha_start)]
theorem door_met (os : Os) (args : Array Value) : laidMetH Tryd.prog laidL ((World.doorLaid Tryd.prog 400 os).forCall (fun _ _ => 0) ⟨#[], args, []⟩).memory :=
  laidMetH_of_parts3 (fuel := 8) (laidMet_of_run' 8 (by kernel_rfl) (by kernel_rfl)) (by kernel_rfl) (by kernel_rfl)
theorem of_laid {W : World} (h : laidMetH Tryd.prog laidL W) : ShaEnv W := by
  rw [MakeChecks.laidMetH_plain _ _ _ (by kernel_rfl)] at h
  obtain ⟨ps, hv, _, hc⟩ := h
  have hrounds : RowIs W 0 (u32s roundsL) := by
    obtain ⟨g, t, cs, fuel, p, hg, ht, hd, hrow⟩ := laid_block hv (n := "cablegram/sha.rounds") (d := Rows.laid_cablegram_sha_rounds) (by simp [laidL]) (fun b off hb => (hc b off hb).1)
    obtain rfl := Option.some.inj ((show Tryd.prog.globalNamed "cablegram/sha.rounds" = some 0 by kernel_rfl).symm.trans hg)
    obtain rfl := Option.some.inj ((show (Tryd.prog.globals[0]?).map (·.type) = some 114 by kernel_rfl).symm.trans ht)
    have e := cells_ints (zs := [1116352408, 1899447441, 3049323471, 3921009573, 961987163, 1508970993, 2453635748, 2870763221, 3624381080, 310598401, 607225278, 1426881987, 1925078388, 2162078206, 2614888103, 3248222580, 3835390401, 4022224774, 264347078, 604807628, 770255983, 1249150122, 1555081692, 1996064986, 2554220882, 2821834349, 2952996808, 3210313671, 3336571891, 3584528711, 113926993, 338241895, 666307205, 773529912, 1294757372, 1396182291, 1695183700, 1986661051, 2177026350, 2456956037, 2730485921, 2820302411, 3259730800, 3345764771, 3516065817, 3600352804, 4094571909, 275423344, 430227734, 506948616, 659060556, 883997877, 958139571, 1322822218, 1537002063, 1747873779, 1955562222, 2024104815, 2227730452, 2361852424, 2428436474, 2756734187, 3204031479, 3329325298]) Tryd.underlying114 Tryd.underlying22 (by kernel_rfl) (by kernel_rfl) hd
    have ec : cs = u32s roundsL := by
      rw [u32s_def]
      unfold roundsL
      cases cs
      simp at e
      simp [e, n32_def]
    rw [← ec]
    exact hrow (by rw [ec, u32s_size, roundsL_length]; omega)
  have hstart : RowIs W 1 (u32s startS) := by
    obtain ⟨g, t, cs, fuel, p, hg, ht, hd, hrow⟩ := laid_block hv (n := "cablegram/sha.start") (d := Rows.laid_cablegram_sha_start) (by simp [laidL]) (fun b off hb => (hc b off hb).1)
    obtain rfl := Option.some.inj ((show Tryd.prog.globalNamed "cablegram/sha.start" = some 1 by kernel_rfl).symm.trans hg)
    obtain rfl := Option.some.inj ((show (Tryd.prog.globals[1]?).map (·.type) = some 23 by kernel_rfl).symm.trans ht)
    have e := cells_ints (zs := [1779033703, 3144134277, 1013904242, 2773480762, 1359893119, 2600822924, 528734635, 1541459225]) Tryd.underlying23 Tryd.underlying22 (by kernel_rfl) (by kernel_rfl) hd
    have ec : cs = u32s startS := by
      rw [u32s_def]
      unfold startS
      cases cs
      simp at e
      simp [e, n32_def]
    rw [← ec]
    exact hrow (by rw [ec, u32s_size, startS_length]; omega)
  exact ⟨hrounds, hstart⟩
end Go.Proofs.YtopmdbmnlflpgaaDoor
