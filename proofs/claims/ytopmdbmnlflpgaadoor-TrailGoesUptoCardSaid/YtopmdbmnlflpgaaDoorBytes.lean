/- Layer 1, the document's: a key's bytes. -/
import Derived.Test.YtopmdbmnlflpgaaDoorOct2
import Derived.Test.YtopmdbmnlflpgaaDoorKeyT
import Derived.Test.YtopmdbmnlflpgaaDoorBs
namespace Go.Proofs.YtopmdbmnlflpgaaDoor
open Go.RowKit
set_option maxHeartbeats 800000 in
theorem bytes_any (l : List UInt8) (hl : l.length = 32) (w : World) :
    Calls Tryd.prog 80 #[.agg (u8s l)] w (OwnRes 5 w l) := by
  go_enter Tryd.func80, Tryd.ntmps80
  go_wp2_with fail
  go_loopw [3, 4] (fun v i wr => ∃ j : Nat, j ≤ 32 ∧ i = .int .i64 j ∧ RowIs wr w.heap.size (u8s l) ∧ Own8 5 wr (w.heap.size + 1) v (l.take j) ∧ Below w.heap.size w wr) (fun _ i _ => 32 - (intOf i).toNat)
  case atStart => exact ⟨0, by omega, rfl, RowIs.new _ _ _, Own8.nil _ _ _, (Below.refl _ _).alloc (Nat.le_refl _) _⟩
  case round =>
    obtain ⟨j, hj, rfl, hrow, hown, hb⟩ := hrel
    have hsz : w.heap.size ≤ wr.heap.size := hb.size
    have hlt := hrow.lt
    by_cases hlt32 : j < 32
    · have hj0 : (0 : Int) ≤ (j : Int) := by omega
      have hj1 : (j : Int) < 32 := by omega
      have hck : wr.cell? ⟨w.heap.size, j, none⟩ = some (.int .u8 (n8 (at8 l j))) := by
        obtain ⟨t, ht⟩ := hrow.row.heap
        rw [hrow.has] at ht
        rw [cell_of_row _ _ j _ t (0, 0) ht]
        exact u8s_get l j (by omega)
      have ha := hrow.has
      have hr := hrow.row
      have HROW := Lib.hid hrow
      have HB := Lib.hid hb
      clear hrow hb
      go_wp2_with ((at_builtin; refine wpList_append8 Tryd.underlying27 Tryd.info8 (by rfl) (.tmp 9) (.tmp 13) (by rfl) (w.heap.size + 1) _ (l.take j) (by rfl) (hown.alloc _) wr.heap.size (at8 l j) (by rfl) (by go_simp) (by simp; omega) (by simp; omega) ?_; intro g2 cap w2 hown1 hg1 hat1 hlt1))
      refine ⟨⟨j + 1, by omega, by go_num, (HROW.out.alloc _).below (below_append (Below.refl _ _) (hown.alloc _) hg1 (Nat.le_refl _) (by simp; omega)) (by omega), ?_, below_append (HB.out.alloc (by omega) _) (hown.alloc _) hg1 (by omega) (by simp; omega)⟩, by simp [intOf]; omega⟩
      rw [take_succ8 _ _ (by omega)]
      have e : (l.take j).length = j := by simp; omega
      rw [e] at hown1
      exact hown1
    · go_wp2_with fail
      go_ret
      rw [List.take_of_length_le (by omega)] at hown
      exact OwnRes.mk (hown.more (by omega)) hb
end Go.Proofs.YtopmdbmnlflpgaaDoor
