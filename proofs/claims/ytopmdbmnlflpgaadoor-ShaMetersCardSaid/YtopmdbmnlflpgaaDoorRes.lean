/- Layer 1: what calls hand back, as a reader needs it. -/
import Derived.Test.YtopmdbmnlflpgaaDoorOct2
namespace Go.Proofs.YtopmdbmnlflpgaaDoor
open Go.RowKit
theorem low_res (n : UInt64) (k : Nat) (h1 : 1 ≤ k) (h8 : k ≤ 8) (w : World) : Calls Tryd.prog 93 #[.int .u64 (n64 n), .int .i64 k] w (RdRes w (lowB n k)) := by
  refine (low_any n k h1 h8 w).mono ?_
  rintro e w' ⟨rfl, rfl⟩
  exact ⟨some ⟨w.heap.size, 0, none⟩, k, by rw [lowB_length], by rw [lowB_length]; exact Nat.le_refl _, rd8_new _ _ _, (Below.refl _ _).alloc (Nat.le_refl _) _⟩
theorem high_res (n : UInt64) (k : Nat) (h1 : 1 ≤ k) (h8 : k ≤ 8) (w : World) : Calls Tryd.prog 71 #[.int .u64 (n64 n), .int .i64 k] w (RdRes w (highB n k)) := by
  refine (high_any n k h1 h8 w).mono ?_
  rintro e w' ⟨m, rfl, rfl⟩
  exact ⟨some ⟨w.heap.size, 0, none⟩, k, by rw [highB_length], by rw [highB_length]; exact Nat.le_refl _, (rd8_new _ _ _).drewN' m, below_drewN ((Below.refl _ _).alloc (Nat.le_refl _) _)⟩
/-- two lists held against each other: a world that only drew -/
theorem same_true {A1 A2 : Option Addr} {c1 c2 : Nat} {l1 l2 : List UInt8} (h : l1 = l2) (hc1 : l1.length ≤ c1) (hc2 : l2.length ≤ c2) (hm1 : l1.length ≤ 140737488351232)
    {w : World} (hr1 : Rd8 w w.heap.size A1 l1) (hr2 : Rd8 w w.heap.size A2 l2) :
    Calls Tryd.prog 23 #[.slice A1 l1.length c1, .slice A2 l2.length c2] w fun e w' => e = .returned (.bool true) ∧ ∃ n, w' = w.drewN n := by
  refine (refSame_any A1 A2 c1 c2 l1 l2 hc1 hc2 hm1 (by rw [← h]; exact hm1) w hr1 hr2).mono ?_
  rintro e w' ⟨rfl, n, rfl⟩
  exact ⟨by rw [decide_eq_true h], n, rfl⟩

end Go.Proofs.YtopmdbmnlflpgaaDoor
