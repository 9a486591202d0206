/- The document's expansion of a key, plain. No program. -/
import Derived.Test.YtopmdbmnlflpgaaDoorMacR
namespace Go.Proofs.YtopmdbmnlflpgaaDoor
open Go.RowKit
/-- key number k of the row (the first is number 1) -/
def tK (key info : List UInt8) : Nat → List UInt8
  | 0 => []
  | k + 1 => macB key (tK key info k ++ info ++ [UInt8.ofNat (k + 1)])
/-- the first k of them -/
def outK (key info : List UInt8) : Nat → List UInt8
  | 0 => []
  | k + 1 => outK key info k ++ tK key info (k + 1)
theorem tK_length (key info : List UInt8) (k : Nat) : (tK key info (k + 1)).length = 32 := by rw [tK, macB_length]
theorem tK_le (key info : List UInt8) : ∀ k, (tK key info k).length ≤ 32
  | 0 => by simp [tK]
  | k + 1 => by rw [tK_length]; omega
theorem outK_length (key info : List UInt8) : ∀ k, (outK key info k).length = 32 * k
  | 0 => rfl
  | k + 1 => by rw [outK, List.length_append, outK_length key info k, tK_length]; omega
theorem outK_pre (key info : List UInt8) (n k : Nat) (h : n ≤ 32 * k) : ∀ j, (outK key info (k + j)).take n = (outK key info k).take n
  | 0 => rfl
  | j + 1 => by
    rw [show k + (j + 1) = (k + j) + 1 by omega, outK, List.take_append_of_le_length (by rw [outK_length]; omega), outK_pre key info n k h j]
@[irreducible] def expB (key info : List UInt8) (n : Nat) : List UInt8 := (outK key info n).take n
theorem expB_def (key info : List UInt8) (n : Nat) : expB key info n = (outK key info n).take n := by unfold expB; rfl
theorem expB_length (key info : List UInt8) (n : Nat) : (expB key info n).length = n := by rw [expB_def, List.length_take, outK_length]; omega
theorem expB_of (key info : List UInt8) (n k : Nat) (h : n ≤ 32 * k) : (outK key info k).take n = expB key info n := by
  rw [expB_def]
  rcases Nat.le_total k n with hk | hk
  · rw [show n = k + (n - k) by omega, ← show n = k + (n - k) by omega]
    have := outK_pre key info n k h (n - k)
    rw [show k + (n - k) = n by omega] at this
    exact this.symm
  · have := outK_pre key info n n (by omega) (k - n)
    rw [show n + (k - n) = k by omega] at this
    exact this
theorem expB_take (key info : List UInt8) (n m : Nat) (h : n ≤ m) : (expB key info m).take n = expB key info n := by
  rw [expB_def, List.take_take, show min n m = n by omega]
  exact expB_of key info n m (by omega)
end Go.Proofs.YtopmdbmnlflpgaaDoor
