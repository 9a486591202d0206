/- Layer 1 (octets), its bytes and numbers: what each call computes. -/
import Derived.Test.YtlfplikkifjnfaaFacts
import Derived.Deep.LoopGhost
namespace Go.Proofs.Ytlfplikkifjnfaa
open Go.RowKit

def lowB (n : UInt64) (k : Nat) : List UInt8 := (List.range k).map (byteOf n)

def ofLowK (l : List UInt8) : Nat → UInt64
  | 0 => 0
  | k + 1 => ofLowK l k ||| shl8 (at8 l k) k
theorem ofLowK_zero (l : List UInt8) : ofLowK l 0 = 0 := rfl
theorem ofLowK_succ (l : List UInt8) (k : Nat) : ofLowK l k ||| shl8 (at8 l k) k = ofLowK l (k + 1) := rfl

def OfLowSays (l : List UInt8) (w : World) (e : Ending) (w' : World) : Prop := e = .returned (.int .u64 (n64 (ofLowK l (min l.length 8)))) ∧ w = w'
def ofHighK (l : List UInt8) : Nat → UInt64
  | 0 => 0
  | k + 1 => (ofHighK l k <<< 8) ||| up8 (at8 l k)
theorem shl8_64 (x : UInt64) : IntKind.u64.wrap (n64 x * (256 : Int)) = n64 (x <<< 8) := by
  rw [wrap_u64, n64_def, n64_def, UInt64.toNat_shiftLeft, Nat.shiftLeft_eq]
  have : (8 : UInt64).toNat % 64 = 8 := by decide
  rw [this]; omega
theorem shl8_64' (x : UInt64) : n64 x * (256 : Int) % (18446744073709551616 : Int) = n64 (x <<< 8) := by rw [← shl8_64, wrap_u64]
theorem or_up8 (x : UInt64) (b : UInt8) : bits .or .u64 (n64 x) (n8 b) = n64 (x ||| up8 b) := by rw [← up8_fold, u64_or]
attribute [local go_sem] shl8_64 shl8_64' or_up8
def OfHighSays (l : List UInt8) (w : World) (e : Ending) (w' : World) : Prop := e = .returned (.int .u64 (n64 (ofHighK l (min l.length 8)))) ∧ w = w'
def xorB (a b : List UInt8) : List UInt8 := (List.range (min a.length b.length)).map fun i => at8 a i ^^^ at8 b i
theorem xorB_zero {a b : List UInt8} (h : a.length = b.length) : (∀ i, i < a.length → at8 (xorB a b) i = 0) ↔ a = b := by
  have hm : ∀ i, i < a.length → at8 (xorB a b) i = at8 a i ^^^ at8 b i := fun i hi => at8_map _ _ (fun i => at8 a i ^^^ at8 b i) (by omega)
  constructor
  · intro hz
    refine ext8' h fun i hi => ?_
    have := hz i hi
    rw [hm i hi] at this
    exact UInt8.xor_eq_zero_iff.1 this
  · rintro rfl i hi
    rw [hm i hi]; simp
theorem xorB_length (a b : List UInt8) : (xorB a b).length = min a.length b.length := by simp [xorB]
/-- the bytes of a list, or'ed up to k -/
def orK (l : List UInt8) : Nat → UInt8
  | 0 => 0
  | k + 1 => orK l k ||| at8 l k
theorem orK_zero (l : List UInt8) (k : Nat) : orK l k = 0 ↔ ∀ i, i < k → at8 l i = 0 := by
  induction k with
  | zero => simp [orK]
  | succ k ih =>
    rw [orK, UInt8.or_eq_zero_iff, ih]
    constructor
    · rintro ⟨h1, h2⟩ i hi
      by_cases e : i = k
      · subst e; exact h2
      · exact h1 i (by omega)
    · intro h
      exact ⟨fun i hi => h i (by omega), h k (by omega)⟩
def SameSays (l1 l2 : List UInt8) (w : World) (e : Ending) (w' : World) : Prop := e = .returned (.bool (decide (l1 = l2))) ∧ Below w.heap.size w w'
end Go.Proofs.Ytlfplikkifjnfaa
