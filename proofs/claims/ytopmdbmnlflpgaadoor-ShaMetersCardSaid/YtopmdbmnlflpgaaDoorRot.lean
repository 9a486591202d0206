/- Words turned round. -/
import Derived.Test.YtopmdbmnlflpgaaDoorFacts
import Derived.Test.YtopmdbmnlflpgaaDoorLex
import Derived.Test.YtopmdbmnlflpgaaDoorRow
import Derived.Deep.LoopGhost
namespace Go.Proofs.YtopmdbmnlflpgaaDoor
open Go.RowKit
@[irreducible] def rotl (x : UInt32) (n : Nat) : UInt32 := (x <<< UInt32.ofNat n) ||| (x >>> UInt32.ofNat (32 - n))
theorem shl32_fold (x : UInt32) (k : Nat) (h : k < 32) : IntKind.u32.wrap (n32 x * 2 ^ k) = n32 (x <<< UInt32.ofNat k) := by
  rw [wrap_u32, n32_def, n32_def, UInt32.toNat_shiftLeft, Nat.shiftLeft_eq, UInt32.toNat_ofNat']
  have e : k % 2 ^ 32 % 32 = k := by omega
  have e2 : ((x.toNat * 2 ^ k : Nat) : Int) = (x.toNat : Int) * 2 ^ k := by push_cast; rfl
  rw [e, ← e2]; omega
theorem shr32_fold (x : UInt32) (k : Nat) (h : k < 32) : n32 x / 2 ^ k = n32 (x >>> UInt32.ofNat k) := by
  rw [n32_def, n32_def, UInt32.toNat_shiftRight, Nat.shiftRight_eq_div_pow, UInt32.toNat_ofNat']
  have e : k % 2 ^ 32 % 32 = k := by omega
  rw [e]; push_cast; rfl
theorem rot_any (x : UInt32) (k : Nat) (w : World) (h0 : 0 < k) (h1 : k < 32) :
    Calls Tryd.prog 91 #[.int .u32 (n32 x), .int .i64 k] w fun e w' => e = .returned (.int .u32 (n32 (rotl x k))) ∧ w' = w := by
  have hk0 : (0 : Int) < k := by omega
  have hk1 : (k : Int) < 32 := by omega
  have ha : bits BinOp.and IntKind.u64 (k : Int) 31 = k := by
    have h : (31 : Int) = n64 31 := by rw [n64_def]; rfl
    have hk : (k : Int) = n64 (UInt64.ofNat k) := by rw [n64_def, UInt64.toNat_ofNat']; omega
    rw [hk, h, u64_and, n64_def, n64_def, UInt64.toNat_and]
    have := Nat.and_two_pow_sub_one_eq_mod (UInt64.ofNat k).toNat 5
    simp at this ⊢
    omega
  have hl := shl32_fold x k h1
  have hr := shr32_fold x (32 - k) (by omega)
  go_enter Tryd.func91, Tryd.ntmps91
  go_wp2
  go_ret
  exact ⟨by unfold rotl; rfl, rfl⟩
theorem rot_at (x : UInt32) (k : Nat) (i : Int) (hi : i = k) (h0 : 0 < k) (h1 : k < 32) (w : World) :
    Calls Tryd.prog 91 #[.int .u32 (n32 x), .int .i64 i] w fun e w' => e = .returned (.int .u32 (n32 (rotl x k))) ∧ w' = w := by
  subst hi; exact rot_any x k w h0 h1
end Go.Proofs.YtopmdbmnlflpgaaDoor
