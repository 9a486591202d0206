/- Layer 1: numbers of bytes, bytes of numbers, of any size; what is written is read again. -/
import Derived.Test.YtopmdbmnlflpgaaDoorRes
import Derived.Test.YtopmdbmnlflpgaaDoorVal
import Derived.Test.YtopmdbmnlflpgaaDoorOpen
namespace Go.Proofs.YtopmdbmnlflpgaaDoor
open Go.RowKit

/-! ### any size -/
def lowX (n : UInt64) (k : Int) : List UInt8 := if k ≤ 8 then lowB n k.toNat else []
theorem lowX_length (n : UInt64) (k : Int) : (lowX n k).length ≤ 8 := by
  unfold lowX; split
  · rw [lowB_length]; omega
  · simp
theorem rdRes_nil (w : World) (l : List UInt8) (h : l = []) : RdRes w l (.returned (.slice none 0 0)) w := by
  subst h; exact ⟨none, 0, rfl, by simp, Rd8.nil _ _ _, Below.refl _ _⟩
theorem low_num (n : UInt64) (k : Int) (w : World) : Calls Tryd.prog 93 #[.int .u64 (n64 n), .int .i64 k] w (RdRes w (lowX n k)) := by
  by_cases h1 : k < 1
  · have e : lowX n k = [] := by
      unfold lowX; rw [if_pos (by omega), show k.toNat = 0 by omega]; rfl
    rw [e]
    go_enter Tryd.func93, Tryd.ntmps93
    go_wp2
    go_ret
    exact rdRes_nil _ _ rfl
  · by_cases h8 : k ≤ 8
    · obtain ⟨m, rfl⟩ : ∃ m : Nat, k = m := ⟨k.toNat, by omega⟩
      have e : lowX n m = lowB n m := by unfold lowX; rw [if_pos h8]; rfl
      rw [e]
      exact low_res n m (by omega) (by omega) w
    · have e : lowX n k = [] := by unfold lowX; rw [if_neg h8]
      have h8' : 8 < k := by omega
      rw [e]
      clear h8
      go_enter Tryd.func93, Tryd.ntmps93
      go_wp2
      go_ret
      exact rdRes_nil _ _ rfl
set_option maxHeartbeats 400000 in
theorem reverse_nil (w : World) : Calls Tryd.prog 94 #[.slice none 0 0] w fun e w' => e = .returned (.tuple #[]) ∧ ∃ k, w' = w.drewN k := by
  go_enter Tryd.func94, Tryd.ntmps94
  go_wp2
  go_loopw [2, 3] (fun i j wr => i = .int .i64 0 ∧ j = .int .i64 (-1) ∧ ∃ k, wr = w.drewN k) (fun _ _ _ => 0)
  case atStart => exact ⟨rfl, rfl, 0, rfl⟩
  case round =>
    obtain ⟨rfl, rfl, k, rfl⟩ := hrel
    go_wp2
    go_end0
    exact ⟨rfl, k, rfl⟩
theorem high_num (n : UInt64) (k : Int) (w : World) : Calls Tryd.prog 71 #[.int .u64 (n64 n), .int .i64 k] w (RdRes w (lowX n k).reverse) := by
  by_cases hk : 1 ≤ k ∧ k ≤ 8
  · obtain ⟨m, rfl⟩ : ∃ m : Nat, k = m := ⟨k.toNat, by omega⟩
    have e : (lowX n m).reverse = highB n m := by unfold lowX; rw [if_pos hk.2]; rfl
    rw [e]
    exact high_res n m (by omega) (by omega) w
  · have e : (lowX n k) = [] := by
      unfold lowX
      split
      · rw [show k.toNat = 0 by omega]; rfl
      · rfl
    have hl := fun w => low_num n k w
    rw [e] at hl
    have hl' : ∀ w, Calls Tryd.prog 93 #[.int .u64 (n64 n), .int .i64 k] w fun e w' => e = .returned (.slice none 0 0) ∧ w' = w := by
      intro w
      by_cases h1 : k < 1
      · go_enter Tryd.func93, Tryd.ntmps93
        go_wp2
        go_ret
        exact ⟨rfl, rfl⟩
      · have h8 : 8 < k := by omega
        clear hk
        go_enter Tryd.func93, Tryd.ntmps93
        go_wp2
        go_ret
        exact ⟨rfl, rfl⟩
    have HL := Lib.hid hl'
    rw [e]
    clear hl hl' hk e
    go_enter Tryd.func71, Tryd.ntmps71
    go_wp2_with (go_at_call 93; refine (HL.out _).mono ?_; rintro e w1 ⟨rfl, rfl⟩)
    go_wp2_with (go_at_call 94; refine (reverse_nil _).mono ?_; rintro e w1 ⟨rfl, n, rfl⟩)
    go_ret
    exact ⟨none, 0, rfl, by simp, Rd8.nil _ _ _, below_drewN (Below.refl _ _)⟩
theorem refLow_num (n : UInt64) (k : Int) (w : World) : Calls Tryd.prog 95 #[.int .u64 (n64 n), .int .i64 k] w (OwnRes 5 w (lowX n k)) := by
  by_cases h8 : k ≤ 8
  · have e : lowX n k = lowB n k.toNat := by unfold lowX; rw [if_pos h8]
    rw [e]; exact refLow_any n k w h8
  · have e : lowX n k = [] := by unfold lowX; rw [if_neg h8]
    have h8' : 8 < k := by omega
    rw [e]
    clear h8 e
    go_enter Tryd.func95, Tryd.ntmps95
    go_wp2
    go_ret
    exact OwnRes.mk (Own8.nil _ _ _) (Below.refl _ _)
set_option maxHeartbeats 400000 in
theorem refHigh_num (n : UInt64) (k : Int) (w : World) : Calls Tryd.prog 73 #[.int .u64 (n64 n), .int .i64 k] w (OwnRes 5 w (lowX n k).reverse) := by
  by_cases h8 : k ≤ 8
  · have e : (lowX n k).reverse = highB n k.toNat := by unfold lowX; rw [if_pos h8]; rfl
    rw [e]; exact refHigh_any n k w h8
  · have e : (lowX n k).reverse = [] := by unfold lowX; rw [if_neg h8]; rfl
    have h8' : 8 < k := by omega
    have hl' : ∀ w, Calls Tryd.prog 95 #[.int .u64 (n64 n), .int .i64 k] w fun e w' => e = .returned (.slice none 0 0) ∧ w' = w := by
      intro w
      clear h8 e
      go_enter Tryd.func95, Tryd.ntmps95
      go_wp2
      go_ret
      exact ⟨rfl, rfl⟩
    have HL := Lib.hid hl'
    rw [e]
    clear h8 e hl'
    go_enter Tryd.func73, Tryd.ntmps73
    go_wp2_with (go_at_call 95; refine (HL.out _).mono ?_; rintro e w1 ⟨rfl, rfl⟩)
    go_loop [6, 7] (fun v i => v = .slice none 0 0 ∧ i = .int .i64 (-1)) (fun _ _ => 0)
    case atStart => exact ⟨rfl, rfl⟩
    case round =>
      obtain ⟨rfl, rfl⟩ := hrel
      go_wp2
      go_ret
      exact OwnRes.mk (Own8.nil _ _ _) (Below.refl _ _)
end Go.Proofs.YtopmdbmnlflpgaaDoor
