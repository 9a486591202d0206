/- Layer 1: numbers of bytes, bytes of numbers, of any size; what is written is read again. -/
import Derived.Test.YtojnjaedfbokmaaAwake1
import Derived.Test.YtojnjaedfbokmaaOpen
namespace Go.Proofs.Ytojnjaedfbokmaa
open Go.RowKit

/-! ### the plain law -/
def lowV (l : List UInt8) : Nat → Nat
  | 0 => 0
  | k + 1 => lowV l k + (at8 l k).toNat * 2 ^ (8 * k)
def highV (l : List UInt8) : Nat → Nat
  | 0 => 0
  | k + 1 => highV l k * 256 + (at8 l k).toNat
theorem lowV_lt (l : List UInt8) (k : Nat) : lowV l k < 2 ^ (8 * k) := by
  induction k with
  | zero => simp [lowV]
  | succ k ih =>
    rw [lowV, show 8 * (k + 1) = 8 * k + 8 by omega, Nat.pow_add]
    have := (at8 l k).toNat_lt
    have h : (at8 l k).toNat * 2 ^ (8 * k) ≤ 255 * 2 ^ (8 * k) := Nat.mul_le_mul_right _ (by omega)
    generalize 2 ^ (8 * k) = m at *
    omega
theorem highV_lt (l : List UInt8) (k : Nat) : highV l k < 2 ^ (8 * k) := by
  induction k with
  | zero => simp [highV]
  | succ k ih =>
    rw [highV, show 8 * (k + 1) = 8 * k + 8 by omega, Nat.pow_add]
    have := (at8 l k).toNat_lt
    generalize 2 ^ (8 * k) = m at *
    omega
theorem pow8_le {k : Nat} (h : k ≤ 8) : 2 ^ (8 * k) ≤ 18446744073709551616 := by
  have : 2 ^ (8 * k) ≤ 2 ^ 64 := Nat.pow_le_pow_right (by omega) (by omega)
  simpa using this
theorem ofLowK_val (l : List UInt8) (k : Nat) (h : k ≤ 8) : (ofLowK l k).toNat = lowV l k := by
  induction k with
  | zero => rfl
  | succ k ih =>
    have hk := lowV_lt l k
    have hs : (shl8 (at8 l k) k).toNat = (at8 l k).toNat * 2 ^ (8 * k) := by
      unfold shl8
      rw [UInt64.toNat_ofNat']
      have h1 := lowV_lt l (k + 1)
      have h2 := pow8_le h
      rw [lowV] at h1
      exact Nat.mod_eq_of_lt (by omega)
    rw [ofLowK, UInt64.toNat_or, ih (by omega), hs, lowV, Nat.or_comm, Nat.mul_comm, ← Nat.two_pow_add_eq_or_of_lt hk, Nat.add_comm]
theorem up8_val (b : UInt8) : (up8 b).toNat = b.toNat := by
  unfold up8; rw [UInt64.toNat_ofNat']; exact Nat.mod_eq_of_lt (by have := b.toNat_lt; omega)
theorem ofHighK_val (l : List UInt8) (k : Nat) (h : k ≤ 8) : (ofHighK l k).toNat = highV l k := by
  induction k with
  | zero => rfl
  | succ k ih =>
    have h1 := highV_lt l (k + 1)
    have h2 := pow8_le h
    have hb := (at8 l k).toNat_lt
    rw [highV] at h1
    rw [ofHighK, UInt64.toNat_or, UInt64.toNat_shiftLeft, ih (by omega), up8_val, highV, Nat.shiftLeft_eq]
    have e8 : (8 : UInt64).toNat % 64 = 8 := by decide
    rw [e8]
    have hm : highV l k * 2 ^ 8 % 2 ^ 64 = 2 ^ 8 * highV l k := by omega
    rw [hm, ← Nat.two_pow_add_eq_or_of_lt (i := 8) (by omega)]
    omega
theorem numK_val (l : List UInt8) (k : Nat) (h : k ≤ 8) : (numK l k).toNat = highV l k := by
  induction k with
  | zero => rfl
  | succ k ih =>
    have h1 := highV_lt l (k + 1)
    have h2 := pow8_le h
    rw [highV] at h1
    rw [numK, UInt64.toNat_add, UInt64.toNat_mul, ih (by omega), up8_val, highV]
    have e : (256 : UInt64).toNat = 256 := by decide
    rw [e]
    omega
theorem high_turned {r l : List UInt8} {m : Nat} : ∀ k, k ≤ m → (∀ i, i < k → at8 r i = at8 l (m - 1 - i)) → highV r k * 2 ^ (8 * (m - k)) + lowV l (m - k) = lowV l m := by
  intro k
  induction k with
  | zero => intro _ _; simp [highV]
  | succ k ih =>
    intro hk ha
    rw [← ih (by omega) (fun i hi => ha i (by omega))]
    obtain ⟨j, hj⟩ : ∃ j, m - k = j + 1 := ⟨m - k - 1, by omega⟩
    rw [hj, show m - (k + 1) = j by omega, highV, lowV, ha k (by omega), show m - 1 - k = j by omega, show 8 * (j + 1) = 8 * j + 8 by omega, Nat.pow_add]
    generalize 2 ^ (8 * j) = p
    rw [show (2 : Nat) ^ 8 = 256 by rfl, Nat.add_mul, Nat.mul_assoc, Nat.mul_comm 256 p]
    omega
theorem high_turned' {r l : List UInt8} {m : Nat} (h : ∀ i, i < m → at8 r i = at8 l (m - 1 - i)) : highV r m = lowV l m := by
  have := high_turned m (Nat.le_refl m) h
  simpa [lowV] using this
theorem lowV_lowB (n : UInt64) (k : Nat) : ∀ j, j ≤ k → lowV (lowB n k) j = n.toNat % 2 ^ (8 * j) := by
  intro j
  induction j with
  | zero => intro _; simp [lowV, Nat.mod_one]
  | succ j ih =>
    intro hj
    rw [lowV, ih (by omega)]
    have e : at8 (lowB n k) j = byteOf n j := at8_map k j (byteOf n) (by omega)
    have e2 : (byteOf n j).toNat = n.toNat / 2 ^ (8 * j) % 256 := by unfold byteOf; rw [UInt8.toNat_ofNat']
    rw [e, e2, show 8 * (j + 1) = 8 * j + 8 by omega, Nat.pow_add, Nat.mod_mul, Nat.mul_comm (2 ^ (8 * j))]
theorem ofLow_lowB (n : UInt64) (k : Nat) (h8 : k ≤ 8) (hn : n.toNat < 2 ^ (8 * k)) : ofLowK (lowB n k) k = n := by
  apply UInt64.toNat_inj.1
  rw [ofLowK_val _ _ h8, lowV_lowB n k k (Nat.le_refl _), Nat.mod_eq_of_lt hn]
theorem ofHigh_highB (n : UInt64) (k : Nat) (h8 : k ≤ 8) (hn : n.toNat < 2 ^ (8 * k)) : ofHighK (highB n k) k = n := by
  apply UInt64.toNat_inj.1
  rw [ofHighK_val _ _ h8, high_turned' (l := lowB n k), lowV_lowB n k k (Nat.le_refl _), Nat.mod_eq_of_lt hn]
  intro i hi
  unfold highB
  rw [at8_reverse _ _ (by rw [lowB_length]; exact hi), lowB_length]
theorem ofLow_ref (l : List UInt8) : numK (l.take 8).reverse (min l.length 8) = ofLowK l (min l.length 8) := by
  apply UInt64.toNat_inj.1
  have h8 : min l.length 8 ≤ 8 := by omega
  rw [ofLowK_val _ _ h8, numK_val _ _ h8]
  apply high_turned'
  intro i hi
  have e : (l.take 8).length = min l.length 8 := by simp; omega
  rw [at8_reverse _ _ (by omega), e, at8_take _ _ _ (by omega)]
theorem ofHigh_ref (l : List UInt8) : numK l (min l.length 8) = ofHighK l (min l.length 8) := by
  apply UInt64.toNat_inj.1
  have h8 : min l.length 8 ≤ 8 := by omega
  rw [ofHighK_val _ _ h8, numK_val _ _ h8]

/-! ### any size -/
def lowX (n : UInt64) (k : Int) : List UInt8 := if k ≤ 8 then lowB n k.toNat else []
theorem lowX_length (n : UInt64) (k : Int) : (lowX n k).length ≤ 8 := by
  unfold lowX; split
  · rw [lowB_length]; omega
  · simp
theorem rdRes_nil (w : World) (l : List UInt8) (h : l = []) : RdRes w l (.returned (.slice none 0 0)) w := by
  subst h; exact ⟨none, 0, rfl, by simp, Rd8.nil _ _ _, Below.refl _ _⟩
theorem low_num (n : UInt64) (k : Int) (w : World) : Calls Try.prog 16 #[.int .u64 (n64 n), .int .i64 k] w (RdRes w (lowX n k)) := by
  by_cases h1 : k < 1
  · have e : lowX n k = [] := by
      unfold lowX; rw [if_pos (by omega), show k.toNat = 0 by omega]; rfl
    rw [e]
    go_enter Try.func16, Try.ntmps16
    go_wp2
    go_ret
    exact rdRes_nil _ _ rfl
  · by_cases h8 : k ≤ 8
    · obtain ⟨m, rfl⟩ : ∃ m : Nat, k = m := ⟨k.toNat, by omega⟩
      have e : lowX n m = lowB n m := by unfold lowX; rw [if_pos h8]; rfl
      rw [e]
      exact low_res n m (by omega) (by omega) w
    · have e : lowX n k = [] := by unfold lowX; rw [if_neg h8]
      have h8' : 8 < k := by omega
      rw [e]
      clear h8
      go_enter Try.func16, Try.ntmps16
      go_wp2
      go_ret
      exact rdRes_nil _ _ rfl
set_option maxHeartbeats 400000 in
theorem reverse_nil (w : World) : Calls Try.prog 35 #[.slice none 0 0] w fun e w' => e = .returned (.tuple #[]) ∧ ∃ k, w' = w.drewN k := by
  go_enter Try.func35, Try.ntmps35
  go_wp2
  go_loopw [2, 3] (fun i j wr => i = .int .i64 0 ∧ j = .int .i64 (-1) ∧ ∃ k, wr = w.drewN k) (fun _ _ _ => 0)
  case atStart => exact ⟨rfl, rfl, 0, rfl⟩
  case round =>
    obtain ⟨rfl, rfl, k, rfl⟩ := hrel
    go_wp2
    go_end0
    exact ⟨rfl, k, rfl⟩
theorem high_num (n : UInt64) (k : Int) (w : World) : Calls Try.prog 15 #[.int .u64 (n64 n), .int .i64 k] w (RdRes w (lowX n k).reverse) := by
  by_cases hk : 1 ≤ k ∧ k ≤ 8
  · obtain ⟨m, rfl⟩ : ∃ m : Nat, k = m := ⟨k.toNat, by omega⟩
    have e : (lowX n m).reverse = highB n m := by unfold lowX; rw [if_pos hk.2]; rfl
    rw [e]
    exact high_res n m (by omega) (by omega) w
  · have e : (lowX n k) = [] := by
      unfold lowX
      split
      · rw [show k.toNat = 0 by omega]; rfl
      · rfl
    have hl := fun w => low_num n k w
    rw [e] at hl
    have hl' : ∀ w, Calls Try.prog 16 #[.int .u64 (n64 n), .int .i64 k] w fun e w' => e = .returned (.slice none 0 0) ∧ w' = w := by
      intro w
      by_cases h1 : k < 1
      · go_enter Try.func16, Try.ntmps16
        go_wp2
        go_ret
        exact ⟨rfl, rfl⟩
      · have h8 : 8 < k := by omega
        clear hk
        go_enter Try.func16, Try.ntmps16
        go_wp2
        go_ret
        exact ⟨rfl, rfl⟩
    have HL := Lib.hid hl'
    rw [e]
    clear hl hl' hk e
    go_enter Try.func15, Try.ntmps15
    go_wp2_with (go_at_call 16; refine (HL.out _).mono ?_; rintro e w1 ⟨rfl, rfl⟩)
    go_wp2_with (go_at_call 35; refine (reverse_nil _).mono ?_; rintro e w1 ⟨rfl, n, rfl⟩)
    go_ret
    exact ⟨none, 0, rfl, by simp, Rd8.nil _ _ _, below_drewN (Below.refl _ _)⟩
theorem refLow_num (n : UInt64) (k : Int) (w : World) : Calls Try.prog 21 #[.int .u64 (n64 n), .int .i64 k] w (OwnRes 5 w (lowX n k)) := by
  by_cases h8 : k ≤ 8
  · have e : lowX n k = lowB n k.toNat := by unfold lowX; rw [if_pos h8]
    rw [e]; exact refLow_any n k w h8
  · have e : lowX n k = [] := by unfold lowX; rw [if_neg h8]
    have h8' : 8 < k := by omega
    rw [e]
    clear h8 e
    go_enter Try.func21, Try.ntmps21
    go_wp2
    go_ret
    exact OwnRes.mk (Own8.nil _ _ _) (Below.refl _ _)
set_option maxHeartbeats 400000 in
theorem refHigh_num (n : UInt64) (k : Int) (w : World) : Calls Try.prog 22 #[.int .u64 (n64 n), .int .i64 k] w (OwnRes 5 w (lowX n k).reverse) := by
  by_cases h8 : k ≤ 8
  · have e : (lowX n k).reverse = highB n k.toNat := by unfold lowX; rw [if_pos h8]; rfl
    rw [e]; exact refHigh_any n k w h8
  · have e : (lowX n k).reverse = [] := by unfold lowX; rw [if_neg h8]; rfl
    have h8' : 8 < k := by omega
    have hl' : ∀ w, Calls Try.prog 21 #[.int .u64 (n64 n), .int .i64 k] w fun e w' => e = .returned (.slice none 0 0) ∧ w' = w := by
      intro w
      clear h8 e
      go_enter Try.func21, Try.ntmps21
      go_wp2
      go_ret
      exact ⟨rfl, rfl⟩
    have HL := Lib.hid hl'
    rw [e]
    clear h8 e hl'
    go_enter Try.func22, Try.ntmps22
    go_wp2_with (go_at_call 21; refine (HL.out _).mono ?_; rintro e w1 ⟨rfl, rfl⟩)
    go_loop [6, 7] (fun v i => v = .slice none 0 0 ∧ i = .int .i64 (-1)) (fun _ _ => 0)
    case atStart => exact ⟨rfl, rfl⟩
    case round =>
      obtain ⟨rfl, rfl⟩ := hrel
      go_wp2
      go_ret
      exact OwnRes.mk (Own8.nil _ _ _) (Below.refl _ _)
end Go.Proofs.Ytojnjaedfbokmaa
