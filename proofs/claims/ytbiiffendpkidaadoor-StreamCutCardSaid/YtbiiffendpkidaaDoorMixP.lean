/- Layer 4: what a text is mixed to, as a plain function, and its laws. -/
import Derived.Test.YtbiiffendpkidaaDoorBlock
import Derived.Test.YtbiiffendpkidaaDoorBs
namespace Go.Proofs.YtbiiffendpkidaaDoor
open Go.RowKit
def cAt (ctr : UInt32) (k : Nat) : UInt32 := ctr + UInt32.ofNat k
theorem cAt_zero (ctr : UInt32) : cAt ctr 0 = ctr := by simp [cAt]
theorem cAt_add (ctr : UInt32) (j k : Nat) : cAt (cAt ctr j) k = cAt ctr (j + k) := by
  unfold cAt
  rw [UInt32.add_assoc, ← UInt32.ofNat_add]
@[irreducible] def strmAt (key : List UInt8) (ctr : UInt32) (nonce : List UInt8) (i : Nat) : UInt8 := at8 (blockB key (cAt ctr (i / 64)) nonce) (i % 64)
theorem strmAt_def (key : List UInt8) (ctr : UInt32) (nonce : List UInt8) (i : Nat) : strmAt key ctr nonce i = at8 (blockB key (cAt ctr (i / 64)) nonce) (i % 64) := by unfold strmAt; rfl
@[irreducible] def mixB (key : List UInt8) (ctr : UInt32) (nonce t : List UInt8) : List UInt8 := (List.range t.length).map fun i => at8 t i ^^^ strmAt key ctr nonce i
theorem mixB_def (key : List UInt8) (ctr : UInt32) (nonce t : List UInt8) : mixB key ctr nonce t = (List.range t.length).map fun i => at8 t i ^^^ strmAt key ctr nonce i := by unfold mixB; rfl
section
variable (key : List UInt8) (ctr : UInt32) (nonce : List UInt8)
theorem mixB_length (t : List UInt8) : (mixB key ctr nonce t).length = t.length := by rw [mixB_def]; simp
theorem mixB_at (t : List UInt8) (i : Nat) (h : i < t.length) : at8 (mixB key ctr nonce t) i = at8 t i ^^^ strmAt key ctr nonce i := by rw [mixB_def, at8_map _ _ _ h]
theorem xorB_at (a b : List UInt8) (i : Nat) (h : i < min a.length b.length) : at8 (xorB a b) i = at8 a i ^^^ at8 b i := by unfold xorB; rw [at8_map _ _ _ h]
theorem at8_app (a b : List UInt8) (i : Nat) : at8 (a ++ b) i = if i < a.length then at8 a i else at8 b (i - a.length) := by
  simp only [at8_def, List.getD]
  split
  · rename_i h; rw [List.getElem?_append_left h]
  · rename_i h; rw [List.getElem?_append_right (by omega)]
theorem mix_step (t : List UInt8) (k : Nat) (h : 64 * k ≤ t.length) : (mixB key ctr nonce t).take (64 * k) ++ xorB (t.drop (64 * k)) (blockB key (cAt ctr k) nonce) = (mixB key ctr nonce t).take (64 * (k + 1)) := by
  have h1 : ((mixB key ctr nonce t).take (64 * k)).length = 64 * k := by rw [List.length_take, mixB_length]; omega
  have h2 : (xorB (t.drop (64 * k)) (blockB key (cAt ctr k) nonce)).length = min (t.length - 64 * k) 64 := by rw [xorB_length, List.length_drop, blockB_length]
  refine ext8' (by rw [List.length_append, h1, h2, List.length_take, mixB_length]; omega) fun x hx => ?_
  rw [List.length_append, h1, h2] at hx
  have e : at8 ((mixB key ctr nonce t).take (64 * (k + 1))) x = at8 (mixB key ctr nonce t) x := at8_take _ _ _ (by omega)
  rw [e, at8_app, h1]
  split
  · rename_i hlt; rw [at8_take _ _ _ hlt]
  · rename_i hge
    rw [xorB_at _ _ _ (by rw [List.length_drop, blockB_length]; omega), at8_drop, mixB_at _ _ _ _ _ (by omega), strmAt_def]
    rw [show 64 * k + (x - 64 * k) = x by omega, show x / 64 = k by omega, show x % 64 = x - 64 * k by omega]
theorem mix_all (t : List UInt8) (k : Nat) (h : t.length ≤ 64 * k) : (mixB key ctr nonce t).take (64 * k) = mixB key ctr nonce t := List.take_of_length_le (by rw [mixB_length]; exact h)
theorem mix_twice (t : List UInt8) : mixB key ctr nonce (mixB key ctr nonce t) = t := by
  refine ext8' (by rw [mixB_length, mixB_length]) fun x hx => ?_
  rw [mixB_length, mixB_length] at hx
  rw [mixB_at _ _ _ _ _ (by rw [mixB_length]; exact hx), mixB_at _ _ _ _ _ hx, UInt8.xor_assoc, UInt8.xor_self, UInt8.xor_zero]
theorem mix_further (t : List UInt8) : (mixB key ctr nonce t).drop 64 = mixB key (cAt ctr 1) nonce (t.drop 64) := by
  refine ext8' (by rw [List.length_drop, mixB_length, mixB_length, List.length_drop]) fun x hx => ?_
  rw [List.length_drop, mixB_length] at hx
  rw [at8_drop, mixB_at _ _ _ _ _ (by omega), mixB_at _ _ _ _ _ (by rw [List.length_drop]; omega), at8_drop, strmAt_def, strmAt_def, cAt_add]
  rw [show (64 + x) / 64 = 1 + x / 64 by omega, show (64 + x) % 64 = x % 64 by omega]
theorem mix_cut (t : List UInt8) (k : Nat) (h : k ≤ t.length) : (mixB key ctr nonce t).take k = mixB key ctr nonce (t.take k) := by
  have hk : (t.take k).length = k := by rw [List.length_take]; omega
  refine ext8' (by rw [List.length_take, mixB_length, mixB_length, hk]; omega) fun x hx => ?_
  rw [List.length_take, mixB_length] at hx
  rw [at8_take _ _ _ (by omega), mixB_at _ _ _ _ _ (by omega), mixB_at _ _ _ _ _ (by omega), at8_take _ _ _ (by omega)]
end
end Go.Proofs.YtbiiffendpkidaaDoor
