/- A quarter loses nothing: the plain law. -/
import Derived.Test.YtbiiffendpkidaaDoorStream
import Derived.Test.YtbiiffendpkidaaDoorEq
namespace Go.Proofs.YtbiiffendpkidaaDoor
open Go.RowKit
theorem rotl_bit (x : UInt32) (n i : Nat) (h0 : 0 < n) (h1 : n < 32) (hi : i < 32) : (rotl x n).toNat.testBit ((i + n) % 32) = x.toNat.testBit i := by
  have hx : x.toNat < 2 ^ 32 := x.toNat_lt
  have big : ∀ j, 32 ≤ j → x.toNat.testBit j = false := fun j hj => Nat.testBit_lt_two_pow (Nat.lt_of_lt_of_le hx (Nat.pow_le_pow_right (by omega) hj))
  unfold rotl
  rw [UInt32.toNat_or, Nat.testBit_or, UInt32.toNat_shiftLeft, UInt32.toNat_shiftRight, UInt32.toNat_ofNat', UInt32.toNat_ofNat', Nat.testBit_mod_two_pow, Nat.testBit_shiftLeft, Nat.testBit_shiftRight]
  have e1 : n % 2 ^ 32 % 32 = n := by omega
  have e2 : (32 - n) % 2 ^ 32 % 32 = 32 - n := by omega
  rw [e1, e2]
  by_cases hc : i + n < 32
  · have e3 : (i + n) % 32 = i + n := by omega
    rw [e3, big (32 - n + (i + n)) (by omega), Nat.add_sub_cancel]
    simp [hc]
  · have e3 : (i + n) % 32 = i + n - 32 := by omega
    have e4 : 32 - n + (i + n - 32) = i := by omega
    have e5 : ¬ (n ≤ i + n - 32) := by omega
    rw [e3, e4]
    simp [e5]
theorem rotl_inj (x y : UInt32) (n : Nat) (h0 : 0 < n) (h1 : n < 32) (h : rotl x n = rotl y n) : x = y := by
  apply UInt32.toNat_inj.1
  apply Nat.eq_of_testBit_eq
  intro i
  by_cases hi : i < 32
  · rw [← rotl_bit x n i h0 h1 hi, ← rotl_bit y n i h0 h1 hi, h]
  · rw [Nat.testBit_lt_two_pow (Nat.lt_of_lt_of_le x.toNat_lt (Nat.pow_le_pow_right (by omega) (by omega))), Nat.testBit_lt_two_pow (Nat.lt_of_lt_of_le y.toNat_lt (Nat.pow_le_pow_right (by omega) (by omega)))]
theorem at32_set' (l : List UInt32) (i j : Nat) (b : UInt32) (h : i < l.length) : at32 (l.set i b) j = if i = j then b else at32 l j := by
  simp only [at32_def, List.getD, List.getElem?_set]
  split <;> simp_all
theorem q1_inj (v w : List UInt32) (a b : Nat) (hl : v.length = w.length) (ha : a < v.length) (hab : a ≠ b) (h : q1 v a b = q1 w a b) : v = w := by
  rw [← q1_def, ← q1_def] at h
  have g : ∀ i, a ≠ i → at32 v i = at32 w i := fun i hi => by
    have := congrArg (fun l => at32 l i) h
    simpa [at32_set' v a i _ ha, at32_set' w a i _ (by omega), hi] using this
  have ga : at32 v a = at32 w a := by
    have := congrArg (fun l => at32 l a) h
    simp only [at32_set' v a a _ ha, at32_set' w a a _ (by omega), if_true] at this
    rw [g b hab] at this
    have h3 := congrArg (fun z => z - at32 w b) this
    simpa [UInt32.add_sub_cancel] using h3
  refine ext32 hl fun x _ => ?_
  by_cases hx : a = x
  · subst hx; exact ga
  · exact g x hx
theorem q2_inj (v w : List UInt32) (d a t : Nat) (h0 : 0 < t) (h1 : t < 32) (hl : v.length = w.length) (hd : d < v.length) (hda : d ≠ a) (h : q2 v d a t = q2 w d a t) : v = w := by
  rw [← q2_def, ← q2_def] at h
  have g : ∀ i, d ≠ i → at32 v i = at32 w i := fun i hi => by
    have := congrArg (fun l => at32 l i) h
    simpa [at32_set' v d i _ hd, at32_set' w d i _ (by omega), hi] using this
  have ga : at32 v d = at32 w d := by
    have := congrArg (fun l => at32 l d) h
    simp only [at32_set' v d d _ hd, at32_set' w d d _ (by omega), if_true] at this
    rw [g a hda] at this
    have h2 := rotl_inj _ _ t h0 h1 this
    have h3 := congrArg (fun z => z ^^^ at32 w a) h2
    simpa [UInt32.xor_assoc] using h3
  refine ext32 hl fun x _ => ?_
  by_cases hx : d = x
  · subst hx; exact ga
  · exact g x hx
theorem qhalf_inj (v w : List UInt32) (a b c d t1 t2 : Nat) (h1 : 0 < t1) (h2 : t1 < 32) (h3 : 0 < t2) (h4 : t2 < 32) (hl : v.length = w.length) (ha : a < v.length) (hb : b < v.length) (hc : c < v.length) (hd : d < v.length)
    (hab : a ≠ b) (hda : d ≠ a) (hcd : c ≠ d) (hbc : b ≠ c) (h : qhalf v a b c d t1 t2 = qhalf w a b c d t1 t2) : v = w := by
  rw [← qhalf_def, ← qhalf_def] at h
  have e1 := q2_inj _ _ b c t2 h3 h4 (by simp only [q1_len, q2_len]; exact hl) (by simp only [q1_len, q2_len]; exact hb) hbc h
  have e2 := q1_inj _ _ c d (by simp only [q1_len, q2_len]; exact hl) (by simp only [q1_len, q2_len]; exact hc) hcd e1
  have e3 := q2_inj _ _ d a t1 h1 h2 (by simp only [q1_len, q2_len]; exact hl) (by simp only [q1_len, q2_len]; exact hd) hda e2
  exact q1_inj _ _ a b hl ha hab e3
theorem quarter_inj (v w : List UInt32) (a b c d : Nat) (hl : v.length = w.length) (ha : a < v.length) (hb : b < v.length) (hc : c < v.length) (hd : d < v.length)
    (hab : a ≠ b) (hda : d ≠ a) (hcd : c ≠ d) (hbc : b ≠ c) : (quarter v a b c d = quarter w a b c d) ↔ v = w := by
  constructor
  · intro h
    unfold quarter at h
    have e1 := qhalf_inj _ _ a b c d 8 7 (by omega) (by omega) (by omega) (by omega) (by simp only [qhalf_len]; exact hl) (by simp only [qhalf_len]; exact ha) (by simp only [qhalf_len]; exact hb) (by simp only [qhalf_len]; exact hc) (by simp only [qhalf_len]; exact hd) hab hda hcd hbc h
    exact qhalf_inj _ _ a b c d 16 12 (by omega) (by omega) (by omega) (by omega) hl ha hb hc hd hab hda hcd hbc e1
  · rintro rfl; rfl
end Go.Proofs.YtbiiffendpkidaaDoor
