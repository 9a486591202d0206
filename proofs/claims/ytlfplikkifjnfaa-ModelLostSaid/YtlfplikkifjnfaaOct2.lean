/- Layer 1: turning bytes round, and the document's answers. -/
import Derived.Test.YtlfplikkifjnfaaOct
import Derived.Test.YtlfplikkifjnfaaLex
import Derived.RegionTactic
import Derived.BigRegion
import Derived.ChangeAlike
namespace Go.Proofs.Ytlfplikkifjnfaa
open Go.RowKit

/-- k steps of turning a list round -/
def revK (l : List UInt8) (k : Nat) : List UInt8 := (List.range l.length).map fun x => if x < k ∨ l.length - 1 - x < k then at8 l (l.length - 1 - x) else at8 l x
theorem revK_length (l : List UInt8) (k : Nat) : (revK l k).length = l.length := by simp [revK]
theorem revK_at (l : List UInt8) (k x : Nat) (h : x < l.length) : at8 (revK l k) x = if x < k ∨ l.length - 1 - x < k then at8 l (l.length - 1 - x) else at8 l x :=
  at8_map _ _ (fun x => if x < k ∨ l.length - 1 - x < k then at8 l (l.length - 1 - x) else at8 l x) h
theorem revK_zero (l : List UInt8) : revK l 0 = l :=
  ext8' (revK_length _ _) fun x hx => by rw [revK_length] at hx; rw [revK_at _ _ _ hx, if_neg (by omega)]
theorem at8_reverse (l : List UInt8) (x : Nat) (h : x < l.length) : at8 l.reverse x = at8 l (l.length - 1 - x) := by
  rw [at8_get _ x (by simpa using h), at8_get _ _ (by omega)]; simp
theorem revK_all (l : List UInt8) (k : Nat) (h : l.length ≤ 2 * k + 1) : revK l k = l.reverse :=
  ext8' (by rw [revK_length]; simp) fun x hx => by
    rw [revK_length] at hx
    rw [revK_at _ _ _ hx, at8_reverse _ _ hx]
    split
    · rfl
    · rw [show l.length - 1 - x = x by omega]
theorem revK_step (l : List UInt8) (k : Nat) (h : 2 * k + 1 < l.length) :
    ((revK l k).set k (at8 (revK l k) (l.length - 1 - k))).set (l.length - 1 - k) (at8 (revK l k) k) = revK l (k + 1) := by
  refine ext8' (by simp [revK_length]) fun x hx => ?_
  simp only [List.length_set, revK_length] at hx
  rw [at8_set _ _ _ _ (by simp [revK_length]; omega), at8_set _ _ _ _ (by simp [revK_length]; omega), revK_at _ _ _ hx, revK_at _ _ _ hx, revK_at _ _ _ (by omega), revK_at _ _ _ (by omega)]
  by_cases h1 : l.length - 1 - k = x
  · subst h1
    rw [if_pos rfl, if_neg (by omega), if_pos (by omega), show l.length - 1 - (l.length - 1 - k) = k by omega]
  · rw [if_neg h1]
    by_cases h2 : k = x
    · subst h2; rw [if_pos rfl, if_neg (by omega), if_pos (by omega)]
    · rw [if_neg h2]
      by_cases h3 : x < k ∨ l.length - 1 - x < k
      · rw [if_pos h3, if_pos (by omega)]
      · rw [if_neg h3, if_neg (by omega)]

def highB (n : UInt64) (k : Nat) : List UInt8 := (lowB n k).reverse
theorem lowB_length (n : UInt64) (k : Nat) : (lowB n k).length = k := by simp [lowB]
theorem highB_length (n : UInt64) (k : Nat) : (highB n k).length = k := by simp [highB, lowB_length]
/-! ### the document's answers -/
/-! numbers of bytes, as the document says -/
theorem mul256 (x : UInt64) : IntKind.u64.wrap (n64 x * (256 : Int)) = n64 (x * 256) := by
  rw [wrap_u64, n64_def, n64_def, UInt64.toNat_mul]
  have : (256 : UInt64).toNat = 256 := by decide
  rw [this]; omega
theorem mul256' (x : UInt64) : n64 x * (256 : Int) % (18446744073709551616 : Int) = n64 (x * 256) := by rw [← mul256, wrap_u64]
theorem add_up8 (x : UInt64) (b : UInt8) : IntKind.u64.wrap (n64 x + n8 b) = n64 (x + up8 b) := by rw [← up8_fold, u64_add]
theorem add_up8' (x : UInt64) (b : UInt8) : (n64 x + n8 b) % (18446744073709551616 : Int) = n64 (x + up8 b) := by rw [← add_up8, wrap_u64]
attribute [local go_sem] mul256 mul256' add_up8 add_up8'
def numK (l : List UInt8) : Nat → UInt64
  | 0 => 0
  | k + 1 => numK l k * 256 + up8 (at8 l k)
def RefNum (l : List UInt8) (w : World) (e : Ending) (w' : World) : Prop := e = .returned (.int .u64 (n64 (numK l (min l.length 8)))) ∧ w = w'
def RefNumLow (l : List UInt8) (w : World) (e : Ending) (w' : World) : Prop := e = .returned (.int .u64 (n64 (numK (l.take 8).reverse (min l.length 8)))) ∧ w = w'
def eqSays (l1 l2 : List UInt8) (w : World) (e : Ending) (w' : World) : Prop := e = .returned (.bool (decide (l1 = l2))) ∧ ∃ n, w' = w.drewN n
set_option maxHeartbeats 800000 in
theorem refSame_any (A1 A2 : Option Addr) (c1 c2 : Nat) (l1 l2 : List UInt8) (_hc1 : l1.length ≤ c1) (hc2 : l2.length ≤ c2) (hm1 : l1.length ≤ 140737488351232) (hm2 : l2.length ≤ 140737488351232)
    (w : World) (hr1 : Rd8 w w.heap.size A1 l1) (hr2 : Rd8 w w.heap.size A2 l2) :
    Calls Try.prog 22 #[.slice A1 l1.length c1, .slice A2 l2.length c2] w (eqSays l1 l2 w) := by
  have HR1 := Lib.hid hr1; clear hr1
  have HR2 := Lib.hid hr2; clear hr2
  by_cases hne : l1.length = l2.length
  · have hbn : ((l1.length : Int) != (l2.length : Int)) = false := by simp [hne]
    have HN := Lib.hid hne; clear hne
    go_enter Try.func22, Try.ntmps22
    go_wp2
    go_loopw [5] (fun i wr => ∃ k n : Nat, k ≤ l1.length ∧ i = .int .i64 k ∧ wr = w.drewN n ∧ (∀ x, x < k → at8 l1 x = at8 l2 x)) (fun i _ => l1.length - (intOf i).toNat)
    case atStart => exact ⟨0, 0, Nat.zero_le _, rfl, rfl, fun x hx => by omega⟩
    case round =>
      obtain ⟨k, n, hk, rfl, rfl, hb⟩ := hrel
      have HB := Lib.hid hb; clear hb
      by_cases hlt : k < l1.length
      · obtain ⟨g1, o1, rfl, hg1, hcell1⟩ := HR1.out (by omega)
        have hck1 := hcell1 k (by omega)
        obtain ⟨g2, o2, rfl, hg2, hcell2⟩ := HR2.out (by have := HN.out; omega)
        have hck2 := hcell2 k (by have := HN.out; omega)
        clear hcell1 hcell2
        have hj0 : (0 : Int) ≤ (k : Int) := by omega
        have hj2 : (k : Int) < (l1.length : Int) := by omega
        have hj3 : (k : Int) < (l2.length : Int) := by have := HN.out; omega
        by_cases he : at8 l1 k = at8 l2 k
        · have hbe : (n8 (at8 l1 k) != n8 (at8 l2 k)) = false := by simp [he]
          have HE := Lib.hid he; clear he
          go_wp2
          go_region
          go_wp2
          refine ⟨⟨k + 1, n + 1, by omega, by go_num, rfl, fun x hx => ?_⟩, by simp [intOf]; omega⟩
          by_cases e : x = k
          · subst e; exact HE.out
          · exact HB.out x (by omega)
        · have hbe : (n8 (at8 l1 k) != n8 (at8 l2 k)) = true := by
            rw [bne_iff_ne]; exact fun h => he (n8_inj h)
          have HE := Lib.hid he; clear he
          go_wp2
          go_region
          go_wp2
          go_ret
          refine ⟨ret_bool ?_, n + 1, rfl⟩
          symm
          rw [decide_eq_false_iff_not]
          rintro rfl
          exact HE.out rfl
      · go_wp2
        go_ret
        refine ⟨ret_bool ?_, n, rfl⟩
        symm
        rw [decide_eq_true_eq]
        exact ext8' HN.out fun x hx => HB.out x (by omega)
  · have hbn : ((l1.length : Int) != (l2.length : Int)) = true := by simp; omega
    go_enter Try.func22, Try.ntmps22
    go_wp2
    go_ret
    refine ⟨ret_bool ?_, 0, rfl⟩
    symm
    rw [decide_eq_false_iff_not]
    exact fun h => hne (by rw [h])

end Go.Proofs.Ytlfplikkifjnfaa
