/- Layer 1: turning bytes round, and the document's answers. -/
import Derived.Test.YtopmdbmnlflpgaaDoorOct
import Derived.Test.YtopmdbmnlflpgaaDoorLex
import Derived.RegionTactic
import Derived.BigRegion
import Derived.ChangeAlike
namespace Go.Proofs.YtopmdbmnlflpgaaDoor
open Go.RowKit

/-- k steps of turning a list round -/
def revK (l : List UInt8) (k : Nat) : List UInt8 := (List.range l.length).map fun x => if x < k ∨ l.length - 1 - x < k then at8 l (l.length - 1 - x) else at8 l x
theorem revK_length (l : List UInt8) (k : Nat) : (revK l k).length = l.length := by simp [revK]
theorem revK_at (l : List UInt8) (k x : Nat) (h : x < l.length) : at8 (revK l k) x = if x < k ∨ l.length - 1 - x < k then at8 l (l.length - 1 - x) else at8 l x :=
  at8_map _ _ (fun x => if x < k ∨ l.length - 1 - x < k then at8 l (l.length - 1 - x) else at8 l x) h
theorem revK_zero (l : List UInt8) : revK l 0 = l :=
  ext8' (revK_length _ _) fun x hx => by rw [revK_length] at hx; rw [revK_at _ _ _ hx, if_neg (by omega)]
theorem at8_reverse (l : List UInt8) (x : Nat) (h : x < l.length) : at8 l.reverse x = at8 l (l.length - 1 - x) := by
  rw [at8_get _ x (by simpa using h), at8_get _ _ (by omega)]; simp
theorem revK_all (l : List UInt8) (k : Nat) (h : l.length ≤ 2 * k + 1) : revK l k = l.reverse :=
  ext8' (by rw [revK_length]; simp) fun x hx => by
    rw [revK_length] at hx
    rw [revK_at _ _ _ hx, at8_reverse _ _ hx]
    split
    · rfl
    · rw [show l.length - 1 - x = x by omega]
theorem revK_step (l : List UInt8) (k : Nat) (h : 2 * k + 1 < l.length) :
    ((revK l k).set k (at8 (revK l k) (l.length - 1 - k))).set (l.length - 1 - k) (at8 (revK l k) k) = revK l (k + 1) := by
  refine ext8' (by simp [revK_length]) fun x hx => ?_
  simp only [List.length_set, revK_length] at hx
  rw [at8_set _ _ _ _ (by simp [revK_length]; omega), at8_set _ _ _ _ (by simp [revK_length]; omega), revK_at _ _ _ hx, revK_at _ _ _ hx, revK_at _ _ _ (by omega), revK_at _ _ _ (by omega)]
  by_cases h1 : l.length - 1 - k = x
  · subst h1
    rw [if_pos rfl, if_neg (by omega), if_pos (by omega), show l.length - 1 - (l.length - 1 - k) = k by omega]
  · rw [if_neg h1]
    by_cases h2 : k = x
    · subst h2; rw [if_pos rfl, if_neg (by omega), if_pos (by omega)]
    · rw [if_neg h2]
      by_cases h3 : x < k ∨ l.length - 1 - x < k
      · rw [if_pos h3, if_pos (by omega)]
      · rw [if_neg h3, if_neg (by omega)]

set_option maxHeartbeats 800000 in
theorem reverse_any (g c : Nat) (l : List UInt8) (_hc : l.length ≤ c) (hm : l.length ≤ 140737488351232) (w : World) (hg : IsRow w g) (hr : rowOf w g = u8s l) :
    Calls Tryd.prog 94 #[.slice (some ⟨g, 0, none⟩) l.length c] w fun e w' => e = .returned (.tuple #[]) ∧ ∃ k, w' = (w.setRow g (u8s l.reverse)).drewN k := by
  have HG := Lib.hid hr; clear hr
  go_enter Tryd.func94, Tryd.ntmps94
  go_wp2
  go_loopw [2, 3] (fun i j wr => ∃ k : Nat, 2 * k ≤ l.length + 1 ∧ i = .int .i64 k ∧ j = .int .i64 ((l.length : Int) - 1 - k) ∧ wr = (w.setRow g (u8s (revK l k))).drewN k) (fun i _ _ => l.length - (intOf i).toNat)
  case atStart => exact ⟨0, by omega, rfl, by go_num, by rw [revK_zero, setRow_same w g _ HG.out hg]; rfl⟩
  case round =>
    obtain ⟨k, hk, rfl, rfl, rfl⟩ := hrel
    by_cases hlt : 2 * k + 1 < l.length
    · obtain ⟨jn, hjn⟩ : ∃ jn : Nat, (l.length : Int) - 1 - k = (jn : Int) := ⟨l.length - 1 - k, by omega⟩
      have hs := revK_step l k hlt
      rw [show l.length - 1 - k = jn by omega] at hs
      have hk0 : (0 : Int) ≤ (k : Int) := by omega
      have hk1 : (k : Int) < (l.length : Int) := by omega
      have hj0 : (0 : Int) ≤ (jn : Int) := by omega
      have hj1 : (jn : Int) < (l.length : Int) := by omega
      have hkl : k < (revK l k).length := by rw [revK_length]; omega
      have hjl : jn < (revK l k).length := by rw [revK_length]; omega
      go_wp2
      go_region
      go_wp2
      exact ⟨⟨k + 1, by omega, by go_num, by rw [show ((jn : Int) - 1) = (l.length : Int) - 1 - ((k + 1 : Nat) : Int) by omega], rfl⟩, by simp [intOf]; omega⟩
    · go_wp2
      go_end0
      exact ⟨rfl, k, by rw [revK_all l k (by omega)]⟩

def highB (n : UInt64) (k : Nat) : List UInt8 := (lowB n k).reverse
theorem lowB_length (n : UInt64) (k : Nat) : (lowB n k).length = k := by simp [lowB]
theorem highB_length (n : UInt64) (k : Nat) : (highB n k).length = k := by simp [highB, lowB_length]
set_option maxHeartbeats 400000 in
theorem high_any (n : UInt64) (k : Nat) (h1 : 1 ≤ k) (h8 : k ≤ 8) (w : World) :
    Calls Tryd.prog 71 #[.int .u64 (n64 n), .int .i64 k] w fun e w' =>
      ∃ m, e = .returned (.slice (some ⟨w.heap.size, 0, none⟩) k k) ∧ w' = (w.alloc (.cells (u8s (highB n k)) 5)).drewN m := by
  have hl := lowB_length n k
  have hrev : ∀ w' : World, w' = w.alloc (.cells (u8s (lowB n k)) 5) → Calls Tryd.prog 94 #[.slice (some ⟨w.heap.size, 0, none⟩) k k] w' fun e w'' => e = .returned (.tuple #[]) ∧ ∃ m, w'' = (w.alloc (.cells (u8s (highB n k)) 5)).drewN m := by
    rintro w' rfl
    have h := reverse_any w.heap.size k (lowB n k) (by omega) (by omega) (w.alloc (.cells (u8s (lowB n k)) 5)) (IsRow.new w _ _) (by rw [rowOf_alloc, if_neg (by omega), if_pos rfl]; rfl)
    rw [hl] at h
    refine h.mono ?_
    rintro e w'' ⟨rfl, m, rfl⟩
    exact ⟨rfl, m, by rw [setRow_alloc, if_neg (by omega), if_pos rfl]; rfl⟩
  clear hl
  go_enter Tryd.func71, Tryd.ntmps71
  go_wp2_with (first
    | (go_at_call 93; refine (low_any n k h1 h8 _).mono ?_; rintro e w' ⟨rfl, rfl⟩)
    | (go_at_call 94; refine (hrev _ rfl).mono ?_; rintro e w' ⟨rfl, m, rfl⟩))
  go_ret
  exact ⟨m, rfl, rfl⟩

/-! ### the document's answers -/
set_option maxHeartbeats 800000 in
theorem refLow_any (n : UInt64) (k : Int) (w : World) (h8 : k ≤ 8) :
    Calls Tryd.prog 95 #[.int .u64 (n64 n), .int .i64 k] w (OwnRes 5 w (lowB n k.toNat)) := by
  go_enter Tryd.func95, Tryd.ntmps95
  go_wp2
  go_loopw [0, 5, 6] (fun x v i wr => ∃ j : Nat, (j : Int) ≤ max k 0 ∧ i = .int .i64 j ∧ x = .int .u64 (n64 n / 256 ^ j) ∧ Own8 5 wr w.heap.size v (lowB n j) ∧ Below w.heap.size w wr) (fun _ _ i _ => k.toNat - (intOf i).toNat)
  case atStart => exact ⟨0, by omega, rfl, by simp, Own8.nil _ _ _, Below.refl _ _⟩
  case round =>
    obtain ⟨j, hj, rfl, rfl, hown, hb⟩ := hrel
    have hd0 : 0 ≤ n64 n / 256 ^ j := Int.ediv_nonneg (n64_ge n) (Int.pow_nonneg (by omega))
    by_cases hlt : (j : Int) < k
    · have hsz : w.heap.size ≤ wr.heap.size := hb.size
      have hq : IntKind.u64.wrap ((n64 n / 256 ^ j).tdiv 256) = n64 n / 256 ^ (j + 1) := by
        rw [Int.tdiv_eq_ediv_of_nonneg hd0, Int.pow_succ, ← Int.ediv_ediv_of_nonneg (Int.pow_nonneg (by omega)), wrap_u64]
        have h1 := Int.ediv_le_self (256 ^ j) (n64_ge n)
        have h2 := n64_lt n
        have h3 : n64 n / 256 ^ j / 256 ≤ n64 n / 256 ^ j := Int.ediv_le_self _ hd0
        have h4 : 0 ≤ n64 n / 256 ^ j / 256 := Int.ediv_nonneg hd0 (by omega)
        omega
      go_wp2_with (at_builtin; refine wpList_append8 Tryd.underlying27 Tryd.info8 (by rfl) (.tmp 15) (.tmp 19) (by rfl) w.heap.size _ (lowB n j) (by rfl) (hown.alloc _) wr.heap.size (byteOf n j) (by rfl) (by go_simp) (by rw [lowB_length]; omega) (by simp; omega) ?_; intro g cap w1 hown1 hg1 hat1 hlt1)
      refine ⟨⟨j + 1, by omega, by go_num, rfl, ?_, below_append (hb.alloc (by omega) _) (hown.alloc _) hg1 (Nat.le_refl _) (by simp; omega)⟩, by simp [intOf]; omega⟩
      rw [show lowB n (j + 1) = lowB n j ++ [byteOf n j] by simp [lowB, List.range_succ]]
      exact hown1
    · go_wp2
      go_ret
      have e : lowB n j = lowB n k.toNat := by rw [show j = k.toNat by omega]
      rw [e] at hown
      exact OwnRes.mk hown hb

set_option maxHeartbeats 800000 in
theorem refHigh_any (n : UInt64) (k : Int) (w : World) (h8 : k ≤ 8) :
    Calls Tryd.prog 73 #[.int .u64 (n64 n), .int .i64 k] w (OwnRes 5 w (highB n k.toNat)) := by
  have hll : (lowB n k.toNat).length ≤ 8 := by rw [lowB_length]; omega
  obtain ⟨l, hl⟩ : ∃ l, l = lowB n k.toNat := ⟨_, rfl⟩
  have hres : OwnRes 5 w (highB n k.toNat) = OwnRes 5 w l.reverse := by rw [hl]; rfl
  rw [← hl] at hll
  rw [hres]
  have hlow := refLow_any n k w h8
  rw [← hl] at hlow
  have HL := Lib.hid hlow; clear hlow hl hres
  go_enter Tryd.func73, Tryd.ntmps73
  go_wp2_with (go_at_call 95; refine HL.out.mono ?_; rintro e w1 ⟨A, c, rfl, hown, hb1⟩)
  have HR := Lib.hid hown.rd
  clear hown
  go_loopw [6, 7] (fun v i wr => ∃ j : Nat, j ≤ l.length ∧ i = .int .i64 ((l.length : Int) - 1 - j) ∧ Own8 5 wr w1.heap.size v (l.reverse.take j) ∧ Below w1.heap.size w1 wr) (fun _ i _ => ((intOf i) + 1).toNat)
  case atStart => exact ⟨0, by omega, by go_num, Own8.nil _ _ _, Below.refl _ _⟩
  case round =>
    obtain ⟨j, hj, rfl, hown, hb⟩ := hrel
    have hsz : w1.heap.size ≤ wr.heap.size := hb.size
    by_cases hlt : j < l.length
    · obtain ⟨x, hx⟩ : ∃ x : Nat, (l.length : Int) - 1 - j = x := ⟨l.length - 1 - j, by omega⟩
      obtain ⟨g, o, rfl, hg, hcell⟩ := HR.out (by omega)
      have hck := (hb.cell (p := ⟨g, o + x, none⟩) hg).trans (hcell x (by omega))
      clear hcell
      go_wp2_with (at_builtin; refine wpList_append8 Tryd.underlying27 Tryd.info8 (by rfl) (.tmp 18) (.tmp 23) (by rfl) w1.heap.size _ (l.reverse.take j) (by rfl) (hown.alloc _) wr.heap.size (at8 l x) (by rfl) (by go_simp) (by simp; omega) (by simp; omega) ?_; intro g2 cap w2 hown1 hg1 hat1 hlt1)
      refine ⟨⟨j + 1, by omega, by rw [show ((x : Int) - 1) = (l.length : Int) - 1 - ((j + 1 : Nat) : Int) by omega], ?_, below_append (hb.alloc (by omega) _) (hown.alloc _) hg1 (Nat.le_refl _) (by simp; omega)⟩, by simp [intOf]; omega⟩
      rw [take_succ8 _ _ (by simpa using hlt), at8_reverse _ _ hlt, show l.length - 1 - j = x by omega]
      have e : (l.reverse.take j).length = j := by simp; omega
      rw [e] at hown1
      exact hown1
    · go_wp2
      go_ret
      rw [List.take_of_length_le (by simp; omega)] at hown
      exact OwnRes.mk (hown.more hb1.size) (hb1.trans (hb.mono hb1.size))

/-! numbers of bytes, as the document says -/
theorem mul256 (x : UInt64) : IntKind.u64.wrap (n64 x * (256 : Int)) = n64 (x * 256) := by
  rw [wrap_u64, n64_def, n64_def, UInt64.toNat_mul]
  have : (256 : UInt64).toNat = 256 := by decide
  rw [this]; omega
theorem mul256' (x : UInt64) : n64 x * (256 : Int) % (18446744073709551616 : Int) = n64 (x * 256) := by rw [← mul256, wrap_u64]
theorem add_up8 (x : UInt64) (b : UInt8) : IntKind.u64.wrap (n64 x + n8 b) = n64 (x + up8 b) := by rw [← up8_fold, u64_add]
theorem add_up8' (x : UInt64) (b : UInt8) : (n64 x + n8 b) % (18446744073709551616 : Int) = n64 (x + up8 b) := by rw [← add_up8, wrap_u64]
attribute [local go_sem] mul256 mul256' add_up8 add_up8'
def numK (l : List UInt8) : Nat → UInt64
  | 0 => 0
  | k + 1 => numK l k * 256 + up8 (at8 l k)
def RefNum (l : List UInt8) (w : World) (e : Ending) (w' : World) : Prop := e = .returned (.int .u64 (n64 (numK l (min l.length 8)))) ∧ w = w'
set_option maxHeartbeats 400000 in
theorem refOfHigh_any (A : Option Addr) (c : Nat) (l : List UInt8) (_hc : l.length ≤ c) (hm : l.length ≤ 140737488351232) (w : World) (hr : Rd8 w w.heap.size A l) :
    Calls Tryd.prog 28 #[.slice A l.length c] w (RefNum l w) := by
  have HR := Lib.hid hr; clear hr
  go_enter Tryd.func28, Tryd.ntmps28
  go_wp2
  go_loop [3, 4] (fun n i => ∃ k : Nat, k ≤ min l.length 8 ∧ i = .int .i64 k ∧ n = .int .u64 (n64 (numK l k))) (fun _ i => 8 - (intOf i).toNat)
  case atStart => exact ⟨0, Nat.zero_le _, rfl, by rw [n64_def]; rfl⟩
  case round =>
    obtain ⟨k, hk, rfl, rfl⟩ := hrel
    by_cases hlt : k < l.length
    · by_cases h8 : k < 8
      · obtain ⟨g, o, rfl, -, hcell⟩ := HR.out (by omega)
        have hck := hcell k (by omega)
        clear hcell
        go_wp2
        exact ⟨⟨k + 1, by omega, by go_num, rfl⟩, by simp [intOf]; omega⟩
      · go_wp2
        go_ret
        have e : k = min l.length 8 := by omega
        subst e
        exact ⟨rfl, rfl⟩
    · go_wp2
      go_ret
      have e : k = min l.length 8 := by omega
      subst e
      exact ⟨rfl, rfl⟩
def RefNumLow (l : List UInt8) (w : World) (e : Ending) (w' : World) : Prop := e = .returned (.int .u64 (n64 (numK (l.take 8).reverse (min l.length 8)))) ∧ w = w'
def eqSays (l1 l2 : List UInt8) (w : World) (e : Ending) (w' : World) : Prop := e = .returned (.bool (decide (l1 = l2))) ∧ ∃ n, w' = w.drewN n
set_option maxHeartbeats 800000 in
theorem refSame_any (A1 A2 : Option Addr) (c1 c2 : Nat) (l1 l2 : List UInt8) (_hc1 : l1.length ≤ c1) (hc2 : l2.length ≤ c2) (hm1 : l1.length ≤ 140737488351232) (hm2 : l2.length ≤ 140737488351232)
    (w : World) (hr1 : Rd8 w w.heap.size A1 l1) (hr2 : Rd8 w w.heap.size A2 l2) :
    Calls Tryd.prog 23 #[.slice A1 l1.length c1, .slice A2 l2.length c2] w (eqSays l1 l2 w) := by
  have HR1 := Lib.hid hr1; clear hr1
  have HR2 := Lib.hid hr2; clear hr2
  by_cases hne : l1.length = l2.length
  · have hbn : ((l1.length : Int) != (l2.length : Int)) = false := by simp [hne]
    have HN := Lib.hid hne; clear hne
    go_enter Tryd.func23, Tryd.ntmps23
    go_wp2
    go_loopw [5] (fun i wr => ∃ k n : Nat, k ≤ l1.length ∧ i = .int .i64 k ∧ wr = w.drewN n ∧ (∀ x, x < k → at8 l1 x = at8 l2 x)) (fun i _ => l1.length - (intOf i).toNat)
    case atStart => exact ⟨0, 0, Nat.zero_le _, rfl, rfl, fun x hx => by omega⟩
    case round =>
      obtain ⟨k, n, hk, rfl, rfl, hb⟩ := hrel
      have HB := Lib.hid hb; clear hb
      by_cases hlt : k < l1.length
      · obtain ⟨g1, o1, rfl, hg1, hcell1⟩ := HR1.out (by omega)
        have hck1 := hcell1 k (by omega)
        obtain ⟨g2, o2, rfl, hg2, hcell2⟩ := HR2.out (by have := HN.out; omega)
        have hck2 := hcell2 k (by have := HN.out; omega)
        clear hcell1 hcell2
        have hj0 : (0 : Int) ≤ (k : Int) := by omega
        have hj2 : (k : Int) < (l1.length : Int) := by omega
        have hj3 : (k : Int) < (l2.length : Int) := by have := HN.out; omega
        by_cases he : at8 l1 k = at8 l2 k
        · have hbe : (n8 (at8 l1 k) != n8 (at8 l2 k)) = false := by simp [he]
          have HE := Lib.hid he; clear he
          go_wp2
          go_region
          go_wp2
          refine ⟨⟨k + 1, n + 1, by omega, by go_num, rfl, fun x hx => ?_⟩, by simp [intOf]; omega⟩
          by_cases e : x = k
          · subst e; exact HE.out
          · exact HB.out x (by omega)
        · have hbe : (n8 (at8 l1 k) != n8 (at8 l2 k)) = true := by
            rw [bne_iff_ne]; exact fun h => he (n8_inj h)
          have HE := Lib.hid he; clear he
          go_wp2
          go_region
          go_wp2
          go_ret
          refine ⟨ret_bool ?_, n + 1, rfl⟩
          symm
          rw [decide_eq_false_iff_not]
          rintro rfl
          exact HE.out rfl
      · go_wp2
        go_ret
        refine ⟨ret_bool ?_, n, rfl⟩
        symm
        rw [decide_eq_true_eq]
        exact ext8' HN.out fun x hx => HB.out x (by omega)
  · have hbn : ((l1.length : Int) != (l2.length : Int)) = true := by simp; omega
    go_enter Tryd.func23, Tryd.ntmps23
    go_wp2
    go_ret
    refine ⟨ret_bool ?_, 0, rfl⟩
    symm
    rw [decide_eq_false_iff_not]
    exact fun h => hne (by rw [h])

end Go.Proofs.YtopmdbmnlflpgaaDoor
