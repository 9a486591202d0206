/- Layer 1: the chapter's examples. -/
import Derived.Test.YtojnjaedfbokmaaHex
namespace Go.Proofs.Ytojnjaedfbokmaa
open Go.RowKit
theorem low_res (n : UInt64) (k : Nat) (h1 : 1 ≤ k) (h8 : k ≤ 8) (w : World) : Calls Try.prog 16 #[.int .u64 (n64 n), .int .i64 k] w (RdRes w (lowB n k)) := by
  refine (low_any n k h1 h8 w).mono ?_
  rintro e w' ⟨rfl, rfl⟩
  exact ⟨some ⟨w.heap.size, 0, none⟩, k, by rw [lowB_length], by rw [lowB_length]; exact Nat.le_refl _, rd8_new _ _ _, (Below.refl _ _).alloc (Nat.le_refl _) _⟩
theorem high_res (n : UInt64) (k : Nat) (h1 : 1 ≤ k) (h8 : k ≤ 8) (w : World) : Calls Try.prog 15 #[.int .u64 (n64 n), .int .i64 k] w (RdRes w (highB n k)) := by
  refine (high_any n k h1 h8 w).mono ?_
  rintro e w' ⟨m, rfl, rfl⟩
  exact ⟨some ⟨w.heap.size, 0, none⟩, k, by rw [highB_length], by rw [highB_length]; exact Nat.le_refl _, (rd8_new _ _ _).drewN' m, below_drewN ((Below.refl _ _).alloc (Nat.le_refl _) _)⟩
theorem xor_res (A1 A2 : Option Addr) (c1 c2 : Nat) (l1 l2 : List UInt8) (hc1 : l1.length ≤ c1) (hc2 : l2.length ≤ c2) (hm1 : l1.length ≤ 140737488351232) (hm2 : l2.length ≤ 140737488351232)
    (w : World) (hr1 : Rd8 w w.heap.size A1 l1) (hr2 : Rd8 w w.heap.size A2 l2) :
    Calls Try.prog 17 #[.slice A1 l1.length c1, .slice A2 l2.length c2] w (RdRes w (xorB l1 l2)) := by
  refine (xor_any A1 A2 c1 c2 l1 l2 hc1 hc2 hm1 hm2 w hr1 hr2).mono ?_
  rintro e w' ⟨rfl, rfl⟩
  exact ⟨_, _, rfl, Nat.le_refl _, (rd8_new _ _ _).drewN' _, below_drewN ((Below.refl _ _).alloc (Nat.le_refl _) _)⟩
/-- two lists held against each other: a world that only drew -/
theorem same_true {A1 A2 : Option Addr} {c1 c2 : Nat} {l1 l2 : List UInt8} (h : l1 = l2) (hc1 : l1.length ≤ c1) (hc2 : l2.length ≤ c2) (hm1 : l1.length ≤ 140737488351232)
    {w : World} (hr1 : Rd8 w w.heap.size A1 l1) (hr2 : Rd8 w w.heap.size A2 l2) :
    Calls Try.prog 14 #[.slice A1 l1.length c1, .slice A2 l2.length c2] w fun e w' => e = .returned (.bool true) ∧ ∃ n, w' = w.drewN n := by
  refine (refSame_any A1 A2 c1 c2 l1 l2 hc1 hc2 hm1 (by rw [← h]; exact hm1) w hr1 hr2).mono ?_
  rintro e w' ⟨rfl, n, rfl⟩
  exact ⟨by rw [decide_eq_true h], n, rfl⟩

theorem xor_at (l1 l2 : List UInt8) (n1 n2 : Nat) (hn1 : l1.length = n1) (hn2 : l2.length = n2) (A1 A2 : Option Addr) (c1 c2 : Nat) (hc1 : n1 ≤ c1) (hc2 : n2 ≤ c2) (hm1 : n1 ≤ 140737488351232) (hm2 : n2 ≤ 140737488351232)
    (w : World) (hr1 : Rd8 w w.heap.size A1 l1) (hr2 : Rd8 w w.heap.size A2 l2) :
    Calls Try.prog 17 #[.slice A1 n1 c1, .slice A2 n2 c2] w (RdRes w (xorB l1 l2)) := by
  subst hn1 hn2; exact xor_res A1 A2 c1 c2 l1 l2 hc1 hc2 hm1 hm2 w hr1 hr2
theorem same_at (l1 l2 : List UInt8) (n1 n2 : Nat) (hn1 : l1.length = n1) (hn2 : l2.length = n2) (h : l1 = l2) (A1 A2 : Option Addr) (c1 c2 : Nat) (hc1 : n1 ≤ c1) (hc2 : n2 ≤ c2) (hm1 : n1 ≤ 140737488351232)
    (w : World) (hr1 : Rd8 w w.heap.size A1 l1) (hr2 : Rd8 w w.heap.size A2 l2) :
    Calls Try.prog 14 #[.slice A1 n1 c1, .slice A2 n2 c2] w fun e w' => e = .returned (.bool true) ∧ ∃ n, w' = w.drewN n := by
  subst hn1 hn2; exact same_true h hc1 hc2 hm1 hr1 hr2
theorem hex_at (l : List UInt8) (n : Nat) (hn : l.length = n) (A : Option Addr) (c : Nat) (hc : n ≤ c) (hm : n ≤ 35184372088832) (w : World) (hr : Rd8 w w.heap.size A l) :
    Calls Try.prog 13 #[.slice A n c] w (StrRes w.heap.size (hexB l) w) := by
  subst hn; exact hex_any A c l hc hm w hr
theorem lit123 : #[Value.int .u8 1, Value.int .u8 2, Value.int .u8 3] = u8s [1, 2, 3] := by simp [u8s_def, n8_def]
theorem lit33 : #[Value.int .u8 3, Value.int .u8 3] = u8s [3, 3] := by simp [u8s_def, n8_def]
theorem lit10 : #[Value.int .u8 10, Value.int .u8 255] = u8s [10, 255] := by simp [u8s_def, n8_def]
theorem lit210 : #[Value.int .u8 2, Value.int .u8 1, Value.int .u8 0] = u8s [2, 1, 0] := by simp [u8s_def, n8_def]
theorem lit012 : #[Value.int .u8 0, Value.int .u8 1, Value.int .u8 2] = u8s [0, 1, 2] := by simp [u8s_def, n8_def]
theorem lit21 : #[Value.int .u8 2, Value.int .u8 1] = u8s [2, 1] := by simp [u8s_def, n8_def]
theorem set0 (l : List UInt8) (i : Nat) : (u8s l).setIfInBounds i (.int .u8 0) = u8s (l.set i 0) := by
  rw [← u8s_set, show n8 0 = 0 by rw [n8_def]; rfl]
attribute [local go_sem] set0
def AwakeRes (w : World) (e : Ending) (w' : World) : Prop := e = .returned (.bool true) ∧ Below w.heap.size w w'
set_option maxRecDepth 100000 in
set_option maxHeartbeats 1600000 in
theorem awake_any (w : World) : Calls Try.prog 10 #[] w (AwakeRes w) := by
  have e258 : n64 258 = 258 := by rw [n64_def]; rfl
  have hlow := fun w => low_res 258 3 (by omega) (by omega) w
  have hhigh := fun w => high_res 258 3 (by omega) (by omega) w
  rw [e258] at hlow hhigh
  rw [show lowB 258 3 = [2, 1, 0] by decide +kernel] at hlow
  rw [show highB 258 3 = [0, 1, 2] by decide +kernel] at hhigh
  have HLOW := Lib.hid hlow
  have HHIGH := Lib.hid hhigh
  clear hlow hhigh e258
  have m1 := lit123; have m2 := lit33; have m3 := lit10; have m4 := lit210; have m5 := lit012; have m6 := lit21
  go_enter Try.func10, Try.ntmps10
  go_wp2_with fail
  refine (HLOW.out _).mono ?_
  rintro e w1 ⟨A1, c1, rfl, hc1, hr1, hb1⟩
  have HR1 := Lib.hid hr1; clear hr1
  go_wp2_with fail
  refine (HHIGH.out _).mono ?_
  rintro e w2 ⟨A2, c2, rfl, hc2, hr2, hb2⟩
  have HR1 := Lib.hid (HR1.out.step hb2)
  have HR2 := Lib.hid hr2; clear hr2
  have hb2 := hb1.trans (hb2.mono hb1.size)
  clear hb1
  go_wp2_with fail
  refine (xor_at [1, 2, 3] [3, 3] 3 2 rfl rfl (some ⟨w2.heap.size, 0, none⟩) (some ⟨w2.heap.size + 1, 0, none⟩) 3 2 (by decide) (by decide) (by decide) (by decide) _ (by exact (rd8_new w2 [1, 2, 3] _).alloc' _) (by exact rd8_of_row (by go_simp) (by simp))).mono ?_
  rintro e w3 ⟨A3, c3, rfl, hc3, hr3, hb3⟩
  have HR1 := Lib.hid (((HR1.out.alloc' _).alloc' _).step hb3)
  have HR2 := Lib.hid (((HR2.out.alloc' _).alloc' _).step hb3)
  have HR3 := Lib.hid hr3
  have hs2 : w.heap.size ≤ w2.heap.size := hb2.size
  have hb3 := ((hb2.alloc hs2 _).alloc (by simp; omega) _).trans (hb3.mono (by simp; omega))
  clear hr3 hb2 hs2
  rw [show xorB [1, 2, 3] [3, 3] = [2, 1] by decide +kernel] at HR3 hc3
  rw [show xorB [1, 2, 3] [3, 3] = [2, 1] by decide +kernel]
  go_wp2_with fail
  refine (hex_at [10, 255] 2 rfl (some ⟨w3.heap.size, 0, none⟩) 2 (by decide) (by decide) _ (by exact rd8_new w3 [10, 255] _)).mono ?_
  rintro e w4 ⟨rfl, hb4⟩
  have HR1 := Lib.hid ((HR1.out.alloc' _).step hb4)
  have HR2 := Lib.hid ((HR2.out.alloc' _).step hb4)
  have HR3 := Lib.hid ((HR3.out.alloc' _).step hb4)
  have hs3 : w.heap.size ≤ w3.heap.size := hb3.size
  have hb4 := (hb3.alloc hs3 _).trans (hb4.mono (by simp; omega))
  clear hb3 hs3
  rw [show hexB [10, 255] = [48, 97, 102, 102] by decide +kernel]
  go_wp2_with fail
  refine (unhex_any [48, 97, 102, 102] (by decide) _).mono ?_
  rw [show unhexB [48, 97, 102, 102] = some [10, 255] by decide +kernel]
  rintro e w5 ⟨A5, c5, rfl, ho5, hb5⟩
  have HR1 := Lib.hid (HR1.out.step hb5)
  have HR2 := Lib.hid (HR2.out.step hb5)
  have HR3 := Lib.hid (HR3.out.step hb5)
  have HR5 := Lib.hid ho5.rd
  have hc5 := ho5.len.2
  have hb5 := hb4.trans (hb5.mono hb4.size)
  clear hb4 ho5
  go_wp2_with fail
  refine (unhex_any [48, 97, 70] (by decide) _).mono ?_
  rw [show unhexB [48, 97, 70] = none by decide +kernel]
  rintro e w6 ⟨rfl, hb6⟩
  have HR1 := Lib.hid (HR1.out.step hb6)
  have HR2 := Lib.hid (HR2.out.step hb6)
  have HR3 := Lib.hid (HR3.out.step hb6)
  have HR5 := Lib.hid (HR5.out.step hb6)
  have hb6 := hb5.trans (hb6.mono hb5.size)
  have hs6 : w.heap.size ≤ w6.heap.size := hb6.size
  clear hb5
  go_wp2_with fail
  refine (same_at [2, 1, 0] [2, 1, 0] 3 3 rfl rfl rfl A1 (some ⟨w6.heap.size, 0, none⟩) c1 3 hc1 (by decide) (by decide) _ (by exact HR1.out.alloc' _) (by exact rd8_new w6 [2, 1, 0] _)).mono ?_
  rintro e w7 ⟨rfl, n7, rfl⟩
  go_wp2_with fail
  refine (same_at [0, 1, 2] [0, 1, 2] 3 3 rfl rfl rfl A2 (some ⟨w6.heap.size + 1, 0, none⟩) c2 3 hc2 (by decide) (by decide) _ (by exact ((HR2.out.alloc' _).drewN' _).alloc' _) (by exact rd8_of_row (by go_simp) (by simp))).mono ?_
  rintro e w8 ⟨rfl, n8', rfl⟩
  go_wp2_with fail
  refine (same_at [2, 1] [2, 1] 2 2 rfl rfl rfl A3 (some ⟨w6.heap.size + 1 + 1, 0, none⟩) c3 2 hc3 (by decide) (by decide) _ (by exact ((((HR3.out.alloc' _).drewN' _).alloc' _).drewN' _).alloc' _) (by exact rd8_of_row (by go_simp) (by simp))).mono ?_
  rintro e w9 ⟨rfl, n9, rfl⟩
  go_wp2_with fail
  refine (same_at [10, 255] [10, 255] 2 2 rfl rfl rfl A5 (some ⟨w6.heap.size + 1 + 1 + 1, 0, none⟩) c5 2 hc5 (by decide) (by decide) _ (by exact ((((((HR5.out.alloc' _).drewN' _).alloc' _).drewN' _).alloc' _).drewN' _).alloc' _) (by exact rd8_of_row (by go_simp) (by simp))).mono ?_
  rintro e w10 ⟨rfl, n10, rfl⟩
  go_wp2_with fail
  go_ret
  refine ⟨rfl, below_drewN (Below.alloc (below_drewN (Below.alloc (below_drewN (Below.alloc (below_drewN (hb6.alloc hs6 _)) ?_ _)) ?_ _)) ?_ _)⟩
  all_goals (simp [World.drewN]; omega)
end Go.Proofs.Ytojnjaedfbokmaa
