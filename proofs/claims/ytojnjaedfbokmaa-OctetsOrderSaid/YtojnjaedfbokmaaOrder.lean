/- Numbers stand as their bytes do. -/
import Derived.Test.YtojnjaedfbokmaaAwake1
import Derived.Test.YtojnjaedfbokmaaOpen
namespace Go.Proofs.Ytojnjaedfbokmaa
open Go.RowKit

theorem byteOf_toNat (n : UInt64) (i : Nat) : (byteOf n i).toNat = n.toNat / 2 ^ (8 * i) % 256 := by
  unfold byteOf; rw [UInt8.toNat_ofNat']
theorem lowB_at (n : UInt64) (k i : Nat) (h : i < k) : at8 (lowB n k) i = byteOf n i := at8_map k i (byteOf n) h
theorem highB_at (n : UInt64) (k i : Nat) (h : i < k) : at8 (highB n k) i = byteOf n (k - 1 - i) := by
  unfold highB
  rw [at8_reverse _ _ (by rw [lowB_length]; exact h), lowB_length, lowB_at _ _ _ (by omega)]
/-- the lesser one, told by the lowest k bytes -/
def lessK (a b : UInt64) : Nat → Bool
  | 0 => false
  | k + 1 => if byteOf a k = byteOf b k then lessK a b k else decide (byteOf a k < byteOf b k)
theorem lessK_spec (a b : UInt64) (k : Nat) : lessK a b k = decide (a.toNat % 2 ^ (8 * k) < b.toNat % 2 ^ (8 * k)) := by
  induction k with
  | zero => simp [lessK, Nat.mod_one]
  | succ k ih =>
    have split : ∀ n : Nat, n % 2 ^ (8 * (k + 1)) = n / 2 ^ (8 * k) % 256 * 2 ^ (8 * k) + n % 2 ^ (8 * k) := by
      intro n
      rw [show 8 * (k + 1) = 8 * k + 8 by omega, Nat.pow_add, Nat.mod_mul, Nat.add_comm, Nat.mul_comm]
    rw [lessK, split, split]
    have ha := byteOf_toNat a k
    have hb := byteOf_toNat b k
    rw [← ha, ← hb]
    have la := Nat.mod_lt a.toNat (show 0 < 2 ^ (8 * k) from Nat.pow_pos (by omega))
    have lb := Nat.mod_lt b.toNat (show 0 < 2 ^ (8 * k) from Nat.pow_pos (by omega))
    generalize 2 ^ (8 * k) = m at *
    by_cases he : byteOf a k = byteOf b k
    · rw [if_pos he, ih, he]; simp
    · rw [if_neg he, Bool.eq_iff_iff, decide_eq_true_eq, decide_eq_true_eq, UInt8.lt_iff_toNat_lt]
      have hne : (byteOf a k).toNat ≠ (byteOf b k).toNat := fun h => he (UInt8.toNat_inj.1 h)
      generalize (byteOf a k).toNat = x at *
      generalize (byteOf b k).toNat = y at *
      generalize a.toNat % m = u at *
      generalize b.toNat % m = v at *
      constructor
      · intro h
        have : (x + 1) * m ≤ y * m := Nat.mul_le_mul_right m h
        rw [Nat.add_mul] at this; omega
      · intro h
        rcases Nat.lt_or_ge x y with h' | h'
        · exact h'
        · have : (y + 1) * m ≤ x * m := Nat.mul_le_mul_right m (by omega)
          rw [Nat.add_mul] at this; omega
theorem lessK_all (a b : UInt64) : lessK a b 8 = decide (a < b) := by
  rw [lessK_spec, Bool.eq_iff_iff, decide_eq_true_eq, decide_eq_true_eq, UInt64.lt_iff_toNat_lt]
  have h1 := a.toNat_lt
  have h2 := b.toNat_lt
  rw [Nat.mod_eq_of_lt h1, Nat.mod_eq_of_lt h2]

set_option maxRecDepth 100000 in
set_option maxHeartbeats 3200000 in
theorem walk_OctetsOrder (a b : UInt64) (w : World) : Calls Try.prog 4 #[.int .u64 (n64 a), .int .u64 (n64 b)] w (TrueRes w) := by
  obtain ⟨x, hx⟩ : ∃ x, x = highB a 8 := ⟨_, rfl⟩
  obtain ⟨y, hy⟩ : ∃ y, y = highB b 8 := ⟨_, rfl⟩
  obtain ⟨l, hl⟩ : ∃ l, l = lowB a 8 := ⟨_, rfl⟩
  have hxl : x.length = 8 := by rw [hx, highB_length]
  have hyl : y.length = 8 := by rw [hy, highB_length]
  have hll : l.length = 8 := by rw [hl, lowB_length]
  have cx := fun w => high_res a 8 (by omega) (by omega) w
  have cy := fun w => high_res b 8 (by omega) (by omega) w
  have cl := fun w => low_res a 8 (by omega) (by omega) w
  rw [← hx] at cx
  rw [← hy] at cy
  rw [← hl] at cl
  unfold RdRes at cx cy cl
  rw [hxl] at cx
  rw [hyl] at cy
  rw [hll] at cl
  have CX := Lib.hid cx
  have CY := Lib.hid cy
  have CL := Lib.hid cl
  have HX : Hid (∀ i, i < 8 → at8 x i = byteOf a (7 - i)) := Lib.hid fun i hi => by rw [hx, highB_at a 8 i hi]
  have HY : Hid (∀ i, i < 8 → at8 y i = byteOf b (7 - i)) := Lib.hid fun i hi => by rw [hy, highB_at b 8 i hi]
  have HL : Hid (∀ i, i < 8 → at8 l i = byteOf a i) := Lib.hid fun i hi => by rw [hl, lowB_at a 8 i hi]
  have HXL := Lib.hid hxl
  have HYL := Lib.hid hyl
  have HLL := Lib.hid hll
  clear cx cy cl hx hy hl hxl hyl hll
  go_enter Try.func4, Try.ntmps4
  go_wp2_with fail
  refine (awake_any _).mono ?_
  rintro e w1 ⟨rfl, hb1⟩
  go_wp2_with fail
  refine (CX.out _).mono ?_
  rintro e w2 ⟨A2, c2, rfl, hc2, hr2, hb2⟩
  have HR2 := Lib.hid hr2
  have hb2 := hb1.trans (hb2.mono hb1.size)
  clear hr2 hb1
  go_wp2_with fail
  refine (CY.out _).mono ?_
  rintro e w3 ⟨A3, c3, rfl, hc3, hr3, hb3⟩
  have HR2 := Lib.hid (HR2.out.step hb3)
  have HR3 := Lib.hid hr3
  have hb3 := hb2.trans (hb3.mono hb2.size)
  clear hr3 hb2
  go_wp2_with fail
  refine (CL.out _).mono ?_
  rintro e w4 ⟨A4, c4, rfl, hc4, hr4, hb4⟩
  have HR2 := Lib.hid (HR2.out.step hb4)
  have HR3 := Lib.hid (HR3.out.step hb4)
  have HR4 := Lib.hid hr4
  have hb4 := hb3.trans (hb4.mono hb3.size)
  clear hr4 hb3
  obtain ⟨g2, o2, rfl, -, hcell2⟩ := HR2.out (by have := HXL.out; omega)
  obtain ⟨g3, o3, rfl, -, hcell3⟩ := HR3.out (by have := HYL.out; omega)
  obtain ⟨g4, o4, rfl, -, hcell4⟩ := HR4.out (by have := HLL.out; omega)
  have HC2 := Lib.hid hcell2
  have HC3 := Lib.hid hcell3
  have HC4 := Lib.hid hcell4
  clear hcell2 hcell3 hcell4 HR2 HR3 HR4
  go_wp2_with fail
  go_loopw [9, 10] (fun s i wr => ∃ (k n : Nat), k ≤ 8 ∧ i = .int .i64 (7 - (k : Int)) ∧ s = .bool (lessK a b k) ∧ wr = w4.drewN n) (fun _ i _ => (intOf i + 1).toNat)
  case atStart => exact ⟨0, 0, by omega, rfl, rfl, rfl⟩
  case round =>
    obtain ⟨k, n, hk, rfl, rfl, rfl⟩ := hrel
    by_cases hlt : k < 8
    · obtain ⟨j, hj⟩ : ∃ j : Nat, 7 - (k : Int) = j := ⟨7 - k, by omega⟩
      have hj8 : j < 8 := by omega
      have hj0 : (0 : Int) ≤ (j : Int) := by omega
      have hj1 : (j : Int) < 8 := by omega
      have hk0 : (0 : Int) ≤ (k : Int) := by omega
      have hk1 : (k : Int) < 8 := by omega
      have hjk : 7 - (j : Int) = (k : Int) := by omega
      have c2x := HC2.out j (by have := HXL.out; omega)
      have c3x := HC3.out j (by have := HYL.out; omega)
      have c4x := HC4.out j (by have := HLL.out; omega)
      have c2k := HC2.out k (by have := HXL.out; omega)
      rw [HX.out j hj8, show 7 - j = k by omega] at c2x
      rw [HY.out j hj8, show 7 - j = k by omega] at c3x
      rw [HL.out j hj8] at c4x
      rw [HX.out k hlt, show 7 - k = j by omega] at c2k
      have HLK : Hid (lessK a b (k + 1) = if byteOf a k = byteOf b k then lessK a b k else decide (byteOf a k < byteOf b k)) := Lib.hid rfl
      by_cases he : byteOf a k = byteOf b k
      · have hE := HLK.out
        rw [if_pos he] at hE
        have HE := Lib.hid hE
        clear hE
        have hbe : (n8 (byteOf a k) != n8 (byteOf b k)) = false := by simp [he]
        have hself : (n8 (byteOf a j) != n8 (byteOf a j)) = false := by simp
        have HEQ := Lib.hid he
        clear he HLK
        go_wp2_with (first | (refine wp_region_lex [] (by kernel_rfl) (by decide +kernel) ?_) | (refine wpLex_nil ?_) | (refine wpLex_pure rfl (fun _ _ => ?_); go_simp; try go_bits) | (refine wpLex_read rfl (fun _ _ => ?_); go_simp; try go_bits) | (refine wpLex_loud rfl (fun _ _ => ?_)))
        exact ⟨⟨k + 1, n + 2, by omega, by rw [show ((j : Int) - 1) = 7 - ((k + 1 : Nat) : Int) by omega], by rw [HE.out], rfl⟩, by simp [intOf]; omega⟩
      · have hE := HLK.out
        rw [if_neg he] at hE
        have HE := Lib.hid hE
        clear hE
        have hbe : (n8 (byteOf a k) != n8 (byteOf b k)) = true := by rw [bne_iff_ne]; exact fun h => he (n8_inj h)
        have hself : (n8 (byteOf a j) != n8 (byteOf a j)) = false := by simp
        clear he HLK
        go_wp2_with (first | (refine wp_region_lex [] (by kernel_rfl) (by decide +kernel) ?_) | (refine wpLex_nil ?_) | (refine wpLex_pure rfl (fun _ _ => ?_); go_simp; try go_bits) | (refine wpLex_read rfl (fun _ _ => ?_); go_simp; try go_bits) | (refine wpLex_loud rfl (fun _ _ => ?_)))
        exact ⟨⟨k + 1, n + 3, by omega, by rw [show ((j : Int) - 1) = 7 - ((k + 1 : Nat) : Int) by omega], by rw [HE.out]; simp only [n8_lt_iff], rfl⟩, by simp [intOf]; omega⟩
    · go_wp2_with (first | (refine wp_region_lex [] (by kernel_rfl) (by decide +kernel) ?_) | (refine wpLex_nil ?_) | (refine wpLex_pure rfl (fun _ _ => ?_); go_simp; try go_bits) | (refine wpLex_read rfl (fun _ _ => ?_); go_simp; try go_bits) | (refine wpLex_loud rfl (fun _ _ => ?_)))
      go_ret
      have e8 : k = 8 := by omega
      subst e8
      refine ⟨ret_bool ?_, below_drewN hb4⟩
      show (lessK a b 8 == decide (n64 a < n64 b)) = true
      rw [lessK_all]
      simp only [n64_lt_iff, beq_self_eq_true]
end Go.Proofs.Ytojnjaedfbokmaa
