/- OctetsTwice: what is mixed twice is what it was. -/
import Derived.Test.YtojnjaedfbokmaaAwake1
import Derived.Test.YtojnjaedfbokmaaOpen
namespace Go.Proofs.Ytojnjaedfbokmaa
open Go.RowKit

theorem xorB_at (a b : List UInt8) (i : Nat) (h : i < min a.length b.length) : at8 (xorB a b) i = at8 a i ^^^ at8 b i := at8_map _ i (fun i => at8 a i ^^^ at8 b i) h
theorem xorB_twice (a b : List UInt8) (h : a.length = b.length) : xorB (xorB a b) b = a := by
  refine ext8' (by rw [xorB_length, xorB_length]; omega) fun i hi => ?_
  rw [xorB_length, xorB_length] at hi
  rw [xorB_at _ _ _ (by rw [xorB_length]; omega), xorB_at _ _ _ (by omega), UInt8.xor_assoc, UInt8.xor_self, UInt8.xor_zero]
def zeroK (x : List UInt8) : Nat → Bool
  | 0 => true
  | k + 1 => zeroK x k && (n8 (at8 x k) == 0)
theorem n8z : n8 0 = 0 := by rw [n8_def]; rfl
theorem zeroK_iff (x : List UInt8) (k : Nat) : zeroK x k = true ↔ ∀ i, i < k → at8 x i = 0 := by
  induction k with
  | zero => simp [zeroK]
  | succ k ih =>
    rw [zeroK, Bool.and_eq_true, ih, beq_iff_eq]
    constructor
    · intro ⟨h1, h2⟩ i hi
      by_cases e : i = k
      · subst e; exact n8_inj (h2.trans n8z.symm)
      · exact h1 i (by omega)
    · intro h
      exact ⟨fun i hi => h i (by omega), by rw [h k (by omega), n8z]⟩
theorem zero_same (a b : List UInt8) (h : a.length = b.length) : decide (a = b) = zeroK (xorB a b) a.length := by
  rw [Bool.eq_iff_iff, decide_eq_true_eq, zeroK_iff, xorB_zero h]

set_option maxRecDepth 100000 in
set_option maxHeartbeats 1600000 in
theorem walk_OctetsTwice (A : Option Addr) (c : Nat) (a : List UInt8) (B : Option Addr) (d : Nat) (b : List UInt8) (w : World) (hc : a.length ≤ c) (hr : Rd8 w w.heap.size A a) (hd : b.length ≤ d) (hs : Rd8 w w.heap.size B b) :
    Calls Try.prog 5 #[.slice A a.length c, .slice B b.length d] w (TrueRes w) := by
  have HR := Lib.hid hr; clear hr
  have HS := Lib.hid hs; clear hs
  obtain ⟨n, hn⟩ : ∃ n : Nat, n = min a.length b.length := ⟨_, rfl⟩
  have hmin : min (a.length : Int) b.length = n := by omega
  go_enter Try.func5, Try.ntmps5
  go_wp2_with fail
  refine (awake_any _).mono ?_
  rintro e w1 ⟨rfl, hb1⟩
  by_cases h200 : 200 < (n : Int)
  · go_wp2_with fail
    go_ret
    exact ⟨rfl, hb1⟩
  · have hna : (n : Int) ≤ c := by omega
    have hnb : (n : Int) ≤ d := by omega
    have hna0 : (0 : Int) ≤ n := by omega
    obtain ⟨a', ha'⟩ : ∃ a', a' = a.take n := ⟨_, rfl⟩
    obtain ⟨b', hb'⟩ : ∃ b', b' = b.take n := ⟨_, rfl⟩
    have hla : a'.length = n := by rw [ha', List.length_take]; omega
    have hlb : b'.length = n := by rw [hb', List.length_take]; omega
    have HR := Lib.hid ((HR.out.step hb1).take n)
    have HS := Lib.hid ((HS.out.step hb1).take n)
    rw [← ha'] at HR
    rw [← hb'] at HS
    obtain ⟨x, hx⟩ : ∃ x, x = xorB a' b' := ⟨_, rfl⟩
    have hxl : x.length = n := by rw [hx, xorB_length]; omega
    have htw : xorB x b' = a' := by rw [hx]; exact xorB_twice a' b' (by omega)
    have hzs : decide (a' = b') = zeroK x n := by rw [hx, zero_same _ _ (by omega), hla]
    have hbig : n ≤ 140737488351232 := by omega
    have hnc : n ≤ c := by omega
    have hnd : n ≤ d := by omega
    have c1 := fun w h1 h2 => xor_at a' b' n n hla hlb A B c d hnc hnd hbig hbig w h1 h2
    have c2 := fun A2 c2 h w h1 h2 => xor_at x b' n n hxl hlb A2 B c2 d h hnd hbig hbig w h1 h2
    have c3 : ∀ w, Rd8 w w.heap.size A a' → Rd8 w w.heap.size B b' → Calls Try.prog 18 #[.slice A n c, .slice B n d] w fun e w' => e = .returned (.bool (zeroK x n)) ∧ Below w.heap.size w w' := by
      intro w h1 h2
      have := same_any A B c d a' b' (by omega) (by omega) (by omega) (by omega) w h1 h2
      unfold SameSays at this
      rw [hla, hlb, hzs] at this
      exact this
    rw [← hx] at c1
    rw [htw] at c2
    have C1 := Lib.hid c1; have C2 := Lib.hid c2; have C3 := Lib.hid c3
    unfold RdRes at C1 C2
    rw [hxl] at C1
    rw [hla] at C2
    have HA := Lib.hid hla
    have HXL := Lib.hid hxl
    clear c1 c2 c3 ha' hb' hx hzs htw hn hla hxl
    go_wp2_with (first | (refine wp_region_lex [] (by kernel_rfl) (by decide +kernel) ?_) | (refine wpLex_nil ?_) | (refine wpLex_pure rfl (fun _ _ => ?_); go_simp; try go_bits) | (refine wpLex_read rfl (fun _ _ => ?_); go_simp; try go_bits) | (refine wpLex_loud rfl (fun _ _ => ?_)))
    have HR := Lib.hid HR.out.drew'
    have HS := Lib.hid HS.out.drew'
    refine (C1.out _ HR.out HS.out).mono ?_
    rintro e w2 ⟨A2, c2, rfl, hc2, hr2, hb2⟩
    have HR := Lib.hid (HR.out.step hb2)
    have HS := Lib.hid (HS.out.step hb2)
    have HX := Lib.hid hr2
    have hb2 := hb1.drew.trans (hb2.mono hb1.size)
    clear hr2 hb1
    go_wp2_with (first | (refine wp_region_lex [] (by kernel_rfl) (by decide +kernel) ?_) | (refine wpLex_nil ?_) | (refine wpLex_pure rfl (fun _ _ => ?_); go_simp; try go_bits) | (refine wpLex_read rfl (fun _ _ => ?_); go_simp; try go_bits) | (refine wpLex_loud rfl (fun _ _ => ?_)))
    refine (C2.out _ _ hc2 _ HX.out HS.out).mono ?_
    rintro e w3 ⟨A3, c3, rfl, hc3, hr3, hb3⟩
    have HR := Lib.hid (HR.out.step hb3)
    have HS := Lib.hid (HS.out.step hb3)
    have HX := Lib.hid (HX.out.step hb3)
    have HY := Lib.hid hr3
    have hb3 := hb2.trans (hb3.mono hb2.size)
    clear hr3 hb2
    go_wp2_with (first | (refine wp_region_lex [] (by kernel_rfl) (by decide +kernel) ?_) | (refine wpLex_nil ?_) | (refine wpLex_pure rfl (fun _ _ => ?_); go_simp; try go_bits) | (refine wpLex_read rfl (fun _ _ => ?_); go_simp; try go_bits) | (refine wpLex_loud rfl (fun _ _ => ?_)))
    have HR := Lib.hid HR.out.drew'
    have HS := Lib.hid HS.out.drew'
    have HX := Lib.hid HX.out.drew'
    have HY := Lib.hid HY.out.drew'
    refine (C3.out _ HR.out HS.out).mono ?_
    rintro e w4 ⟨rfl, hb4⟩
    have HR := Lib.hid (HR.out.step hb4)
    have HX := Lib.hid (HX.out.step hb4)
    have HY := Lib.hid (HY.out.step hb4)
    have hb4 := hb3.drew.trans (hb4.mono hb3.size)
    clear hb3 HS
    go_wp2_with (first | (refine wp_region_lex [] (by kernel_rfl) (by decide +kernel) ?_) | (refine wpLex_nil ?_) | (refine wpLex_pure rfl (fun _ _ => ?_); go_simp; try go_bits) | (refine wpLex_read rfl (fun _ _ => ?_); go_simp; try go_bits) | (refine wpLex_loud rfl (fun _ _ => ?_)))
    go_loop [10, 11] (fun z i => ∃ k : Nat, k ≤ n ∧ i = .int .i64 k ∧ z = .bool (zeroK x k)) (fun _ i => n - (intOf i).toNat)
    case atStart => exact ⟨0, by omega, rfl, rfl⟩
    case round =>
      obtain ⟨k, hk, rfl, rfl⟩ := hrel
      by_cases hlt : k < n
      · obtain ⟨g, o, rfl, -, hcell⟩ := HX.out (by have := HXL.out; omega)
        have hck := hcell k (by have := HXL.out; omega)
        clear hcell
        have hk0 : (0 : Int) ≤ k := by omega
        have hk1 : (k : Int) < n := by omega
        have HZ : Hid (zeroK x (k + 1) = (zeroK x k && (n8 (at8 x k) == 0))) := Lib.hid rfl
        cases hz : zeroK x k with
        | true =>
          have HZ : Hid (zeroK x (k + 1) = (n8 (at8 x k) == 0)) := Lib.hid (by rw [HZ.out, hz]; rfl)
          clear hz
          go_wp2_with fail
          exact ⟨⟨k + 1, by omega, by go_num, by rw [HZ.out]⟩, by simp [intOf]; omega⟩
        | false =>
          have HZ : Hid (zeroK x (k + 1) = false) := Lib.hid (by rw [HZ.out, hz]; rfl)
          clear hz
          go_wp2_with fail
          exact ⟨⟨k + 1, by omega, by go_num, by rw [HZ.out]⟩, by simp [intOf]; omega⟩
      · have e : k = n := by omega
        subst e
        have hnn : ((k : Int) == k) = true := by simp
        go_wp2_with fail
        refine (same_at a' a' k k HA.out HA.out rfl A3 A c3 c hc3 (by omega) (by omega) _ HY.out HR.out).mono ?_
        rintro e w5 ⟨rfl, n5, rfl⟩
        go_wp2_with fail
        go_ret
        exact ⟨by simp, below_drewN hb4⟩
end Go.Proofs.Ytojnjaedfbokmaa
