/- Layer 2: words turned right; a block's words. -/
import Derived.Test.YtopmdbmnlflpgaaDoorShaP
import Derived.Test.YtopmdbmnlflpgaaDoorShaT
import Derived.Test.YtopmdbmnlflpgaaDoorLexS
import Derived.Deep.LoopGhost
namespace Go.Proofs.YtopmdbmnlflpgaaDoor
open Go.RowKit
set_option maxRecDepth 100000 in
theorem rotneg_any (x : UInt32) (m : Nat) (i : Int) (h0 : 0 < m) (h1 : m < 32) (hi : i = (m : Int) - 32) (w : World) :
    Calls Tryd.prog 91 #[.int .u32 (n32 x), .int .i64 i] w fun e w' => e = .returned (.int .u32 (n32 (rotl x m))) ∧ w' = w := by
  have hm0 : (0 : Int) < m := by omega
  have hm1 : (m : Int) < 32 := by omega
  have hwr : IntKind.u64.wrap i = 18446744073709551584 + m := by rw [wrap_u64]; omega
  have hwr' : i % 18446744073709551616 = 18446744073709551584 + m := by omega
  have ha : bits BinOp.and IntKind.u64 (18446744073709551584 + (m : Int)) 31 = m := by
    have h : (31 : Int) = n64 31 := by rw [n64_def]; rfl
    have hk : (18446744073709551584 + (m : Int)) = n64 (UInt64.ofNat (18446744073709551584 + m)) := by rw [n64_def, UInt64.toNat_ofNat']; omega
    rw [hk, h, u64_and, n64_def, UInt64.toNat_and]
    have := Nat.and_two_pow_sub_one_eq_mod (UInt64.ofNat (18446744073709551584 + m)).toNat 5
    simp at this ⊢
    omega
  have hl := shl32_fold x m h1
  have hr := shr32_fold x (32 - m) (by omega)
  clear hi
  go_enter Tryd.func91, Tryd.ntmps91
  go_wp2
  go_ret
  exact ⟨by unfold rotl; rfl, rfl⟩
theorem right_at (x : UInt32) (k : Nat) (i : Int) (hi : i = k) (h0 : 0 < k) (h1 : k < 32) (w : World) :
    Calls Tryd.prog 69 #[.int .u32 (n32 x), .int .i64 i] w fun e w' => e = .returned (.int .u32 (n32 (rotr x k))) ∧ w' = w := by
  have hi0 : (0 : Int) < i := by omega
  have hi1 : i < 32 := by omega
  have hc := rotneg_any x (32 - k) (-i) (by omega) (by omega) (by omega)
  rw [← rotr_def] at hc
  have HC := Lib.hid hc
  clear hi hc
  go_enter Tryd.func69, Tryd.ntmps69
  go_wp2_with fail
  refine (HC.out _).mono ?_
  rintro e w1 ⟨rfl, rfl⟩
  go_wp2_with fail
  go_ret
  exact ⟨rfl, rfl⟩
def w64H (l : List UInt8) (o : Nat) : UInt64 := ofHighK ((l.drop o).take 4) 4
theorem beAt_of (l : List UInt8) (o : Nat) : IntKind.u32.wrap (n64 (w64H l o)) = n32 (beAt l o) := by
  have e : ∀ i, i < 4 → at8 ((l.drop o).take 4) i = at8 l (o + i) := fun i hi => by
    simp [at8, List.getD, List.getElem?_drop, hi]
  have h0 := (at8 l o).toNat_lt
  have h1 := (at8 l (o + 1)).toNat_lt
  have h2 := (at8 l (o + 2)).toNat_lt
  have h3 := (at8 l (o + 3)).toNat_lt
  have hv : (w64H l o).toNat = (at8 l o).toNat * 16777216 + (at8 l (o + 1)).toNat * 65536 + (at8 l (o + 2)).toNat * 256 + (at8 l (o + 3)).toNat := by
    unfold w64H
    rw [ofHighK_val _ _ (by omega)]
    simp only [highV, e 0 (by omega), e 1 (by omega), e 2 (by omega), e 3 (by omega)]
    simp
    omega
  rw [wrap_u32, n64_def, hv, n32_def]
  unfold beAt
  rw [UInt32.toNat_ofNat']
  omega
theorem ofHigh4 (l : List UInt8) (o : Nat) (h : o + 4 ≤ l.length) (A : Option Addr) (c : Nat) (hc : 4 ≤ c) (w : World) (hr : Rd8 w w.heap.size A ((l.drop o).take 4)) :
    Calls Tryd.prog 90 #[.slice A 4 c] w fun e w' => e = .returned (.int .u64 (n64 (w64H l o))) ∧ w = w' := by
  have hl : ((l.drop o).take 4).length = 4 := by simp; omega
  have := ofHigh_any A c ((l.drop o).take 4) (by omega) (by omega) w hr
  unfold OfHighSays at this
  rw [hl] at this
  exact this
theorem sched_low (bl : List UInt8) (k : Nat) (h : k < 16) : (schedK bl k).set k (beAt bl (4 * k)) = schedK bl (k + 1) := by
  rw [schedK, if_pos h]
theorem sched_high (bl : List UInt8) (k : Nat) (h : ¬ k < 16) : (schedK bl k).set k (nextW (schedK bl k) k) = schedK bl (k + 1) := by
  rw [schedK, if_neg h]
theorem sched_zero (bl : List UInt8) : schedK bl 0 = z32 64 := by rw [z32_def]; rfl
theorem shr3 (x : UInt32) : n32 x / (8 : Int) = n32 (x >>> 3) := shr32_fold x 3 (by omega)
theorem shr10 (x : UInt32) : n32 x / (1024 : Int) = n32 (x >>> 10) := shr32_fold x 10 (by omega)
theorem sg0_fold (x : UInt32) : rotr x 7 ^^^ rotr x 18 ^^^ (x >>> 3) = sg0 x := by unfold sg0; rfl
theorem sg1_fold (x : UInt32) : rotr x 17 ^^^ rotr x 19 ^^^ (x >>> 10) = sg1 x := by unfold sg1; rfl
attribute [local go_sem] shr3 shr10 sg0_fold sg1_fold
def WRes (w : World) (ws : List UInt32) (e : Ending) (w' : World) : Prop := e = .returned (.agg (u32s ws)) ∧ Below w.heap.size w w'
set_option maxRecDepth 100000 in
set_option maxHeartbeats 1600000 in
theorem words_any (bl : List UInt8) (hb : bl.length = 64) (w : World) :
    Calls Tryd.prog 68 #[.agg (u8s bl)] w (WRes w (schedK bl 64)) := by
  obtain ⟨S, hS⟩ : ∃ S : Nat → List UInt32, S = schedK bl := ⟨_, rfl⟩
  have S0 : Hid (z32 64 = S 0) := Lib.hid (by rw [hS, sched_zero])
  have SL : Hid (∀ k, (S k).length = 64) := Lib.hid (by rw [hS]; exact schedK_length bl)
  have SA : Hid (∀ k, k < 16 → (S k).set k (beAt bl (4 * k)) = S (k + 1)) := Lib.hid (by rw [hS]; exact sched_low bl)
  have SB : Hid (∀ k, ¬ k < 16 → (S k).set k (nextW (S k) k) = S (k + 1)) := Lib.hid (by rw [hS]; exact sched_high bl)
  rw [← hS]
  clear hS
  go_enter Tryd.func68, Tryd.ntmps68
  go_wp2_with fail
  go_loopw [10] (fun i wr => ∃ k : Nat, k ≤ 16 ∧ i = .int .i64 k ∧ wr = ((w.alloc (.cells (u8s bl) 24)).alloc (.cells (u32s (z32 64)) 114)).alloc (.cells (u32s (S k)) 114)) (fun i _ => 16 - (intOf i).toNat)
  case atStart => exact ⟨0, by omega, rfl, by rw [S0.out]⟩
  case round =>
    obtain ⟨k, hk, rfl, rfl⟩ := hrel
    have hsl := SL.out k
    by_cases hlt : k < 16
    · have hfs := SA.out k hlt
      have hk0 : (0 : Int) ≤ (k : Int) := by omega
      have hk1 : (k : Int) < 16 := by omega
      have hk2 : (k : Int) < 64 := by omega
      have hk3 : k < 64 := by omega
      obtain ⟨x, hx⟩ : ∃ x : Nat, (4 : Int) * k = x := ⟨4 * k, by omega⟩
      obtain ⟨y, hy⟩ : ∃ y : Nat, (x : Int) + 4 = y := ⟨x + 4, by omega⟩
      have hx0 : (0 : Int) ≤ x := by omega
      have hxy : (x : Int) ≤ y := by omega
      have hy64 : (y : Int) ≤ 64 := by omega
      have hyx : y - x = 4 := by omega
      have hne : ¬ (64 = x) := by omega
      rw [show 4 * k = x by omega] at hfs
      have hw := beAt_of bl x
      go_wp2_with fail
      refine (ofHigh4 bl x (by omega) _ _ (by omega) _ (rd8_part ⟨by go_simp, by go_simp⟩ x 4)).mono ?_
      rintro e w' ⟨rfl, rfl⟩
      go_wp2_with fail
      exact ⟨⟨k + 1, by omega, by go_num, rfl⟩, by simp [intOf]; omega⟩
    · have e16 : k = 16 := by omega
      subst e16
      rw [show ((16 : Nat) : Int) = 16 from rfl]
      go_wp2_with fail
      go_loopw [5] (fun i wr => ∃ k n : Nat, 16 ≤ k ∧ k ≤ 64 ∧ i = .int .i64 k ∧ wr = (((w.alloc (.cells (u8s bl) 24)).alloc (.cells (u32s (z32 64)) 114)).alloc (.cells (u32s (S k)) 114)).drewN n) (fun i _ => 64 - (intOf i).toNat)
      case atStart => exact ⟨16, 0, by omega, by omega, rfl, rfl⟩
      case round =>
        obtain ⟨k, n, hk16, hk, rfl, rfl⟩ := hrel
        have hsl := SL.out k
        by_cases hlt : k < 64
        · have hfs := SB.out k (by omega)
          obtain ⟨sc, hsc⟩ : ∃ sc, sc = S k := ⟨_, rfl⟩
          rw [← hsc] at hfs hsl ⊢
          have HF := Lib.hid hfs
          have HS := Lib.hid hsc
          clear hfs hsc
          have hk0 : (0 : Int) ≤ (k : Int) := by omega
          have hk2 : (k : Int) < 64 := by omega
          have hk3 : k < 64 := by omega
          obtain ⟨a, ha⟩ : ∃ a : Nat, (k : Int) - 15 = a := ⟨k - 15, by omega⟩
          obtain ⟨b, hb'⟩ : ∃ a : Nat, (k : Int) - 2 = a := ⟨k - 2, by omega⟩
          obtain ⟨c, hc⟩ : ∃ a : Nat, (k : Int) - 16 = a := ⟨k - 16, by omega⟩
          obtain ⟨d, hd⟩ : ∃ a : Nat, (k : Int) - 7 = a := ⟨k - 7, by omega⟩
          have hnw : nextW sc k = at32 sc c + sg0 (at32 sc a) + at32 sc d + sg1 (at32 sc b) := by
            unfold nextW
            rw [show k - 16 = c by omega, show k - 15 = a by omega, show k - 7 = d by omega, show k - 2 = b by omega]
          have HW := Lib.hid hnw
          clear hnw
          have ha0 : (0 : Int) ≤ a := by omega
          have hb0 : (0 : Int) ≤ b := by omega
          have hc0 : (0 : Int) ≤ c := by omega
          have hd0 : (0 : Int) ≤ d := by omega
          have ha1 : (a : Int) < 64 := by omega
          have hb1 : (b : Int) < 64 := by omega
          have hc1 : (c : Int) < 64 := by omega
          have hd1 : (d : Int) < 64 := by omega
          have ha2 : a < 64 := by omega
          have hb2 : b < 64 := by omega
          have hc2 : c < 64 := by omega
          have hd2 : d < 64 := by omega
          go_wp2_with (first | (refine wp_region_lex [] (by kernel_rfl) (by decide +kernel) ?_) | (refine wpLex_nil ?_) | (refine wpLex_pure rfl (fun _ _ => ?_); go_simp; try go_bits) | (refine wpLex_read rfl (fun _ _ => ?_); go_simp; try go_bits) | (refine wpLex_loud rfl (fun _ _ => ?_)))
          refine (right_at _ 7 7 rfl (by omega) (by omega) _).mono ?_
          rintro e w1 ⟨rfl, rfl⟩
          go_wp2_with (first | (refine wp_region_lex [] (by kernel_rfl) (by decide +kernel) ?_) | (refine wpLex_nil ?_) | (refine wpLex_pure rfl (fun _ _ => ?_); go_simp; try go_bits) | (refine wpLex_read rfl (fun _ _ => ?_); go_simp; try go_bits) | (refine wpLex_loud rfl (fun _ _ => ?_)))
          refine (right_at _ 18 18 rfl (by omega) (by omega) _).mono ?_
          rintro e w1 ⟨rfl, rfl⟩
          go_wp2_with (first | (refine wp_region_lex [] (by kernel_rfl) (by decide +kernel) ?_) | (refine wpLex_nil ?_) | (refine wpLex_pure rfl (fun _ _ => ?_); go_simp; try go_bits) | (refine wpLex_read rfl (fun _ _ => ?_); go_simp; try go_bits) | (refine wpLex_loud rfl (fun _ _ => ?_)))
          refine (right_at _ 17 17 rfl (by omega) (by omega) _).mono ?_
          rintro e w1 ⟨rfl, rfl⟩
          go_wp2_with (first | (refine wp_region_lex [] (by kernel_rfl) (by decide +kernel) ?_) | (refine wpLex_nil ?_) | (refine wpLex_pure rfl (fun _ _ => ?_); go_simp; try go_bits) | (refine wpLex_read rfl (fun _ _ => ?_); go_simp; try go_bits) | (refine wpLex_loud rfl (fun _ _ => ?_)))
          refine (right_at _ 19 19 rfl (by omega) (by omega) _).mono ?_
          rintro e w1 ⟨rfl, rfl⟩
          go_wp2_with (first | (refine wp_region_lex [] (by kernel_rfl) (by decide +kernel) ?_) | (refine wpLex_nil ?_) | (refine wpLex_pure rfl (fun _ _ => ?_); go_simp; try go_bits) | (refine wpLex_read rfl (fun _ _ => ?_); go_simp; try go_bits) | (refine wpLex_loud rfl (fun _ _ => ?_)))
          refine ⟨⟨k + 1, n + 1 + 1, by omega, by omega, by go_num, ?_⟩, by simp [intOf]; omega⟩
          rw [← HF.out, HW.out]
        · have e64 : k = 64 := by omega
          subst e64
          have hsl := SL.out 64
          go_wp2_with fail
          refine bodyPost_retRow 2 _ (w.heap.size + 1) 64 rfl rfl (by omega) (by kernel_rfl) (by kernel_rfl) ?_ rfl ?_
          · go_simp
          · go_simp
            exact ⟨rfl, below_drewN (((((Below.refl w.heap.size w).alloc (Nat.le_refl _) _).alloc (by simp) _).alloc (by simp; omega) _))⟩
end Go.Proofs.YtopmdbmnlflpgaaDoor
