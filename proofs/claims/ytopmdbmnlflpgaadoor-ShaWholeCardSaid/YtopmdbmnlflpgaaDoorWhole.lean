/- ShaWhole: the walk. -/
import Derived.Test.YtopmdbmnlflpgaaDoorAw2
namespace Go.Proofs.YtopmdbmnlflpgaaDoor
open Go.RowKit
theorem highB_rev (X : UInt64) : (lowB X 8).reverse = highB X 8 := rfl
theorem pad_tail (n : Nat) : (padB n).drop ((padB n).length - 8) = (lowB (UInt64.ofNat (8 * n)) 8).reverse := by
  rw [padB_length]
  unfold padB
  have e : 9 + padZ n - 8 = (padZ n + 1) := by omega
  rw [e, List.drop_succ_cons, List.drop_append_of_le_length (by simp), List.drop_eq_nil_of_le (by simp), List.nil_append]
theorem pad_head (n : Nat) : at8 (padB n) 0 = 128 := by simp [at8_def, padB]
theorem num_tail (X : UInt64) : numK ((lowB X 8).reverse) (min ((lowB X 8).reverse).length 8) = X := by
  rw [ofHigh_ref, List.length_reverse, lowB_length]
  exact ofHigh_highB X 8 (by omega) (by have := X.toNat_lt; omega)
set_option maxRecDepth 100000 in
set_option maxHeartbeats 1600000 in
theorem walk_ShaWhole (n : Int) (w : World) (he : ShaEnv w) (_ : -9223372036854775808 ≤ n) (_ : n ≤ 9223372036854775807) :
    Calls Tryd.prog 5 #[.int .i64 n] w (TrueRes' w) := by
  by_cases h1 : n < 0
  · go_enter Tryd.func5, Tryd.ntmps5
    go_wp2_with (go_at_call 19; refine (awake_any _ he).mono ?_; rintro e w1 ⟨rfl, hb1⟩)
    go_ret
    exact ⟨rfl, hb1⟩
  by_cases h2 : 100000 < n
  · go_enter Tryd.func5, Tryd.ntmps5
    go_wp2_with (go_at_call 19; refine (awake_any _ he).mono ?_; rintro e w1 ⟨rfl, hb1⟩)
    go_ret
    exact ⟨rfl, hb1⟩
  obtain ⟨k, rfl⟩ : ∃ k : Nat, n = k := ⟨n.toNat, by omega⟩
  obtain ⟨X, hX⟩ : ∃ X, X = UInt64.ofNat (8 * k) := ⟨_, rfl⟩
  obtain ⟨P, hP⟩ : ∃ P, P = padB k := ⟨_, rfl⟩
  obtain ⟨L, hL⟩ : ∃ L, L = P.length := ⟨_, rfl⟩
  obtain ⟨T, hT⟩ : ∃ T, T = (lowB X 8).reverse := ⟨_, rfl⟩
  have hz : padZ k < 64 := by unfold padZ; omega
  have hLv : L = 9 + padZ k := by rw [hL, hP, padB_length]
  have hL9 : 9 ≤ L := by omega
  have hL72 : L ≤ 72 := by omega
  have hmod : ((k : Int) + (L : Int)) % (64 : Int) = 0 := by have := padB_whole k; rw [← hP, ← hL] at this; omega
  have htl : P.drop (L - 8) = T := by rw [hL, hT, hX, hP, pad_tail]
  have hhd : n8 (at8 P 0) = 128 := by rw [hP, pad_head, n8_def]; rfl
  have hTl : T.length = 8 := by rw [hT]; simp [lowB_length]
  have hnum : numK T (min T.length 8) = X := by rw [hT]; exact num_tail X
  have hw1 : IntKind.u64.wrap ((8 : Int) * (k : Int)) = n64 X := by rw [hX, wrap_u64, n64_def, UInt64.toNat_ofNat']; omega
  have hw2 : ((8 : Int) * (k : Int)) % (18446744073709551616 : Int) = n64 X := by rw [← hw1, wrap_u64]
  have hpd := fun w => pad_any k (by omega) w
  rw [← hP] at hpd
  have HPD := Lib.hid hpd
  have HTL := Lib.hid htl
  have HTN := Lib.hid hnum
  have HTT := Lib.hid hTl
  have HL := Lib.hid hL
  clear hX hP hL hT hz hLv htl hTl hnum hpd
  have i1 : (9 : Int) ≤ L := by omega
  have i2 : (L : Int) ≤ 72 := by omega
  have i3 : ¬ ((72 : Int) < L) := by omega
  have i4 : ¬ ((L : Int) < 9) := by omega
  go_enter Tryd.func5, Tryd.ntmps5
  go_wp2_with fail
  refine (awake_any _ he).mono ?_
  rintro e w1 ⟨rfl, HB⟩
  go_wp2_with fail
  refine (HPD.out _).mono ?_
  rintro e w2 ⟨v2, rfl, hv2, hb2⟩
  replace HB := HB.trans (hb2.mono HB.size)
  clear hb2
  have hv := hv2
  obtain ⟨A, c, rfl, -, -, -⟩ := hv2
  rw [← HL.out] at hv ⊢
  obtain ⟨x, hx⟩ : ∃ x : Nat, (L : Int) - 8 = x := ⟨L - 8, by omega⟩
  have hxL : x ≤ L := by omega
  have hsl := run_from (P := Tryd.prog) Tryd.underlying27 (by kernel_rfl) A L c x hxL
  have hvd := hv.drop x hxL
  rw [show x = L - 8 by omega, HTL.out, show L - 8 = x by omega] at hvd
  have hc := refOfHigh_bs hvd
  rw [HTN.out] at hc
  have HC := Lib.hid hc
  obtain ⟨-, -, hrd⟩ := hv.rd
  obtain ⟨g, o, rfl, -, hcell⟩ := hrd (by rw [← HL.out]; omega)
  have c0 := hcell 0 (by rw [← HL.out]; omega)
  rw [Nat.add_zero, hhd] at c0
  have hL0 : (0 : Int) < L := by omega
  have hL00 : 0 < L := by omega
  clear hcell hrd hc hvd hv hhd
  go_wp2_with fail
  refine HC.out.mono ?_
  rintro e w3 ⟨rfl, rfl⟩
  go_wp2_with fail
  go_ret
  exact ⟨by simp, HB⟩
end Go.Proofs.YtopmdbmnlflpgaaDoor
