/- OctetsNumbers, OctetsBack: the walks. -/
import Derived.Test.YtojnjaedfbokmaaNum
namespace Go.Proofs.Ytojnjaedfbokmaa
open Go.RowKit

set_option maxRecDepth 100000 in
set_option maxHeartbeats 1600000 in
theorem walk_OctetsNumbers (n : UInt64) (size : Int) (A : Option Addr) (c : Nat) (b : List UInt8) (w : World) (_ : -9223372036854775808 ≤ size) (_ : size ≤ 9223372036854775807) (hc : b.length ≤ c) (hr : Rd8 w w.heap.size A b) :
    Calls Try.prog 6 #[.int .u64 (n64 n), .int .i64 size, .slice A b.length c] w (TrueRes w) := by
  have HR := Lib.hid hr; clear hr
  go_enter Try.func6, Try.ntmps6
  go_wp2_with fail
  refine (awake_any _).mono ?_
  rintro e w1 ⟨rfl, hb1⟩
  have HR := Lib.hid (HR.out.step hb1)
  by_cases h40 : b.length ≤ 40
  · have hlen : (b.length : Int) ≤ 40 := by omega
    have hbig : b.length ≤ 140737488351232 := by omega
    have hx8 := lowX_length n size
    have hy8 : (lowX n size).reverse.length ≤ 8 := by rw [List.length_reverse]; exact hx8
    obtain ⟨x, hx⟩ : ∃ x, x = lowX n size := ⟨_, rfl⟩
    obtain ⟨y, hy⟩ : ∃ y, y = (lowX n size).reverse := ⟨_, rfl⟩
    have c1 := fun w => low_num n size w
    have c2 := fun w => high_num n size w
    have c3 := fun w => refLow_num n size w
    have c4 := fun w => refHigh_num n size w
    rw [← hx] at c1 c3 hx8
    rw [← hy] at c2 c4 hy8
    have C1 := Lib.hid c1; have C2 := Lib.hid c2; have C3 := Lib.hid c3; have C4 := Lib.hid c4
    clear c1 c2 c3 c4 hx hy
    go_wp2_with fail
    refine (C1.out _).mono ?_
    rintro e w2 ⟨A2, c2, rfl, hc2, hr2, hb2⟩
    have HR := Lib.hid (HR.out.step hb2)
    have HR2 := Lib.hid hr2
    have hb2 := hb1.trans (hb2.mono hb1.size)
    clear hr2 hb1
    go_wp2_with fail
    refine (C2.out _).mono ?_
    rintro e w3 ⟨A3, c3, rfl, hc3, hr3, hb3⟩
    have HR := Lib.hid (HR.out.step hb3)
    have HR2 := Lib.hid (HR2.out.step hb3)
    have HR3 := Lib.hid hr3
    have hb3 := hb2.trans (hb3.mono hb2.size)
    clear hr3 hb2
    go_wp2_with fail
    refine (ofLow_any A c b hc hbig _ HR.out).mono ?_
    rintro e w4 ⟨rfl, rfl⟩
    go_wp2_with fail
    refine (ofHigh_any A c b hc hbig _ HR.out).mono ?_
    rintro e w5 ⟨rfl, rfl⟩
    go_wp2_with fail
    refine (C3.out _).mono ?_
    rintro e w6 ⟨A6, c6, rfl, ho6, hb6⟩
    have HR := Lib.hid (HR.out.step hb6)
    have HR2 := Lib.hid (HR2.out.step hb6)
    have HR3 := Lib.hid (HR3.out.step hb6)
    have HR6 := Lib.hid ho6.rd
    have hc6 := ho6.len.2
    have hb6 := hb3.trans (hb6.mono hb3.size)
    clear ho6 hb3
    go_wp2_with fail
    refine (same_true rfl hc2 hc6 (by omega) HR2.out HR6.out).mono ?_
    rintro e w7 ⟨rfl, n7, rfl⟩
    go_wp2_with fail
    refine (C4.out _).mono ?_
    rintro e w8 ⟨A8, c8, rfl, ho8, hb8⟩
    have HR := Lib.hid ((HR.out.drewN' n7).step hb8)
    have HR3 := Lib.hid ((HR3.out.drewN' n7).step hb8)
    have HR8 := Lib.hid ho8.rd
    have hc8 := ho8.len.2
    have hb8 := (below_drewN hb6).trans (hb8.mono hb6.size)
    clear ho8 hb6
    go_wp2_with fail
    refine (same_true rfl hc3 hc8 (by omega) HR3.out HR8.out).mono ?_
    rintro e w9 ⟨rfl, n9, rfl⟩
    have HR := Lib.hid (HR.out.drewN' n9)
    go_wp2_with fail
    refine (refOfLow_any A c b hc hbig _ HR.out).mono ?_
    rintro e w10 ⟨rfl, rfl⟩
    rw [ofLow_ref]
    go_wp2_with fail
    refine (refOfHigh_any A c b hc hbig _ HR.out).mono ?_
    rintro e w11 ⟨rfl, rfl⟩
    rw [ofHigh_ref]
    go_wp2_with fail
    go_ret
    exact ⟨by simp, below_drewN hb8⟩
  · have hlen : (40 : Int) < b.length := by omega
    go_wp2_with fail
    go_ret
    exact ⟨rfl, hb1⟩

theorem shl_pow (n : UInt64) (k : Nat) (h : k < 8) : n64 n % (2 ^ (8 * k) : Int) = n64 (n % UInt64.ofNat (2 ^ (8 * k))) := by
  rw [n64_def, n64_def, UInt64.toNat_mod, UInt64.toNat_ofNat']
  have : 2 ^ (8 * k) ≤ 2 ^ 56 := Nat.pow_le_pow_right (by omega) (by omega)
  rw [Nat.mod_eq_of_lt (a := 2 ^ (8 * k)) (by omega)]
  push_cast
  rfl
/-- the number that the statement takes -/
def cutN (n : UInt64) (k : Nat) : UInt64 := if k < 8 then n % UInt64.ofNat (2 ^ (8 * k)) else n
theorem cutN_lt (n : UInt64) (k : Nat) (h8 : k ≤ 8) : (cutN n k).toNat < 2 ^ (8 * k) := by
  unfold cutN
  split
  · rename_i h
    rw [UInt64.toNat_mod, UInt64.toNat_ofNat']
    have : 2 ^ (8 * k) ≤ 2 ^ 56 := Nat.pow_le_pow_right (by omega) (by omega)
    rw [Nat.mod_eq_of_lt (a := 2 ^ (8 * k)) (by omega)]
    exact Nat.mod_lt _ (Nat.pow_pos (by omega))
  · rw [show k = 8 by omega]; exact n.toNat_lt

theorem digI_hexD : ∀ k, k < 16 → digI (at8 hexD k) = k := by
  intro k hk
  have key : ∀ k : Nat, k < 16 → digN (at8 hexD k).toNat = k := by decide +kernel
  rw [digI_def]; exact key k hk
theorem at8_append (a b : List UInt8) (i : Nat) : at8 (a ++ b) i = if i < a.length then at8 a i else at8 b (i - a.length) := by
  simp only [at8, List.getD, List.getElem?_append]
  split <;> rfl
theorem unhexK_append (l r : List UInt8) (k : Nat) (h : 2 * k ≤ l.length) : unhexK (l ++ r) k = unhexK l k := by
  induction k with
  | zero => rfl
  | succ k ih =>
    rw [unhexK, unhexK, ih (by omega)]
    have a0 : at8 (l ++ r) (2 * k) = at8 l (2 * k) := by rw [at8_append, if_pos]; omega
    have a1 : at8 (l ++ r) (2 * k + 1) = at8 l (2 * k + 1) := by rw [at8_append, if_pos]; omega
    unfold pairV
    rw [a0, a1]
theorem unhex_hexB (l : List UInt8) : unhexB (hexB l) = some l := by
  have e : unhexB (hexB l) = unhexK (hexB l) l.length := by
    unfold unhexB; rw [hexB_length, if_neg (by omega)]; congr 1; omega
  rw [e]
  clear e
  obtain ⟨n, hn⟩ : ∃ n, n = l.length := ⟨_, rfl⟩
  induction n generalizing l with
  | zero => rw [← hn]; rw [List.length_eq_zero_iff.1 hn.symm]; rfl
  | succ n ih0 =>
    obtain ⟨q, b, rfl, hq⟩ : ∃ q b, l = q ++ [b] ∧ q.length = n := ⟨l.take n, at8 l n, by rw [← take_succ8 l n (by omega), List.take_of_length_le (by omega)], by simp; omega⟩
    have ih := ih0 q hq.symm
    clear ih0
    rw [List.length_append, List.length_singleton, unhexK]
    have e : hexB (q ++ [b]) = hexB q ++ hexPair b := by simp [hexB]
    rw [e, unhexK_append _ _ _ (by rw [hexB_length]; omega), ih]
    have h0 : at8 (hexB q ++ hexPair b) (2 * q.length) = at8 hexD (b.toNat / 16) := by
      rw [at8_append, if_neg (by rw [hexB_length]; omega), hexB_length, show 2 * q.length - 2 * q.length = 0 by omega]; simp [at8, hexPair]
    have h1 : at8 (hexB q ++ hexPair b) (2 * q.length + 1) = at8 hexD (b.toNat % 16) := by
      rw [at8_append, if_neg (by rw [hexB_length]; omega), hexB_length, show 2 * q.length + 1 - 2 * q.length = 1 by omega]; simp [at8, hexPair]
    have hp : pairV (hexB q ++ hexPair b) q.length = some b := by
      have hb := b.toNat_lt
      unfold pairV
      rw [h0, h1, digI_hexD _ (by omega), digI_hexD _ (by omega), if_neg (by omega)]
      congr 1
      apply UInt8.toNat_inj.1
      rw [UInt8.toNat_ofNat']
      omega
    rw [hp]; rfl

set_option maxRecDepth 100000 in
set_option maxHeartbeats 1600000 in
theorem walk_OctetsBack (n : UInt64) (size : Int) (A : Option Addr) (c : Nat) (b : List UInt8) (w : World) (_ : -9223372036854775808 ≤ size) (_ : size ≤ 9223372036854775807) (hc : b.length ≤ c) (hr : Rd8 w w.heap.size A b) :
    Calls Try.prog 7 #[.int .u64 (n64 n), .int .i64 size, .slice A b.length c] w (TrueRes w) := by
  have HR := Lib.hid hr; clear hr
  go_enter Try.func7, Try.ntmps7
  go_wp2_with fail
  refine (awake_any _).mono ?_
  rintro e w1 ⟨rfl, hb1⟩
  have HR := Lib.hid (HR.out.step hb1)
  by_cases h1 : size < 1
  · go_wp2_with fail
    go_ret
    exact ⟨rfl, hb1⟩
  by_cases h8 : 8 < size
  · go_wp2_with fail
    go_ret
    exact ⟨rfl, hb1⟩
  by_cases hl : 200 < (b.length : Int)
  · go_wp2_with fail
    go_ret
    exact ⟨rfl, hb1⟩
  obtain ⟨k, rfl⟩ : ∃ k : Nat, size = k := ⟨size.toNat, by omega⟩
  obtain ⟨m, hm⟩ : ∃ m, m = cutN n k := ⟨_, rfl⟩
  have hlt : m.toNat < 2 ^ (8 * k) := by rw [hm]; exact cutN_lt n k (by omega)
  have hnm : Hid ((k : Int) < 8 → (n64 n).tmod (2 ^ (8 * k) : Int) = n64 m) := Lib.hid fun h => by
    rw [Int.tmod_eq_emod_of_nonneg (n64_ge n), hm, shl_pow n k (by omega)]; unfold cutN; rw [if_pos (by omega)]
  have hnm8 : Hid (¬ (k : Int) < 8 → n = m) := Lib.hid fun h => by
    rw [hm]; unfold cutN; rw [if_neg (by omega)]
  have hpow : Hid ((k : Int) < 8 → IntKind.u64.wrap (2 ^ (8 * k)) = 2 ^ (8 * k)) := Lib.hid fun h => by
    have h1 : 2 ^ (8 * k) ≤ 2 ^ 56 := Nat.pow_le_pow_right (by omega) (by omega)
    have h2 : ((2 ^ (8 * k) : Nat) : Int) = (2 ^ (8 * k) : Int) := by push_cast; rfl
    rw [wrap_u64, ← h2]; omega
  clear hm
  have hk1 : (1 : Int) ≤ k := by omega
  have hk8 : (k : Int) ≤ 8 := by omega
  have hl' : (b.length : Int) ≤ 200 := by omega
  have e1 := ofLow_lowB m k (by omega) hlt
  have e2 := ofHigh_highB m k (by omega) hlt
  obtain ⟨x, hx⟩ : ∃ x, x = lowB m k := ⟨_, rfl⟩
  obtain ⟨y, hy⟩ : ∃ y, y = highB m k := ⟨_, rfl⟩
  have hxl : x.length = k := by rw [hx, lowB_length]
  have hyl : y.length = k := by rw [hy, highB_length]
  have cl := fun w => low_res m k (by omega) (by omega) w
  have ch := fun w => high_res m k (by omega) (by omega) w
  rw [← hx] at cl e1
  rw [← hy] at ch e2
  have ol : ∀ (A : Option Addr) (c : Nat) (hc : k ≤ c) (w : World) (hr : Rd8 w w.heap.size A x), Calls Try.prog 19 #[.slice A k c] w fun e w' => e = .returned (.int .u64 (n64 m)) ∧ w = w' := by
    intro A c hc w hr
    have := ofLow_any A c x (by omega) (by omega) w hr
    unfold OfLowSays at this
    rw [hxl, show min k 8 = k by omega, e1] at this
    exact this
  have oh : ∀ (A : Option Addr) (c : Nat) (hc : k ≤ c) (w : World) (hr : Rd8 w w.heap.size A y), Calls Try.prog 20 #[.slice A k c] w fun e w' => e = .returned (.int .u64 (n64 m)) ∧ w = w' := by
    intro A c hc w hr
    have := ofHigh_any A c y (by omega) (by omega) w hr
    unfold OfHighSays at this
    rw [hyl, show min k 8 = k by omega, e2] at this
    exact this
  have CL := Lib.hid cl; have CH := Lib.hid ch; have OL := Lib.hid ol; have OH := Lib.hid oh
  clear cl ch ol oh e1 e2 hx hy
  by_cases hlt8 : (k : Int) < 8
  · have hp := hpow.out hlt8
    have hq := hnm.out hlt8
    have hz1 : ¬ ((2 : Int) ^ (8 * k) = 0) := by
      have : (0 : Int) < 2 ^ (8 * k) := Int.pow_pos (by omega)
      omega
    have hz : ¬ (IntKind.u64.wrap (2 ^ (8 * k)) = 0) := by rw [hp]; exact hz1
    have hz2 : (IntKind.u64.wrap (2 ^ (8 * k)) == 0) = false := by simp [hp, hz1]
    clear hpow hnm hnm8
    go_wp2_with fail
    refine (CL.out _).mono ?_
    rintro e w2 ⟨A2, c2, rfl, hc2, hr2, hb2⟩
    have HR := Lib.hid (HR.out.step hb2)
    have hb2 := hb1.trans (hb2.mono hb1.size)
    clear hb1
    rw [hxl] at hc2 ⊢
    go_wp2_with fail
    refine ((OL.out A2 c2 hc2 _ hr2)).mono ?_
    rintro e w3 ⟨rfl, rfl⟩
    clear hr2
    go_wp2_with fail
    refine (CH.out _).mono ?_
    rintro e w2' ⟨A3, c3, rfl, hc3, hr3, hb3⟩
    have HR := Lib.hid (HR.out.step hb3)
    have hb3 := hb2.trans (hb3.mono hb2.size)
    clear hb2
    rw [hyl] at hc3 ⊢
    go_wp2_with fail
    refine ((OH.out A3 c3 hc3 _ hr3)).mono ?_
    rintro e w4 ⟨rfl, rfl⟩
    clear hr3
    go_wp2_with fail
    refine (hex_any A c b hc (by omega) _ HR.out).mono ?_
    rintro e w5 ⟨rfl, hb5⟩
    have HR := Lib.hid (HR.out.step hb5)
    have hb5 := hb3.trans (hb5.mono hb3.size)
    clear hb3
    go_wp2_with fail
    refine (unhex_any (hexB b) (by rw [hexB_length]; omega) _).mono ?_
    rw [unhex_hexB]
    rintro e w6 ⟨A6, c6, rfl, ho6, hb6⟩
    have HR := Lib.hid (HR.out.step hb6)
    have HR6 := Lib.hid ho6.rd
    have hc6 := ho6.len.2
    have hb6 := hb5.trans (hb6.mono hb5.size)
    clear ho6 hb5
    go_wp2_with fail
    refine (same_true rfl hc hc6 (by omega) HR.out HR6.out).mono ?_
    rintro e w7 ⟨rfl, n7, rfl⟩
    go_wp2_with fail
    go_ret
    exact ⟨by simp, below_drewN hb6⟩
  · have hq := hnm8.out hlt8
    subst hq
    clear hpow hnm hnm8
    go_wp2_with fail
    refine (CL.out _).mono ?_
    rintro e w2 ⟨A2, c2, rfl, hc2, hr2, hb2⟩
    have HR := Lib.hid (HR.out.step hb2)
    have hb2 := hb1.trans (hb2.mono hb1.size)
    clear hb1
    rw [hxl] at hc2 ⊢
    go_wp2_with fail
    refine ((OL.out A2 c2 hc2 _ hr2)).mono ?_
    rintro e w3 ⟨rfl, rfl⟩
    clear hr2
    go_wp2_with fail
    refine (CH.out _).mono ?_
    rintro e w2' ⟨A3, c3, rfl, hc3, hr3, hb3⟩
    have HR := Lib.hid (HR.out.step hb3)
    have hb3 := hb2.trans (hb3.mono hb2.size)
    clear hb2
    rw [hyl] at hc3 ⊢
    go_wp2_with fail
    refine ((OH.out A3 c3 hc3 _ hr3)).mono ?_
    rintro e w4 ⟨rfl, rfl⟩
    clear hr3
    go_wp2_with fail
    refine (hex_any A c b hc (by omega) _ HR.out).mono ?_
    rintro e w5 ⟨rfl, hb5⟩
    have HR := Lib.hid (HR.out.step hb5)
    have hb5 := hb3.trans (hb5.mono hb3.size)
    clear hb3
    go_wp2_with fail
    refine (unhex_any (hexB b) (by rw [hexB_length]; omega) _).mono ?_
    rw [unhex_hexB]
    rintro e w6 ⟨A6, c6, rfl, ho6, hb6⟩
    have HR := Lib.hid (HR.out.step hb6)
    have HR6 := Lib.hid ho6.rd
    have hc6 := ho6.len.2
    have hb6 := hb5.trans (hb6.mono hb5.size)
    clear ho6 hb5
    go_wp2_with fail
    refine (same_true rfl hc hc6 (by omega) HR.out HR6.out).mono ?_
    rintro e w7 ⟨rfl, n7, rfl⟩
    go_wp2_with fail
    go_ret
    exact ⟨by simp, below_drewN hb6⟩
end Go.Proofs.Ytojnjaedfbokmaa
