/- Digits' bytes have these digits. -/
import Derived.Test.YtojnjaedfbokmaaAwake1
import Derived.Test.YtojnjaedfbokmaaOpen
namespace Go.Proofs.Ytojnjaedfbokmaa
open Go.RowKit

theorem digI_char : ∀ c : UInt8, 0 ≤ digI c → at8 hexD (digI c).toNat = c := by
  intro c h
  rw [digI_def] at h ⊢
  have hlt : c.toNat < 256 := c.toNat_lt
  have key : ∀ n : Nat, n < 256 → 0 ≤ digN n → at8 hexD (digN n).toNat = UInt8.ofNat n := by decide +kernel
  have := key c.toNat hlt h
  rw [this]; simp
theorem pair_digits {l : List UInt8} {k : Nat} {b : UInt8} (h : pairV l k = some b) : hexPair b = [at8 l (2 * k), at8 l (2 * k + 1)] := by
  unfold pairV at h
  split at h
  · cases h
  · rename_i hn
    cases h
    have h1 := digI_range (at8 l (2 * k))
    have h2 := digI_range (at8 l (2 * k + 1))
    have c1 := digI_char (at8 l (2 * k)) (by omega)
    have c2 := digI_char (at8 l (2 * k + 1)) (by omega)
    unfold hexPair
    generalize digI (at8 l (2 * k)) = x at *
    generalize digI (at8 l (2 * k + 1)) = y at *
    have e : (UInt8.ofNat (16 * x + y).toNat).toNat = (16 * x + y).toNat := by rw [UInt8.toNat_ofNat']; omega
    rw [e, show (16 * x + y).toNat / 16 = x.toNat by omega, show (16 * x + y).toNat % 16 = y.toNat by omega, c1, c2]
theorem unhexK_hex {l r : List UInt8} {k : Nat} (hk : 2 * k ≤ l.length) (h : unhexK l k = some r) : hexB r = l.take (2 * k) := by
  induction k generalizing r with
  | zero => simp [unhexK] at h; subst h; simp [hexB]
  | succ k ih =>
    rw [unhexK] at h
    cases hq : unhexK l k with
    | none => rw [hq] at h; simp at h
    | some q =>
      rw [hq] at h
      simp only [Option.bind_some, Option.map_eq_some_iff] at h
      obtain ⟨b, hb, rfl⟩ := h
      have hp := pair_digits hb
      have : hexB (q ++ [b]) = hexB q ++ hexPair b := by simp [hexB]
      rw [this, ih (by omega) hq, hp, show 2 * (k + 1) = 2 * k + 1 + 1 by omega, take_succ8 l (2 * k + 1) (by omega), take_succ8 l (2 * k) (by omega)]
      simp
theorem unhexB_hex {l r : List UInt8} (h : unhexB l = some r) : hexB r = l := by
  unfold unhexB at h
  split at h
  · cases h
  · rw [unhexK_hex (by omega) h, List.take_of_length_le (by omega)]

set_option maxRecDepth 100000 in
set_option maxHeartbeats 1600000 in
theorem walk_OctetsDigits (s : List UInt8) (w : World) : Calls Try.prog 3 #[.string ⟨s.toArray⟩] w (TrueRes w) := by
  go_enter Try.func3, Try.ntmps3
  go_wp2_with fail
  refine (awake_any _).mono ?_
  rintro e w1 ⟨rfl, hb1⟩
  by_cases h200 : s.length ≤ 200
  · have hlen : (s.length : Int) ≤ 200 := by omega
    go_wp2_with fail
    refine (unhex_any s (by omega) _).mono ?_
    intro e w2 h2
    cases hu : unhexB s with
    | none =>
      rw [hu] at h2
      obtain ⟨rfl, hb2⟩ := h2
      have hb2 := hb1.trans (hb2.mono hb1.size)
      clear hb1
      go_wp2_with fail
      refine (refUnhex_any s (by omega) _).mono ?_
      rw [hu]
      rintro e w3 ⟨rfl, hb3⟩
      have hb3 := hb2.trans (hb3.mono hb2.size)
      clear hb2
      go_wp2_with fail
      refine (hex_any none 0 [] (by simp) (by simp) _ (Rd8.nil _ _ _)).mono ?_
      rintro e w4 ⟨rfl, hb4⟩
      have hb4 := hb3.trans (hb4.mono hb3.size)
      clear hb3
      go_wp2_with fail
      refine (refSame_any none none 0 0 [] [] (by simp) (by simp) (by simp) (by simp) _ (Rd8.nil _ _ _) (Rd8.nil _ _ _)).mono ?_
      rintro e w5 ⟨rfl, n5, rfl⟩
      go_wp2_with fail
      go_ret
      exact ⟨rfl, below_drewN hb4⟩
    | some r =>
      rw [hu] at h2
      obtain ⟨A2, c2, rfl, ho2, hb2⟩ := h2
      have hrs := unhexB_hex hu
      have hrl : r.length ≤ 200 := by rw [← hrs, hexB_length] at h200; omega
      have HRS := Lib.hid hrs
      have HR2 := Lib.hid ho2.rd
      have hc2 := ho2.len.2
      have hb2 := hb1.trans (hb2.mono hb1.size)
      clear hb1 ho2 hrs
      go_wp2_with fail
      refine (refUnhex_any s (by omega) _).mono ?_
      rw [hu]
      rintro e w3 ⟨A3, c3, rfl, ho3, hb3⟩
      have HR2 := Lib.hid (HR2.out.step hb3)
      have HR3 := Lib.hid ho3.rd
      have hc3 := ho3.len.2
      have hb3 := hb2.trans (hb3.mono hb2.size)
      clear hb2 ho3
      go_wp2_with fail
      refine (hex_any A2 c2 r hc2 (by omega) _ HR2.out).mono ?_
      rintro e w4 ⟨rfl, hb4⟩
      have HR2 := Lib.hid (HR2.out.step hb4)
      have HR3 := Lib.hid (HR3.out.step hb4)
      have hb4 := hb3.trans (hb4.mono hb3.size)
      clear hb3
      rw [HRS.out]
      go_wp2_with fail
      refine (refSame_any A2 A3 c2 c3 r r hc2 hc3 (by omega) (by omega) _ HR2.out HR3.out).mono ?_
      rintro e w5 ⟨rfl, n5, rfl⟩
      go_wp2_with fail
      go_ret
      exact ⟨by simp, below_drewN hb4⟩
  · have hlen : (200 : Int) < s.length := by omega
    go_wp2_with fail
    go_ret
    exact ⟨rfl, hb1⟩
end Go.Proofs.Ytojnjaedfbokmaa
