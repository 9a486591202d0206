/- Layer 1: the document's digits. -/
import Derived.Test.YtojnjaedfbokmaaHex
namespace Go.Proofs.Ytojnjaedfbokmaa
open Go.RowKit
theorem enc_digit (d : Nat) (h : d < 16) : Utf8.encode (n8 (at8 hexD d)) = ⟨[at8 hexD d].toArray⟩ := by
  have key : ∀ d : Nat, d < 16 → (Utf8.encode ((at8 hexD d).toNat : Int)).data = [at8 hexD d].toArray := by decide +kernel
  rw [n8_def]
  have := key d h
  cases he : Utf8.encode ((at8 hexD d).toNat : Int)
  rw [he] at this
  simp only at this
  rw [this]
set_option maxHeartbeats 800000 in
theorem refHex_any (A : Option Addr) (c : Nat) (l : List UInt8) (hc : l.length ≤ c) (hm : l.length ≤ 35184372088832) (w : World) (hr : Rd8 w w.heap.size A l) :
    Calls Try.prog 30 #[.slice A l.length c] w fun e w' => e = .returned (.string ⟨(hexB l).toArray⟩) ∧ ∃ n, w' = w.drewN n := by
  have HR := Lib.hid hr; clear hr
  go_enter Try.func30, Try.ntmps30
  go_wp2
  go_loopw [3, 5] (fun s i wr => ∃ k n : Nat, k ≤ l.length ∧ i = .int .i64 k ∧ s = .string ⟨(hexB (l.take k)).toArray⟩ ∧ wr = w.drewN n) (fun _ i _ => l.length - (intOf i).toNat)
  case atStart => exact ⟨0, 0, by omega, rfl, rfl, rfl⟩
  case round =>
    obtain ⟨k, n, hk, rfl, rfl, rfl⟩ := hrel
    by_cases hlt : k < l.length
    · obtain ⟨g, o, rfl, hg, hcell⟩ := HR.out (by omega)
      have hck := hcell k (by omega)
      clear hcell
      have hk0 : (0 : Int) ≤ (k : Int) := by omega
      have hk1 : (k : Int) < l.length := by omega
      have h16 := div16 (at8 l k)
      have hm16 : n8 (at8 l k) % 16 = (((at8 l k).toNat % 16 : Nat) : Int) := by rw [n8_def]; omega
      obtain ⟨p, hp⟩ : ∃ p, p = (at8 l k).toNat / 16 := ⟨_, rfl⟩
      obtain ⟨q, hq⟩ : ∃ q, q = (at8 l k).toNat % 16 := ⟨_, rfl⟩
      have hp16 : p < 16 := by have := (at8 l k).toNat_lt; omega
      have hq16 : q < 16 := by omega
      rw [← hp] at h16
      rw [← hq] at hm16
      have h16' : ((at8 l k).toNat : Int) / 16 = (p : Int) := by rw [n8_def] at h16; exact h16
      have hm16' : ((at8 l k).toNat : Int) % 16 = (q : Int) := by rw [n8_def] at hm16; exact hm16
      have HP := Lib.hid hp
      have HQ := Lib.hid hq
      clear hp hq
      have hp0 : (0 : Int) ≤ p := by omega
      have hp1 : (p : Int) < 16 := by omega
      have hq0 : (0 : Int) ≤ q := by omega
      have hq1 : (q : Int) < 16 := by omega
      have hx : ∀ (d : Nat), d < 16 → ∀ w, (Instr.index 9 (.string ⟨hexD.toArray⟩) (.int .u8 d)).run Try.prog w = .ok (.int .u8 (n8 (at8 hexD d))) w := fun d hd w => run_index_str Try.underlying9 hexD .u8 d (by simpa [hexD] using hd) w
      have x1 := hx p hp16
      have x2 := hx q hq16
      have e1 := enc_digit p hp16
      have e2 := enc_digit q hq16
      have hlen : (hexB (l.take k)).length = 2 * k := by rw [hexB_length, List.length_take]; omega
      have hs1 : ¬ (9223372036854775807 < 2 * k + 1) := by omega
      have hs2 : ¬ (9223372036854775807 < 2 * k + 1 + 1) := by omega
      unfold hexD at x1 x2 e1 e2
      clear hx
      go_wp2_with (first | (refine wp_region_lex [] (by kernel_rfl) (by decide +kernel) ?_) | (refine wpLex_nil ?_) | (refine wpLex_pure rfl (fun _ _ => ?_); go_simp; try go_bits) | (refine wpLex_read rfl (fun _ _ => ?_); go_simp; try go_bits) | (refine wpLex_loud rfl (fun _ _ => ?_)))
      refine ⟨⟨k + 1, n + 1, by omega, by go_num, ?_, rfl⟩, by simp [intOf]; omega⟩
      have e : hexB (l.take (k + 1)) = hexB (l.take k) ++ [at8 hexD p] ++ [at8 hexD q] := by
        rw [take_succ8 _ _ hlt, hexB_snoc, HP.out, HQ.out]
      rw [e]
      unfold hexD
      congr 1
    · go_wp2_with fail
      go_ret
      have e : k = l.length := by omega
      subst e
      rw [List.take_length]
      exact ⟨rfl, n, rfl⟩
end Go.Proofs.Ytojnjaedfbokmaa
