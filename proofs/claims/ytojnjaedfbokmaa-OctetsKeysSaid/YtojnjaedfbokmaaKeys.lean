/- OctetsKeys: a key is its bytes. -/
import Derived.Test.YtojnjaedfbokmaaAwake1
import Derived.Test.YtojnjaedfbokmaaOpen
import Derived.Test.YtojnjaedfbokmaaKeyBs
import Derived.Test.YtojnjaedfbokmaaJoin
import Derived.Test.YtojnjaedfbokmaaEq
namespace Go.Proofs.Ytojnjaedfbokmaa
open Go.RowKit
set_option maxRecDepth 100000 in
set_option maxHeartbeats 1600000 in
theorem walk_OctetsKeys (A : Option Addr) (c : Nat) (b : List UInt8) (at' : Int) (w : World) (hc : b.length ≤ c) (hr : Rd8 w w.heap.size A b) (_ : -9223372036854775808 ≤ at') (_ : at' ≤ 9223372036854775807) :
    Calls Try.prog 8 #[.slice A b.length c, .int .i64 at'] w (TrueRes w) := by
  obtain ⟨n, hn⟩ : ∃ n, n = b.length := ⟨_, rfl⟩
  rw [← hn] at hc ⊢
  have HR := Lib.hid hr; clear hr
  have HN := Lib.hid hn; clear hn
  by_cases h1 : 100 < (n : Int)
  · go_enter Try.func8, Try.ntmps8
    go_wp2_with (go_at_call 10; refine (awake_any _).mono ?_; rintro e w1 ⟨rfl, hb1⟩)
    go_ret
    exact ⟨rfl, hb1⟩
  by_cases h2 : at' < 0
  · go_enter Try.func8, Try.ntmps8
    go_wp2_with (go_at_call 10; refine (awake_any _).mono ?_; rintro e w1 ⟨rfl, hb1⟩)
    go_ret
    exact ⟨rfl, hb1⟩
  obtain ⟨k, rfl⟩ : ∃ k : Nat, at' = k := ⟨at'.toNat, by omega⟩
  by_cases h3 : (n : Int) < k
  · go_enter Try.func8, Try.ntmps8
    go_wp2_with (go_at_call 10; refine (awake_any _).mono ?_; rintro e w1 ⟨rfl, hb1⟩)
    go_ret
    exact ⟨rfl, hb1⟩
  · have hk : k ≤ n := by omega
    have hkc : (k : Int) ≤ c := by omega
    have hkn : (k : Int) ≤ n := by omega
    have hsl := run_from (P := Try.prog) Try.underlying23 (by kernel_rfl) A n c k hk
    have hbs : Bs w (.slice A n c) b := Bs.of' HN.out.symm hc (by omega) HR.out
    have hta := hbs.take k hk
    have hdr := hbs.drop k hk
    have hke : (keyErr b == 0) = decide (b.length = 32) := by
      unfold keyErr; rw [← HN.out, Bool.eq_iff_iff, beq_iff_eq, decide_eq_true_eq]; split <;> (try split) <;> omega
    go_enter Try.func8, Try.ntmps8
    go_wp2_with fail
    refine (awake_any _).mono ?_
    rintro e w1 ⟨rfl, hb1⟩
    replace hbs := hbs.step hb1; replace hta := hta.step hb1; replace hdr := hdr.step hb1
    have HB := hb1
    go_wp2_with (first | (refine wp_region_lex [] (by kernel_rfl) (by decide +kernel) ?_) | (refine wpLex_nil ?_) | (refine wpLex_pure rfl (fun _ _ => ?_); go_simp; try go_bits) | (refine wpLex_read rfl (fun _ _ => ?_); go_simp; try go_bits) | (refine wpLex_loud rfl (fun _ _ => ?_)))
    have hfl : [b.take k, b.drop k].flatten = b := by simp
    refine (join_bs _ [b.take k, b.drop k] (by rw [hfl, ← HN.out]; omega) _ ((BsL.lit2 _ hta hdr).step (Below.refl _ _).drew)).mono ?_
    rintro e w2 ⟨v2, rfl, hv2, hb2⟩
    rw [hfl] at hv2
    replace hb2 := Below.pred (w1 := w1) (by repeat (first | with_reducible exact Below.refl _ _ | with_reducible assumption | refine Below.drew ?_ | refine below_drewN ?_ | refine Below.alloc ?_ (by simp <;> omega) _ | refine below_setRow ?_ (by omega) _ | refine Below.setCell ?_ (by simp <;> omega) _)) hb2; replace hbs := hbs.step hb2; replace HB := HB.trans (hb2.mono HB.size)
    clear hfl hta hdr hsl hb1
    by_cases h32 : n = 32
    · have hl32 : b.length = 32 := by rw [← HN.out]; exact h32
      have ek : keyOf b = b := by unfold keyOf; rw [if_pos hl32]
      have ee : keyErr b = 0 := by unfold keyErr; rw [if_neg (by omega), if_neg (by omega)]
      have hkr := fun (w : World) (a : Value) (h : Bs w a b) => toKey_bs h
      unfold KeyRes at hkr
      rw [ek, ee] at hkr
      have HK := Lib.hid hkr
      have HL := Lib.hid hl32
      subst h32
      clear hkr ek ee hke
      go_wp2_with (first | (refine wp_region_lex [] (by kernel_rfl) (by decide +kernel) ?_) | (refine wpLex_nil ?_) | (refine wpLex_pure rfl (fun _ _ => ?_); go_simp; try go_bits) | (refine wpLex_read rfl (fun _ _ => ?_); go_simp; try go_bits) | (refine wpLex_loud rfl (fun _ _ => ?_)))
      refine (HK.out _ _ hbs).mono ?_
      rintro e w3 ⟨rfl, hb3⟩
      replace hb3 := Below.pred (w1 := w2) (by repeat (first | with_reducible exact Below.refl _ _ | with_reducible assumption | refine Below.drew ?_ | refine below_drewN ?_ | refine Below.alloc ?_ (by simp <;> omega) _ | refine below_setRow ?_ (by omega) _ | refine Below.setCell ?_ (by simp <;> omega) _)) hb3; replace hbs := hbs.step hb3; replace hv2 := hv2.step hb3; replace HB := HB.trans (hb3.mono HB.size)
      go_wp2_with (first | (refine wp_region_lex [] (by kernel_rfl) (by decide +kernel) ?_) | (refine wpLex_nil ?_) | (refine wpLex_pure rfl (fun _ _ => ?_); go_simp; try go_bits) | (refine wpLex_read rfl (fun _ _ => ?_); go_simp; try go_bits) | (refine wpLex_loud rfl (fun _ _ => ?_)))
      have hq := (Below.refl w3.heap.size w3).alloc (Nat.le_refl _) (.cells (u8s b) 38)
      refine (refSame_bs (hv2.step hq) (hbs.step hq)).mono ?_
      rintro e w4 ⟨rfl, hb4⟩
      have R : RowIs w4 w3.heap.size (u8s b) := (RowIs.new _ _ _).step hb4
      have Rh := R.has; have Rr := R.row; have Rl := R.lt
      replace hb4 := Below.pred (w1 := w3) (by repeat (first | with_reducible exact Below.refl _ _ | with_reducible assumption | refine Below.drew ?_ | refine below_drewN ?_ | refine Below.alloc ?_ (by simp <;> omega) _ | refine below_setRow ?_ (by omega) _ | refine Below.setCell ?_ (by simp <;> omega) _)) hb4; replace hbs := hbs.step hb4; replace HB := HB.trans (hb4.mono HB.size)
      go_wp2_with (first | (refine wp_region_lex [] (by kernel_rfl) (by decide +kernel) ?_) | (refine wpLex_nil ?_) | (refine wpLex_pure rfl (fun _ _ => ?_); go_simp; try go_bits) | (refine wpLex_read rfl (fun _ _ => ?_); go_simp; try go_bits) | (refine wpLex_loud rfl (fun _ _ => ?_)))
      refine (bytes_bs b HL.out _).mono ?_
      rintro e w5 ⟨v5, rfl, hv5, hb5⟩
      replace hb5 := Below.pred (w1 := w4) (by repeat (first | with_reducible exact Below.refl _ _ | with_reducible assumption | refine Below.drew ?_ | refine below_drewN ?_ | refine Below.alloc ?_ (by simp <;> omega) _ | refine below_setRow ?_ (by omega) _ | refine Below.setCell ?_ (by simp <;> omega) _)) hb5; replace hbs := hbs.step hb5; replace HB := HB.trans (hb5.mono HB.size)
      go_wp2_with (first | (refine wp_region_lex [] (by kernel_rfl) (by decide +kernel) ?_) | (refine wpLex_nil ?_) | (refine wpLex_pure rfl (fun _ _ => ?_); go_simp; try go_bits) | (refine wpLex_read rfl (fun _ _ => ?_); go_simp; try go_bits) | (refine wpLex_loud rfl (fun _ _ => ?_)))
      refine (refSame_bs hv5 hbs).mono ?_
      rintro e w6 ⟨rfl, hb6⟩
      replace hb6 := Below.pred (w1 := w5) (by repeat (first | with_reducible exact Below.refl _ _ | with_reducible assumption | refine Below.drew ?_ | refine below_drewN ?_ | refine Below.alloc ?_ (by simp <;> omega) _ | refine below_setRow ?_ (by omega) _ | refine Below.setCell ?_ (by simp <;> omega) _)) hb6; replace HB := HB.trans (hb6.mono HB.size)
      go_wp2_with (first | (refine wp_region_lex [] (by kernel_rfl) (by decide +kernel) ?_) | (refine wpLex_nil ?_) | (refine wpLex_pure rfl (fun _ _ => ?_); go_simp; try go_bits) | (refine wpLex_read rfl (fun _ _ => ?_); go_simp; try go_bits) | (refine wpLex_loud rfl (fun _ _ => ?_)))
      go_ret
      exact ⟨by simp, HB⟩
    · have hl32 : ¬ b.length = 32 := by rw [← HN.out]; exact h32
      have h32' : ((n : Int) == 32) = false := by rw [beq_eq_false_iff_ne]; omega
      have ek : keyOf b = zeros 32 := by unfold keyOf; rw [if_neg hl32]
      obtain ⟨ke, ee⟩ : ∃ ke, ke = keyErr b := ⟨_, rfl⟩
      have k1 : (ke == 0) = false := by rw [ee, hke, decide_eq_false_iff_not]; exact hl32
      have k2 : (ke != 0) = true := by rw [bne_iff_ne]; exact beq_eq_false_iff_ne.1 k1
      have hkr := fun (w : World) (a : Value) (h : Bs w a b) => toKey_bs h
      unfold KeyRes at hkr
      rw [ek, ← ee] at hkr
      have HK := Lib.hid hkr
      clear hkr ek ee hke hl32 h32
      go_wp2_with (first | (refine wp_region_lex [] (by kernel_rfl) (by decide +kernel) ?_) | (refine wpLex_nil ?_) | (refine wpLex_pure rfl (fun _ _ => ?_); go_simp; try go_bits) | (refine wpLex_read rfl (fun _ _ => ?_); go_simp; try go_bits) | (refine wpLex_loud rfl (fun _ _ => ?_)))
      refine (HK.out _ _ hbs).mono ?_
      rintro e w3 ⟨rfl, hb3⟩
      replace hb3 := Below.pred (w1 := w2) (by repeat (first | with_reducible exact Below.refl _ _ | with_reducible assumption | refine Below.drew ?_ | refine below_drewN ?_ | refine Below.alloc ?_ (by simp <;> omega) _ | refine below_setRow ?_ (by omega) _ | refine Below.setCell ?_ (by simp <;> omega) _)) hb3; replace hbs := hbs.step hb3; replace hv2 := hv2.step hb3; replace HB := HB.trans (hb3.mono HB.size)
      go_wp2_with (first | (refine wp_region_lex [] (by kernel_rfl) (by decide +kernel) ?_) | (refine wpLex_nil ?_) | (refine wpLex_pure rfl (fun _ _ => ?_); go_simp; try go_bits) | (refine wpLex_read rfl (fun _ _ => ?_); go_simp; try go_bits) | (refine wpLex_loud rfl (fun _ _ => ?_)))
      have hq := (Below.refl w3.heap.size w3).alloc (Nat.le_refl _) (.cells (u8s (zeros 32)) 38)
      refine (refSame_bs (hv2.step hq) (hbs.step hq)).mono ?_
      rintro e w4 ⟨rfl, hb4⟩
      have R : RowIs w4 w3.heap.size (u8s (zeros 32)) := (RowIs.new _ _ _).step hb4
      have Rh := R.has; have Rr := R.row; have Rl := R.lt
      replace hb4 := Below.pred (w1 := w3) (by repeat (first | with_reducible exact Below.refl _ _ | with_reducible assumption | refine Below.drew ?_ | refine below_drewN ?_ | refine Below.alloc ?_ (by simp <;> omega) _ | refine below_setRow ?_ (by omega) _ | refine Below.setCell ?_ (by simp <;> omega) _)) hb4; replace hbs := hbs.step hb4; replace HB := HB.trans (hb4.mono HB.size)
      go_wp2_with (first | (refine wp_region_lex [] (by kernel_rfl) (by decide +kernel) ?_) | (refine wpLex_nil ?_) | (refine wpLex_pure rfl (fun _ _ => ?_); go_simp; try go_bits) | (refine wpLex_read rfl (fun _ _ => ?_); go_simp; try go_bits) | (refine wpLex_loud rfl (fun _ _ => ?_)))
      go_ret
      exact ⟨by simp, HB⟩
end Go.Proofs.Ytojnjaedfbokmaa
