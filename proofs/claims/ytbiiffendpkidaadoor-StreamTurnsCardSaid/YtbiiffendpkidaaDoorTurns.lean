/- StreamTurns: the walk. -/
import Derived.Test.YtbiiffendpkidaaDoorAwake4
import Derived.Test.YtbiiffendpkidaaDoorTurnsP
import Derived.Test.YtbiiffendpkidaaDoorArr
import Derived.Test.YtbiiffendpkidaaDoorLexS
import Derived.Deep.DeepCutAuto
namespace Go.Proofs.YtbiiffendpkidaaDoor
open Go.RowKit
attribute [local go_sem ↓] exec_load_words exec_store_words
attribute [local go_sem] load_words store_words zero16z z32_length
theorem i64_and15' (n : Int) : bits .and .i64 n 15 = n % 16 := by
  have h15 : (BitVec.ofInt 64 15).toNat = 2 ^ 4 - 1 := by decide
  have key : (BitVec.ofInt 64 n &&& BitVec.ofInt 64 15).toNat = (n % ((2 ^ 64 : Nat) : Int)).toNat % 2 ^ 4 := by
    rw [BitVec.toNat_and, BitVec.toNat_ofInt, h15, Nat.and_two_pow_sub_one_eq_mod]
  show IntKind.i64.wrap ((BitVec.ofInt 64 n &&& BitVec.ofInt 64 15).toNat : Nat) = n % 16
  rw [key, IntKind.wrap_i64]
  omega
theorem and15_any' (n : Int) : ∃ k : Nat, bits .and .i64 n 15 = k ∧ k < 16 := ⟨(n % 16).toNat, by rw [i64_and15']; omega, by omega⟩
theorem eq_words' (w : World) (l m : List UInt32) (hl : l.length = 16) (hm : m.length = 16) : (Op.equalIn 10000 24 (.agg (u32s l)) (.agg (u32s m))).run Tryd.prog w = .ok (decide (l = m)) w :=
  run_equal32 Tryd.underlying24 (by kernel_rfl) Tryd.underlying22 (by kernel_rfl) l m hl hm w
attribute [local go_sem] eq_words'
def apartB (a b c d : Nat) : Bool := (a != b) && (a != c) && (a != d) && (b != c) && (b != d) && (c != d)
theorem bne_cast (a b : Nat) : ((a : Int) != (b : Int)) = (a != b) := by
  rw [Bool.eq_iff_iff, bne_iff_ne, bne_iff_ne]; omega
set_option maxRecDepth 100000 in
set_option maxHeartbeats 1600000 in
theorem walk_StreamTurns (vs ws : List UInt32) (a b c d : Int) (w : World) (hs : RowIs w 1 (u32s startL)) (hq : RowIs w 0 qCells) (hv : vs.length = 16) (hw : ws.length = 16) (_ : -9223372036854775808 ≤ a) (_ : a ≤ 9223372036854775807) (_ : -9223372036854775808 ≤ b) (_ : b ≤ 9223372036854775807) (_ : -9223372036854775808 ≤ c) (_ : c ≤ 9223372036854775807) (_ : -9223372036854775808 ≤ d) (_ : d ≤ 9223372036854775807) :
    Calls Tryd.prog 4 #[.agg (u32s vs), .agg (u32s ws), .int .i64 a, .int .i64 b, .int .i64 c, .int .i64 d] w (TrueRes w) := by
  have HS := Lib.hid hs
  have HQ := Lib.hid hq
  have hlts := hs.lt
  have hltq := hq.lt
  clear hs hq
  obtain ⟨na, ha, ha2⟩ := and15_any' a
  obtain ⟨nb, hb, hb2⟩ := and15_any' b
  obtain ⟨nc, hc, hc2⟩ := and15_any' c
  obtain ⟨nd, hd, hd2⟩ := and15_any' d
  obtain ⟨qv, hqv⟩ : ∃ q, q = quarter vs na nb nc nd := ⟨_, rfl⟩
  obtain ⟨qw, hqw⟩ : ∃ q, q = quarter ws na nb nc nd := ⟨_, rfl⟩
  have hvl : qv.length = 16 := by rw [hqv, quarter_len, hv]
  have hwl : qw.length = 16 := by rw [hqw, quarter_len, hw]
  obtain ⟨p, hp⟩ : ∃ p, p = apartB na nb nc nd := ⟨_, rfl⟩
  have hfin : p = true → (decide (qv = qw) == decide (vs = ws)) = true := fun ht => by
    rw [hp] at ht
    simp only [apartB, Bool.and_eq_true, bne_iff_ne] at ht
    obtain ⟨⟨⟨⟨⟨h1, h2⟩, h3⟩, h4⟩, h5⟩, h6⟩ := ht
    have := quarter_inj vs ws na nb nc nd (by omega) (by omega) (by omega) (by omega) (by omega) h1 (fun e => h3 e.symm) h6 h4
    rw [hqv, hqw, beq_iff_eq, decide_eq_decide]
    exact this
  have c1 := fun w => quarter_any vs hv a b c d na nb nc nd ha hb hc hd ha2 hb2 hc2 hd2 w
  have c2 := fun w => quarter_any ws hw a b c d na nb nc nd ha hb hc hd ha2 hb2 hc2 hd2 w
  rw [← hqv] at c1
  rw [← hqw] at c2
  have C1 := Lib.hid c1
  have C2 := Lib.hid c2
  have HP := Lib.hid hp
  have HF := Lib.hid hfin
  clear c1 c2 hqv hqw hp hfin
  obtain ⟨w0, hw0⟩ : ∃ w0, w0 = ((w.alloc (.cells (u32s vs) 24)).alloc (.cells (u32s ws) 24)) := ⟨_, rfl⟩
  have B0 : Below w.heap.size w w0 := by rw [hw0]; exact (by repeat (first | with_reducible exact Below.refl _ _ | with_reducible assumption | refine Below.drew ?_ | refine below_drewN ?_ | refine Below.alloc ?_ (by simp <;> omega) _ | refine below_setRow ?_ (by omega) _ | refine Below.setCell ?_ (by simp <;> omega) _))
  have R0 : RowIs w0 w.heap.size (u32s vs) := by rw [hw0]; exact (RowIs.new _ _ _).alloc _
  have R1 : RowIs w0 (w.heap.size + 1) (u32s ws) := by rw [hw0]; exact RowIs.new' (by simp)
  go_enter Tryd.func4, Tryd.ntmps4
  go_wp2_with fail
  rw [← hw0]
  clear hw0
  refine (awake_any _ (HS.out.below B0 hlts) (HQ.out.below B0 hltq)).mono ?_
  rintro e w1 ⟨rfl, hb1⟩
  have R0h := R0.has; have R0r := R0.row; have R0l := R0.lt; have R1h := R1.has; have R1r := R1.row; have R1l := R1.lt
  clear R0h R0r; replace R0 := R0.below hb1 R0l; clear R0l; clear R1h R1r; replace R1 := R1.below hb1 R1l; clear R1l; have R0h := R0.has; have R0r := R0.row; have R0l := R0.lt; have R1h := R1.has; have R1r := R1.row; have R1l := R1.lt
  have HB := Lib.hid (B0.trans (hb1.mono B0.size))
  clear B0 hb1
  go_upto_region 2 with (fail)
  go_cut [14] (fun s wx => s = .bool p ∧ wx = w1)
  case first =>
    have e1 := bne_cast na nb; have e2 := bne_cast na nc; have e3 := bne_cast na nd; have e4 := bne_cast nb nc; have e5 := bne_cast nb nd; have e6 := bne_cast nc nd
    go_wp2_with fail
    all_goals (go_meet; refine ⟨?_, rfl⟩; rw [HP.out]; simp [apartB, *])
  case rest =>
    obtain ⟨rfl, rfl⟩ := hcut
    go_wp2_with fail
    refine (C1.out _).mono ?_
    rintro e w2 ⟨rfl, hb2⟩
    clear R0h R0r; replace R0 := R0.below hb2 R0l; clear R0l; clear R1h R1r; replace R1 := R1.below hb2 R1l; clear R1l; have R0h := R0.has; have R0r := R0.row; have R0l := R0.lt; have R1h := R1.has; have R1r := R1.row; have R1l := R1.lt
    have hs2 := hb2.size
    have HB := Lib.hid (HB.out.trans (hb2.mono HB.out.size))
    clear hb2
    go_wp2_with fail
    refine (C2.out _).mono ?_
    rintro e w3 ⟨rfl, hb3⟩
    have R2 : RowIs w3 w2.heap.size (u32s qv) := (RowIs.new _ _ _).below hb3 (by simp)
    have hb3' : Below w2.heap.size w2 w3 := ((Below.refl _ _).alloc (Nat.le_refl _) _).trans (hb3.mono (by simp))
    clear R0h R0r; replace R0 := R0.below hb3' R0l; clear R0l; clear R1h R1r; replace R1 := R1.below hb3' R1l; clear R1l; have R0h := R0.has; have R0r := R0.row; have R0l := R0.lt; have R1h := R1.has; have R1r := R1.row; have R1l := R1.lt
    have R2h := R2.has; have R2r := R2.row; have R2l := R2.lt
    have HB := Lib.hid (HB.out.trans (hb3'.mono HB.out.size))
    have hs3 := HB.out.size
    have HBF := Lib.hid ((HB.out.alloc hs3 (.cells (u32s qw) 24)).drew)
    clear hb3 hb3'
    cases p with
    | false =>
      go_wp2_with (first | (refine wp_region_lex [] (by kernel_rfl) (by decide +kernel) ?_) | (refine wpLex_nil ?_) | (refine wpLex_pure rfl (fun _ _ => ?_); go_simp; try go_bits) | (refine wpLex_read rfl (fun _ _ => ?_); go_simp; try go_bits) | (refine wpLex_loud rfl (fun _ _ => ?_)))
      go_ret
      exact ⟨by simp, HBF.out⟩
    | true =>
      have hfin := HF.out rfl
      go_wp2_with (first | (refine wp_region_lex [] (by kernel_rfl) (by decide +kernel) ?_) | (refine wpLex_nil ?_) | (refine wpLex_pure rfl (fun _ _ => ?_); go_simp; try go_bits) | (refine wpLex_read rfl (fun _ _ => ?_); go_simp; try go_bits) | (refine wpLex_loud rfl (fun _ _ => ?_)))
      go_ret
      exact ⟨by simp [hfin], HBF.out⟩
end Go.Proofs.YtbiiffendpkidaaDoor
