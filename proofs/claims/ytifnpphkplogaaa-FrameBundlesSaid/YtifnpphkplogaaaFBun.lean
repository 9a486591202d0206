/- FrameBundles: the walk of the statement's function. Printed by gen_flaws.py. -/
import Derived.Test.YtifnpphkplogaaaFrWD
namespace Go.Proofs.Ytifnpphkplogaaa
section
open Go.RowKit
theorem u8s0f : #[Value.int .u8 0] = u8s [0] := by rw [u8s_def]; simp [n8_def]
def BuS (rx ry rz : Nat) (x y : BuP) (w : World) : Prop := RowIs w rx (buC x) ∧ RowIs w ry (buC y) ∧ RowIs w rz (buC x)
theorem BuS.step {rx ry rz : Nat} {x y : BuP} {w w' : World} (h : BuS rx ry rz x y w) (hb : Below w.heap.size w w') : BuS rx ry rz x y w' := ⟨h.1.step hb, h.2.1.step hb, h.2.2.step hb⟩
attribute [local go_sem] zcFr frBuild0 buZ zcBu
set_option maxRecDepth 100000 in
set_option maxHeartbeats 6400000 in
theorem walk_FrameBundles (va : Value) (x : BuP) (vb : Value) (y : BuP) (left : Int) (w : World) (hx : va = .agg (buC x) ∧ x.WF) (hy : vb = .agg (buC y) ∧ y.WF) (lo : -9223372036854775808 ≤ left) (hi : left ≤ 9223372036854775807) : Calls Try.prog 13 #[va, vb, .int .i64 left] w (TrueRes' w) := by
  obtain ⟨rfl, hwx⟩ := hx
  obtain ⟨rfl, hwy⟩ := hy
  have hz4 := frC_size fr_zero_wf (.slice none 0 0) (.slice none 0 0)
  have hz5 := buC_size zero_wf
  have B : Below w.heap.size w ((w.alloc (.cells (buC x) 88)).alloc (.cells (buC y) 88)) := (by repeat (first | with_reducible exact Below.refl _ _ | with_reducible assumption | refine Below.drew ?_ | refine below_drewN ?_ | refine Below.alloc ?_ (by first | omega | (simp; done) | (simp; omega)) _ | refine below_setRow ?_ (by omega) _ | refine Below.setCell ?_ (by first | omega | (simp; done) | (simp; omega)) _))
  have Rx : RowIs ((w.alloc (.cells (buC x) 88)).alloc (.cells (buC y) 88)) w.heap.size (buC x) := (RowIs.new _ _ _).alloc _
  have Ry : RowIs ((w.alloc (.cells (buC x) 88)).alloc (.cells (buC y) 88)) (w.heap.size + 1) (buC y) := RowIs.new' (by simp)
  have L := buload Rx hwx
  have M := buload Ry hwy
  have hback := bu_back hwx
  have hbl := bu_len hwx
  have hd : decide (encBP x = encBP y) = sameBu x y := by
    rw [Bool.eq_iff_iff, decide_eq_true_eq, sameBu_iff]
    exact ⟨fun h => bu_inj hwx hwy h, fun h => by rw [h]⟩
  have HSM := Lib.hid (fun W va vb (h : Bs W va (encBP x)) (h' : Bs W vb (encBP y)) => refSame_bs h h')
  rw [hd] at HSM
  have EX := fun W => eqBu x x hwx hwx W
  rw [(sameBu_iff x x).2 rfl] at EX
  have EY := fun W => eqBu x y hwx hwy W
  have HEX := Lib.hid (fun W => buenc_any x W hwx)
  have HEY := Lib.hid (fun W => buenc_any y W hwy)
  have hnf : (decFP (encBP x)).2 ≠ 0 := fun h => not_both h (by rw [hback.1])
  obtain ⟨bs, hbs⟩ : ∃ bs, bs = encBP x := ⟨_, rfl⟩
  obtain ⟨cs, hcs⟩ : ∃ cs, cs = encBP y := ⟨_, rfl⟩
  rw [← hbs] at hback hbl HSM HEX hnf
  rw [← hcs] at HSM HEY
  obtain ⟨s1, hs1⟩ : ∃ s1, s1 = sameBu x y := ⟨_, rfl⟩
  rw [← hs1] at HSM EY
  have I1 : (s1 != s1) = false := by cases s1 <;> rfl
  obtain ⟨bk1, bk2, bk3⟩ := hback
  have HD1 := Lib.hid (fun v W h => budec_any v bs W h)
  have HD2 := Lib.hid (fun v W h => budec_any v (bs ++ [0]) W h)
  have HF := Lib.hid (fun v W h => frdec_any v bs W h)
  unfold BuTo at HD1 HD2
  unfold FrTo at HF
  have hw2 := decB_wf (bs ++ [0])
  obtain ⟨x2, hx2⟩ : ∃ x2, x2 = (decBP (bs ++ [0])).1 := ⟨_, rfl⟩
  have e3 : decBP (bs ++ [0]) = (x2, 50) := Prod.ext hx2.symm bk2
  obtain ⟨f3, hf3⟩ : ∃ f3, f3 = (decFP bs).1 := ⟨_, rfl⟩
  obtain ⟨ef, hef⟩ : ∃ ef, ef = (decFP bs).2 := ⟨_, rfl⟩
  rw [bk1] at HD1
  rw [e3] at HD2 hw2
  replace hw2 : x2.WF := hw2
  rw [← hf3, ← hef] at HF
  rw [← hef] at hnf
  have G1 : (ef == (0 : Int)) = false := by rw [beq_eq_false_iff_ne]; exact hnf
  have HB3 := Lib.hid bk3
  have HBL := Lib.hid hbl
  have hbl2 : bs.length ≤ 1000 := by omega
  clear hx2 e3 hf3 hef hnf hbs hcs hs1 bk1 bk2 bk3 hd hbl
  go_enter Try.func13, Try.ntmps13
  go_wp2_with fail
  refine (awake10_any _).mono ?_
  rintro e w2 ⟨rfl, b2⟩
  replace Rx := Rx.step b2
  replace Ry := Ry.step b2
  replace B := B.trans (b2.mono B.size)
  clear b2
  replace L := buload Rx hwx
  replace M := buload Ry hwy
  go_wp2_with fail
  refine (HEX.out _).mono ?_
  rintro e w3 ⟨u1, rfl, k1, b3⟩
  replace Rx := Rx.step b3
  replace Ry := Ry.step b3
  replace B := B.trans (b3.mono B.size)
  clear b3
  replace L := buload Rx hwx
  replace M := buload Ry hwy
  go_wp2_with fail
  refine (HEY.out _).mono ?_
  rintro e w4 ⟨u2, rfl, k2, b4⟩
  replace Rx := Rx.step b4
  replace Ry := Ry.step b4
  replace k1 := k1.step b4
  replace B := B.trans (b4.mono B.size)
  clear b4
  replace L := buload Rx hwx
  replace M := buload Ry hwy
  obtain ⟨Ab, cb, rfl, hcb, -⟩ := id k1
  go_wp2_with fail
  refine (HD1.out _ _ k1).mono ?_
  rintro e w5 ⟨rfl, b5⟩
  replace Rx := Rx.step b5
  replace Ry := Ry.step b5
  replace k1 := k1.step b5
  replace k2 := k2.step b5
  replace B := B.trans (b5.mono B.size)
  clear b5
  replace L := buload Rx hwx
  replace M := buload Ry hwy
  have st3 := buStNew w5 x hwx
  have q3 : Below w5.heap.size w5 (w5.alloc (.cells (buC x) 88)) := (by repeat (first | with_reducible exact Below.refl _ _ | with_reducible assumption | refine Below.drew ?_ | refine below_drewN ?_ | refine Below.alloc ?_ (by first | omega | (simp; done) | (simp; omega)) _ | refine below_setRow ?_ (by omega) _ | refine Below.setCell ?_ (by first | omega | (simp; done) | (simp; omega)) _))
  have R3 : RowIs (w5.alloc (.cells (buC x) 88)) w5.heap.size (buC x) := RowIs.new _ _ _
  replace Rx := Rx.step q3
  replace Ry := Ry.step q3
  replace k1 := k1.step q3
  replace k2 := k2.step q3
  replace B := B.trans (q3.mono B.size)
  clear q3
  replace L := buload Rx hwx
  replace M := buload Ry hwy
  have own0 := Own8.empty (T := 5) (g := w5.heap.size + 1) (w5.alloc (.cells (buC x) 88)) (base := (w5.alloc (.cells (buC x) 88)).heap.size) (by simp) (Nat.le_refl _)
  have hq5 : Below (w5.alloc (.cells (buC x) 88)).heap.size (w5.alloc (.cells (buC x) 88)) ((w5.alloc (.cells (buC x) 88)).alloc (.cells #[] 5)) := (Below.refl _ _).alloc (Nat.le_refl _) _
  have hb0 := k1.step hq5
  have hL2 : (bs ++ [0]).length = bs.length + 1 := by simp
  go_wp2_with (at_builtin; first
    | (refine wpList_appendBs Try.underlying25 Try.info8 rfl (.tmp 29) (.tmp 30) rfl (w5.alloc (.cells (buC x) 88)).heap.size rfl own0 rfl hb0 (List.nil_append _) rfl (by omega) (by simp) ?_; intro A6 c6 w6 own6 bel6; have hq6 := hq5.trans bel6; have ownb := own6.alloc (.cells #[.int .u8 0] 5); have one6 : Bs (w6.alloc (.cells #[.int .u8 0] 5)) (.slice (some ⟨w6.heap.size, 0, none⟩) 1 1) [0] := Bs.row (by rw [← u8s0f]; exact RowIs.new _ _ _) 1 1 rfl (by omega) (by omega); have hq7 : Below (w5.alloc (.cells (buC x) 88)).heap.size (w5.alloc (.cells (buC x) 88)) (w6.alloc (.cells #[.int .u8 0] 5)) := hq6.alloc (hq6.size) _; have hz7 := hq7.size)
    | (refine wpList_appendBs Try.underlying25 Try.info8 rfl (.tmp 31) (.tmp 32) rfl (w5.alloc (.cells (buC x) 88)).heap.size rfl ownb rfl one6 rfl hL2 (by omega) hz7 ?_; intro A8 c8 w7 own8 bel8))
  have b58 := hq7.trans bel8
  have hb8 := own8.bsN hL2 (by omega)
  replace Rx := Rx.step b58
  replace Ry := Ry.step b58
  replace k1 := k1.step b58
  replace k2 := k2.step b58
  replace R3 := R3.step b58
  replace B := B.trans (b58.mono B.size)
  clear own0 own6 ownb own8 one6 hq5 hq6 hq7 bel6 bel8 hb0 b58 hz7
  replace L := buload Rx hwx
  replace M := buload Ry hwy
  refine (HD2.out _ _ hb8).mono ?_
  rintro e w8 ⟨rfl, b8⟩
  replace Rx := Rx.step b8
  replace Ry := Ry.step b8
  replace k1 := k1.step b8
  replace k2 := k2.step b8
  replace R3 := R3.step b8
  replace hb8 := hb8.step b8
  replace B := B.trans (b8.mono B.size)
  clear b8
  replace L := buload Rx hwx
  replace M := buload Ry hwy
  clear hb8
  have st4 := buStNew w8 x2 hw2
  have q4 : Below w8.heap.size w8 (w8.alloc (.cells (buC x2) 88)) := (by repeat (first | with_reducible exact Below.refl _ _ | with_reducible assumption | refine Below.drew ?_ | refine below_drewN ?_ | refine Below.alloc ?_ (by first | omega | (simp; done) | (simp; omega)) _ | refine below_setRow ?_ (by omega) _ | refine Below.setCell ?_ (by first | omega | (simp; done) | (simp; omega)) _))
  have R4 : RowIs (w8.alloc (.cells (buC x2) 88)) w8.heap.size (buC x2) := RowIs.new _ _ _
  replace Rx := Rx.step q4
  replace Ry := Ry.step q4
  replace k1 := k1.step q4
  replace k2 := k2.step q4
  replace R3 := R3.step q4
  replace B := B.trans (q4.mono B.size)
  clear q4
  replace L := buload Rx hwx
  replace M := buload Ry hwy
  go_wp2_with fail
  refine (HF.out _ _ k1).mono ?_
  rintro e w9 ⟨u5, rfl, F5, b9⟩
  replace Rx := Rx.step b9
  replace Ry := Ry.step b9
  replace k1 := k1.step b9
  replace k2 := k2.step b9
  replace R3 := R3.step b9
  replace R4 := R4.step b9
  replace B := B.trans (b9.mono B.size)
  clear b9
  replace L := buload Rx hwx
  replace M := buload Ry hwy
  obtain ⟨A5, c5, B5, d5, rfl, hw5⟩ := F5.form
  have st5 := frStNew w9 f3 hw5 A5 f3.box.length c5 B5 f3.sign.length d5
  have q5 : Below w9.heap.size w9 (w9.alloc (.cells (frC f3 (.slice A5 f3.box.length c5) (.slice B5 f3.sign.length d5)) 80)) := (by repeat (first | with_reducible exact Below.refl _ _ | with_reducible assumption | refine Below.drew ?_ | refine below_drewN ?_ | refine Below.alloc ?_ (by first | omega | (simp; done) | (simp; omega)) _ | refine below_setRow ?_ (by omega) _ | refine Below.setCell ?_ (by first | omega | (simp; done) | (simp; omega)) _))
  have R5 : RowIs (w9.alloc (.cells (frC f3 (.slice A5 f3.box.length c5) (.slice B5 f3.sign.length d5)) 80)) w9.heap.size (frC f3 (.slice A5 f3.box.length c5) (.slice B5 f3.sign.length d5)) := RowIs.new _ _ _
  replace Rx := Rx.step q5
  replace Ry := Ry.step q5
  replace k1 := k1.step q5
  replace k2 := k2.step q5
  replace R3 := R3.step q5
  replace R4 := R4.step q5
  replace F5 := F5.step q5
  replace B := B.trans (q5.mono B.size)
  clear q5
  have hS : BuS w.heap.size (w.heap.size + 1) w5.heap.size x y (w9.alloc (.cells (frC f3 (.slice A5 f3.box.length c5) (.slice B5 f3.sign.length d5)) 80)).drew := ⟨Rx.drew, Ry.drew, R3.drew⟩
  have k1d := k1.step (show Below (w9.alloc (.cells (frC f3 (.slice A5 f3.box.length c5) (.slice B5 f3.sign.length d5)) 80)).heap.size (w9.alloc (.cells (frC f3 (.slice A5 f3.box.length c5) (.slice B5 f3.sign.length d5)) 80)) (w9.alloc (.cells (frC f3 (.slice A5 f3.box.length c5) (.slice B5 f3.sign.length d5)) 80)).drew by exact (by repeat (first | with_reducible exact Below.refl _ _ | with_reducible assumption | refine Below.drew ?_ | refine below_drewN ?_ | refine Below.alloc ?_ (by first | omega | (simp; done) | (simp; omega)) _ | refine below_setRow ?_ (by omega) _ | refine Below.setCell ?_ (by first | omega | (simp; done) | (simp; omega)) _)))
  have k2d := k2.step (show Below (w9.alloc (.cells (frC f3 (.slice A5 f3.box.length c5) (.slice B5 f3.sign.length d5)) 80)).heap.size (w9.alloc (.cells (frC f3 (.slice A5 f3.box.length c5) (.slice B5 f3.sign.length d5)) 80)) (w9.alloc (.cells (frC f3 (.slice A5 f3.box.length c5) (.slice B5 f3.sign.length d5)) 80)).drew by exact (by repeat (first | with_reducible exact Below.refl _ _ | with_reducible assumption | refine Below.drew ?_ | refine below_drewN ?_ | refine Below.alloc ?_ (by first | omega | (simp; done) | (simp; omega)) _ | refine below_setRow ?_ (by omega) _ | refine Below.setCell ?_ (by first | omega | (simp; done) | (simp; omega)) _)))
  have Bd := B.trans ((show Below (w9.alloc (.cells (frC f3 (.slice A5 f3.box.length c5) (.slice B5 f3.sign.length d5)) 80)).heap.size (w9.alloc (.cells (frC f3 (.slice A5 f3.box.length c5) (.slice B5 f3.sign.length d5)) 80)) (w9.alloc (.cells (frC f3 (.slice A5 f3.box.length c5) (.slice B5 f3.sign.length d5)) 80)).drew by exact (by repeat (first | with_reducible exact Below.refl _ _ | with_reducible assumption | refine Below.drew ?_ | refine below_drewN ?_ | refine Below.alloc ?_ (by first | omega | (simp; done) | (simp; omega)) _ | refine below_setRow ?_ (by omega) _ | refine Below.setCell ?_ (by first | omega | (simp; done) | (simp; omega)) _))).mono B.size)
  clear L M R4 R5 F5
  go_wp2_with fail
  refine wp_region_lexS [] [3, 4, 19, 20] (BuS w.heap.size (w.heap.size + 1) w5.heap.size x y) (by kernel_rfl) (by decide +kernel) hS (fun _ => ?_)
  generalize (w9.alloc (.cells (frC f3 (.slice A5 f3.box.length c5) (.slice B5 f3.sign.length d5)) 80)).drew = wd at hS k1d k2d Bd ⊢
  clear B k1 k2 Rx Ry R3 st5 hw5
  (go_wp2_with (first | (refine wpLexS_nil ?_) | (refine wpLexS_pure rfl (fun _ _ => ?_); go_simp; refine ⟨_, fun w9 hw9 => (by have s1 := buload hw9.1 hwx; have s2 := buload hw9.2.1 hwy; have s3 := buload hw9.2.2 hwx; go_simp; rfl), ?_⟩) | (refine wpLexS_pure0 rfl (fun _ _ => ?_); go_simp; try go_bits) | (refine wpLexS_read rfl (fun _ _ => ?_); go_simp; try go_bits)))
  refine wpLexS_loud rfl (fun KL hKL => ?_)
  go_wp2_with fail
  refine (HSM.out _ _ _ k1d k2d).mono ?_
  rintro e we ⟨rfl, be⟩
  go_wp2_with fail
  replace hS := hS.step be
  replace k1d := k1d.step be
  replace Bd := Bd.trans (be.mono Bd.size)
  refine hKL _ _ hS (fun _ => ?_)
  clear KL hKL be
  by_cases l0 : left < 0
  · (go_wp2_with (first | (refine wpLexS_nil ?_) | (refine wpLexS_pure rfl (fun _ _ => ?_); go_simp; refine ⟨_, fun w9 hw9 => (by have s1 := buload hw9.1 hwx; have s2 := buload hw9.2.1 hwy; have s3 := buload hw9.2.2 hwx; go_simp; rfl), ?_⟩) | (refine wpLexS_pure0 rfl (fun _ _ => ?_); go_simp; try go_bits) | (refine wpLexS_read rfl (fun _ _ => ?_); go_simp; try go_bits) | (refine wpLexS_loud rfl (fun KL hKL => ?_))))
    go_ret
    exact ⟨rfl, Bd⟩
  · obtain ⟨m, rfl⟩ : ∃ m : Nat, left = m := ⟨left.toNat, by omega⟩
    by_cases lm : m < bs.length
    · have l1 : ¬ (bs.length : Int) ≤ m := by omega
      have hto : ∀ w, (Instr.sliceAt 25 (.slice Ab bs.length cb) none (some (.int .i64 m)) none).run Try.prog w = .ok (.slice Ab m cb) w := fun w => run_upto Ab _ cb m (by omega) w
      have hpart := k1d.take m (by omega)
      have hw6 := decB_wf (bs.take m)
      obtain ⟨x6, hx6⟩ : ∃ x6, x6 = (decBP (bs.take m)).1 := ⟨_, rfl⟩
      have e3 : decBP (bs.take m) = (x6, 3) := Prod.ext hx6.symm (HB3.out m lm)
      have HD3 := Lib.hid (fun v W h => budec_any v (bs.take m) W h)
      unfold BuTo at HD3
      rw [e3] at HD3 hw6
      replace hw6 : x6.WF := hw6
      clear hx6 e3
      (go_wp2_with (first | (refine wpLexS_nil ?_) | (refine wpLexS_pure rfl (fun _ _ => ?_); go_simp; refine ⟨_, fun w9 hw9 => (by have s1 := buload hw9.1 hwx; have s2 := buload hw9.2.1 hwy; have s3 := buload hw9.2.2 hwx; go_simp; rfl), ?_⟩) | (refine wpLexS_pure0 rfl (fun _ _ => ?_); go_simp; try go_bits) | (refine wpLexS_read rfl (fun _ _ => ?_); go_simp; try go_bits) | (refine wpLexS_loud rfl (fun KL hKL => ?_))))
      refine (HD3.out _ _ hpart).mono ?_
      rintro e wf ⟨rfl, bf⟩
      have st6 := buStNew wf x6 hw6
      have Bf := Bd.trans (bf.mono Bd.size)
      have q6 : Below wf.heap.size wf (wf.alloc (.cells (buC x6) 88)) := (by repeat (first | with_reducible exact Below.refl _ _ | with_reducible assumption | refine Below.drew ?_ | refine below_drewN ?_ | refine Below.alloc ?_ (by first | omega | (simp; done) | (simp; omega)) _ | refine below_setRow ?_ (by omega) _ | refine Below.setCell ?_ (by first | omega | (simp; done) | (simp; omega)) _))
      go_wp2_with fail
      go_ret
      exact ⟨rfl, Bf.trans (q6.mono Bf.size)⟩
    · have l1 : (bs.length : Int) ≤ m := by omega
      (go_wp2_with (first | (refine wpLexS_nil ?_) | (refine wpLexS_pure rfl (fun _ _ => ?_); go_simp; refine ⟨_, fun w9 hw9 => (by have s1 := buload hw9.1 hwx; have s2 := buload hw9.2.1 hwy; have s3 := buload hw9.2.2 hwx; go_simp; rfl), ?_⟩) | (refine wpLexS_pure0 rfl (fun _ _ => ?_); go_simp; try go_bits) | (refine wpLexS_read rfl (fun _ _ => ?_); go_simp; try go_bits) | (refine wpLexS_loud rfl (fun KL hKL => ?_))))
      go_ret
      exact ⟨rfl, Bd⟩
end
end Go.Proofs.Ytifnpphkplogaaa
