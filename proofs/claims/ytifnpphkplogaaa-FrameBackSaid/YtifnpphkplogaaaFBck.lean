/- FrameBack: the walk of the statement's function. Printed by gen_flaws.py. -/
import Derived.Test.YtifnpphkplogaaaFrWD
namespace Go.Proofs.Ytifnpphkplogaaa
section
open Go.RowKit
theorem u8s0f : #[Value.int .u8 0] = u8s [0] := by rw [u8s_def]; simp [n8_def]
attribute [local go_sem] zcFr frBuild0 buZ zcBu
set_option maxRecDepth 100000 in
set_option maxHeartbeats 6400000 in
theorem walk_FrameBack (v : Value) (f : FrP) (left : Int) (w : World) (hr : RawFr w f v) (lo : -9223372036854775808 ≤ left) (hi : left ≤ 9223372036854775807) : Calls Try.prog 14 #[v, .int .i64 left] w (TrueRes' w) := by
  obtain ⟨A, c, A2, c2, rfl, hw, -⟩ := id hr
  have hz4 := frC_size fr_zero_wf (.slice none 0 0) (.slice none 0 0)
  have hz5 := buC_size zero_wf
  have B : Below w.heap.size w (w.alloc (.cells (frC f (.slice A f.box.length c) (.slice A2 f.sign.length c2)) 80)) := (by repeat (first | with_reducible exact Below.refl _ _ | with_reducible assumption | refine Below.drew ?_ | refine below_drewN ?_ | refine Below.alloc ?_ (by first | omega | (simp; done) | (simp; omega)) _ | refine below_setRow ?_ (by omega) _ | refine Below.setCell ?_ (by first | omega | (simp; done) | (simp; omega)) _))
  have R : RowIs (w.alloc (.cells (frC f (.slice A f.box.length c) (.slice A2 f.sign.length c2)) 80)) w.heap.size (frC f (.slice A f.box.length c) (.slice A2 f.sign.length c2)) := RowIs.new _ _ _
  have L := frload R hw
  have HR := hr.step B
  have SH := fun W h => shortF_any f (.agg (frC f (.slice A f.box.length c) (.slice A2 f.sign.length c2))) W h
  cases hs : shortF f with
  | false =>
    rw [hs] at SH
    have HS := Lib.hid SH
    clear SH hs hr
    go_enter Try.func14, Try.ntmps14
    go_wp2_with fail
    refine (awake10_any _).mono ?_
    rintro e w2 ⟨rfl, b2⟩
    replace R := R.step b2
    replace HR := HR.step b2
    replace B := B.trans (b2.mono B.size)
    clear b2
    replace L := frload R hw
    go_wp2_with fail
    refine (HS.out _ HR).mono ?_
    rintro e w3 ⟨rfl, b3⟩
    replace R := R.step b3
    replace HR := HR.step b3
    replace B := B.trans (b3.mono B.size)
    clear b3
    replace L := frload R hw
    go_wp2_with fail
    go_ret
    exact ⟨rfl, B⟩
  | true =>
    have FV := HR.fr hs
    have nf : f.sign.length ≤ 1000000 := Nat.le_trans (box_le hs) (by omega)
    rw [hs] at SH
    have HS := Lib.hid SH
    have HE := Lib.hid (fun v W h => frenc_any f v W h)
    unfold PairTo at HE
    clear SH hs hr
    by_cases h1 : checkP f = 0
    · have hback := fr_back hw h1
      have hl1 := core_len hw
      have hl2 := fr_len hw
      have hsp := fr_split f
      have hbx := (shape_0 (check_0 h1).1).2.2.2.2
      have hsg := (check_0 h1).2
      have e1 : encFP f = (bytesI (frI f), 0) := if_pos h1
      have e2 : coreP f = (coreB f, 0) := if_pos (check_0 h1).1
      obtain ⟨bs, hbs⟩ : ∃ bs, bs = bytesI (frI f) := ⟨_, rfl⟩
      obtain ⟨cs, hcs⟩ : ∃ cs, cs = coreB f := ⟨_, rfl⟩
      rw [← hbs] at hback hl2 hsp e1
      rw [← hcs] at hl1 hsp e2
      have hnb : (decBP bs).2 ≠ 0 := fun h => not_both (b := bs) (by rw [hback.1]) h
      have htk : bs.take cs.length = cs := by rw [hsp, List.take_left]
      have n12 : (cs.length : Int) < (bs.length : Int) := by omega
      have n21 : ¬ (bs.length : Int) < (cs.length : Int) := by omega
      have hbl : bs.length ≤ 100000 := by omega
      have n12' : cs.length ≤ bs.length := by omega
      obtain ⟨bk1, bk2, bk3⟩ := hback
      rw [e1] at HE
      have HD1 := Lib.hid (fun v W h => frdec_any v bs W h)
      have HC := Lib.hid (fun v W h => frcore_any f v W h)
      have HX := Lib.hid (fun v W h => budec_any v bs W h)
      have HD2 := Lib.hid (fun v W h => frdec_any v (bs ++ [0]) W h)
      have hbw := decB_wf bs
      obtain ⟨f2, hf2⟩ : ∃ f2, f2 = (decFP (bs ++ [0])).1 := ⟨_, rfl⟩
      have e3 : decFP (bs ++ [0]) = (f2, 50) := Prod.ext hf2.symm bk2
      obtain ⟨x, hx⟩ : ∃ x, x = (decBP bs).1 := ⟨_, rfl⟩
      obtain ⟨eb, heb⟩ : ∃ eb, eb = (decBP bs).2 := ⟨_, rfl⟩
      unfold FrTo at HD1 HD2
      unfold PairTo at HC
      unfold BuTo at HX
      rw [bk1] at HD1
      rw [e2] at HC
      rw [e3] at HD2
      rw [← hx, ← heb] at HX
      rw [← hx] at hbw
      rw [← heb] at hnb
      have G1 : (eb != (0 : Int)) = true := by rw [bne_iff_ne]; exact hnb
      have HSM := Lib.hid (fun va vb W h1 h2 => frsame_any f f va vb W h1 h2 nf nf)
      rw [sameF_self f] at HSM
      have HTK := Lib.hid htk
      have HB3 := Lib.hid bk3
      clear hf2 e1 e2 e3 hx heb hnb hbs hcs hsp hl1 hl2 bk1 bk2 bk3 htk h1 hbx hsg
      go_enter Try.func14, Try.ntmps14
      go_wp2_with fail
      refine (awake10_any _).mono ?_
      rintro e w2 ⟨rfl, b2⟩
      replace R := R.step b2
      replace HR := HR.step b2
      replace FV := FV.step b2
      replace B := B.trans (b2.mono B.size)
      clear b2
      replace L := frload R hw
      go_wp2_with fail
      refine (HS.out _ HR).mono ?_
      rintro e w3 ⟨rfl, b3⟩
      replace R := R.step b3
      replace HR := HR.step b3
      replace FV := FV.step b3
      replace B := B.trans (b3.mono B.size)
      clear b3
      replace L := frload R hw
      go_wp2_with fail
      refine (HE.out _ _ FV).mono ?_
      rintro e w4 ⟨u1, rfl, k1, b4⟩
      replace R := R.step b4
      replace HR := HR.step b4
      replace FV := FV.step b4
      replace B := B.trans (b4.mono B.size)
      clear b4
      replace L := frload R hw
      obtain ⟨Ab, cb, rfl, hcb, -⟩ := id k1
      go_wp2_with fail
      refine (HD1.out _ _ k1).mono ?_
      rintro e w5 ⟨u2, rfl, F2, b5⟩
      replace R := R.step b5
      replace HR := HR.step b5
      replace FV := FV.step b5
      replace k1 := k1.step b5
      replace B := B.trans (b5.mono B.size)
      clear b5
      replace L := frload R hw
      obtain ⟨A3, c3, B3, d3, rfl, -⟩ := F2.form
      have st1 := frStNew w5 f hw A3 f.box.length c3 B3 f.sign.length d3
      have q1 : Below w5.heap.size w5 (w5.alloc (.cells (frC f (.slice A3 f.box.length c3) (.slice B3 f.sign.length d3)) 80)) := (by repeat (first | with_reducible exact Below.refl _ _ | with_reducible assumption | refine Below.drew ?_ | refine below_drewN ?_ | refine Below.alloc ?_ (by first | omega | (simp; done) | (simp; omega)) _ | refine below_setRow ?_ (by omega) _ | refine Below.setCell ?_ (by first | omega | (simp; done) | (simp; omega)) _))
      have R2 : RowIs (w5.alloc (.cells (frC f (.slice A3 f.box.length c3) (.slice B3 f.sign.length d3)) 80)) w5.heap.size (frC f (.slice A3 f.box.length c3) (.slice B3 f.sign.length d3)) := RowIs.new _ _ _
      replace R := R.step q1
      replace HR := HR.step q1
      replace FV := FV.step q1
      replace k1 := k1.step q1
      replace F2 := F2.step q1
      replace B := B.trans (q1.mono B.size)
      clear q1
      replace L := frload R hw
      go_wp2_with fail
      refine (HC.out _ _ FV).mono ?_
      rintro e w6 ⟨u3, rfl, k3, b6⟩
      replace R := R.step b6
      replace HR := HR.step b6
      replace FV := FV.step b6
      replace k1 := k1.step b6
      replace F2 := F2.step b6
      replace R2 := R2.step b6
      replace B := B.trans (b6.mono B.size)
      clear b6
      replace L := frload R hw
      obtain ⟨Ac, cc, rfl, -⟩ := id k3
      go_wp2_with fail
      refine (HX.out _ _ k1).mono ?_
      rintro e w7 ⟨rfl, b7⟩
      replace R := R.step b7
      replace HR := HR.step b7
      replace FV := FV.step b7
      replace k1 := k1.step b7
      replace F2 := F2.step b7
      replace R2 := R2.step b7
      replace k3 := k3.step b7
      replace B := B.trans (b7.mono B.size)
      clear b7
      replace L := frload R hw
      have st3 := buStNew w7 x hbw
      have q3 : Below w7.heap.size w7 (w7.alloc (.cells (buC x) 88)) := (by repeat (first | with_reducible exact Below.refl _ _ | with_reducible assumption | refine Below.drew ?_ | refine below_drewN ?_ | refine Below.alloc ?_ (by first | omega | (simp; done) | (simp; omega)) _ | refine below_setRow ?_ (by omega) _ | refine Below.setCell ?_ (by first | omega | (simp; done) | (simp; omega)) _))
      have R3 : RowIs (w7.alloc (.cells (buC x) 88)) w7.heap.size (buC x) := RowIs.new _ _ _
      replace R := R.step q3
      replace HR := HR.step q3
      replace FV := FV.step q3
      replace k1 := k1.step q3
      replace F2 := F2.step q3
      replace R2 := R2.step q3
      replace k3 := k3.step q3
      replace B := B.trans (q3.mono B.size)
      clear q3
      replace L := frload R hw
      have own0 := Own8.empty (T := 5) (g := w7.heap.size + 1) (w7.alloc (.cells (buC x) 88)) (base := (w7.alloc (.cells (buC x) 88)).heap.size) (by simp) (Nat.le_refl _)
      have hq5 : Below (w7.alloc (.cells (buC x) 88)).heap.size (w7.alloc (.cells (buC x) 88)) ((w7.alloc (.cells (buC x) 88)).alloc (.cells #[] 5)) := (Below.refl _ _).alloc (Nat.le_refl _) _
      have hb0 := k1.step hq5
      have hL2 : (bs ++ [0]).length = bs.length + 1 := by simp
      go_wp2_with (at_builtin; first
        | (refine wpList_appendBs Try.underlying25 Try.info8 rfl (.tmp 55) (.tmp 56) rfl (w7.alloc (.cells (buC x) 88)).heap.size rfl own0 rfl hb0 (List.nil_append _) rfl (by omega) (by simp) ?_; intro A6 c6 w8 own6 bel6; have hq6 := hq5.trans bel6; have ownb := own6.alloc (.cells #[.int .u8 0] 5); have one6 : Bs (w8.alloc (.cells #[.int .u8 0] 5)) (.slice (some ⟨w8.heap.size, 0, none⟩) 1 1) [0] := Bs.row (by rw [← u8s0f]; exact RowIs.new _ _ _) 1 1 rfl (by omega) (by omega); have hq7 : Below (w7.alloc (.cells (buC x) 88)).heap.size (w7.alloc (.cells (buC x) 88)) (w8.alloc (.cells #[.int .u8 0] 5)) := hq6.alloc (hq6.size) _; have hz7 := hq7.size)
        | (refine wpList_appendBs Try.underlying25 Try.info8 rfl (.tmp 57) (.tmp 58) rfl (w7.alloc (.cells (buC x) 88)).heap.size rfl ownb rfl one6 rfl hL2 (by omega) hz7 ?_; intro A8 c8 w9 own8 bel8))
      have b58 := hq7.trans bel8
      have hb8 := own8.bsN hL2 (by omega)
      replace R := R.step b58
      replace HR := HR.step b58
      replace FV := FV.step b58
      replace k1 := k1.step b58
      replace F2 := F2.step b58
      replace R2 := R2.step b58
      replace k3 := k3.step b58
      replace R3 := R3.step b58
      replace B := B.trans (b58.mono B.size)
      clear own0 own6 ownb own8 one6 hq5 hq6 hq7 bel6 bel8 hb0 b58 hz7
      replace L := frload R hw
      refine (HD2.out _ _ hb8).mono ?_
      rintro e w10 ⟨u5, rfl, F5, b10⟩
      replace R := R.step b10
      replace HR := HR.step b10
      replace FV := FV.step b10
      replace k1 := k1.step b10
      replace F2 := F2.step b10
      replace R2 := R2.step b10
      replace k3 := k3.step b10
      replace R3 := R3.step b10
      replace hb8 := hb8.step b10
      replace B := B.trans (b10.mono B.size)
      clear b10
      replace L := frload R hw
      obtain ⟨A5, c5, B5, d5, rfl, hw5⟩ := F5.form
      have st5 := frStNew w10 f2 hw5 A5 f2.box.length c5 B5 f2.sign.length d5
      have q5 : Below w10.heap.size w10 (w10.alloc (.cells (frC f2 (.slice A5 f2.box.length c5) (.slice B5 f2.sign.length d5)) 80)) := (by repeat (first | with_reducible exact Below.refl _ _ | with_reducible assumption | refine Below.drew ?_ | refine below_drewN ?_ | refine Below.alloc ?_ (by first | omega | (simp; done) | (simp; omega)) _ | refine below_setRow ?_ (by omega) _ | refine Below.setCell ?_ (by first | omega | (simp; done) | (simp; omega)) _))
      have R5 : RowIs (w10.alloc (.cells (frC f2 (.slice A5 f2.box.length c5) (.slice B5 f2.sign.length d5)) 80)) w10.heap.size (frC f2 (.slice A5 f2.box.length c5) (.slice B5 f2.sign.length d5)) := RowIs.new _ _ _
      replace R := R.step q5
      replace HR := HR.step q5
      replace FV := FV.step q5
      replace k1 := k1.step q5
      replace F2 := F2.step q5
      replace R2 := R2.step q5
      replace k3 := k3.step q5
      replace R3 := R3.step q5
      replace hb8 := hb8.step q5
      replace F5 := F5.step q5
      replace B := B.trans (q5.mono B.size)
      clear q5
      replace L := frload R hw
      have L2 := frload R2 hw
      go_wp2_with fail
      refine (HSM.out _ _ _ FV F2).mono ?_
      rintro e w11 ⟨rfl, b11⟩
      replace R := R.step b11
      replace HR := HR.step b11
      replace FV := FV.step b11
      replace k1 := k1.step b11
      replace F2 := F2.step b11
      replace R2 := R2.step b11
      replace k3 := k3.step b11
      replace R3 := R3.step b11
      replace hb8 := hb8.step b11
      replace F5 := F5.step b11
      replace R5 := R5.step b11
      replace B := B.trans (b11.mono B.size)
      clear b11
      replace L := frload R hw
      clear L2
      by_cases l0 : left < 0
      · go_wp2_with fail
        go_ret
        exact ⟨rfl, B⟩
      · obtain ⟨m, rfl⟩ : ∃ m : Nat, left = m := ⟨left.toNat, by omega⟩
        by_cases lm : m < bs.length
        · have l1 : ¬ (bs.length : Int) ≤ m := by omega
          have hto : ∀ w, (Instr.sliceAt 25 (.slice Ab bs.length cb) none (some (.int .i64 m)) none).run Try.prog w = .ok (.slice Ab m cb) w := fun w => run_upto Ab _ cb m (by omega) w
          have hto2 : ∀ w, (Instr.sliceAt 25 (.slice Ab bs.length cb) none (some (.int .i64 cs.length)) none).run Try.prog w = .ok (.slice Ab cs.length cb) w := fun w => run_upto Ab _ cb cs.length (by omega) w
          have hpart := k1.take m (by omega)
          have hpart2 := k1.take cs.length (by omega)
          rw [HTK.out] at hpart2
          obtain ⟨f3, hf3⟩ : ∃ f3, f3 = (decFP (bs.take m)).1 := ⟨_, rfl⟩
          have e3 : decFP (bs.take m) = (f3, 3) := Prod.ext hf3.symm (HB3.out m lm)
          have HD3 := Lib.hid (fun v W h => frdec_any v (bs.take m) W h)
          unfold FrTo at HD3
          rw [e3] at HD3
          clear hf3 e3
          go_wp2_with fail
          refine (HD3.out _ _ hpart).mono ?_
          rintro e w12 ⟨u6, rfl, F6, b12⟩
          replace R := R.step b12
          replace HR := HR.step b12
          replace FV := FV.step b12
          replace k1 := k1.step b12
          replace F2 := F2.step b12
          replace R2 := R2.step b12
          replace k3 := k3.step b12
          replace R3 := R3.step b12
          replace hb8 := hb8.step b12
          replace F5 := F5.step b12
          replace R5 := R5.step b12
          replace hpart := hpart.step b12
          replace hpart2 := hpart2.step b12
          replace B := B.trans (b12.mono B.size)
          clear b12
          replace L := frload R hw
          obtain ⟨A7, c7, B7, d7, rfl, hw7⟩ := F6.form
          have st7 := frStNew w12 f3 hw7 A7 f3.box.length c7 B7 f3.sign.length d7
          have q7 : Below w12.heap.size w12 (w12.alloc (.cells (frC f3 (.slice A7 f3.box.length c7) (.slice B7 f3.sign.length d7)) 80)) := (by repeat (first | with_reducible exact Below.refl _ _ | with_reducible assumption | refine Below.drew ?_ | refine below_drewN ?_ | refine Below.alloc ?_ (by first | omega | (simp; done) | (simp; omega)) _ | refine below_setRow ?_ (by omega) _ | refine Below.setCell ?_ (by first | omega | (simp; done) | (simp; omega)) _))
          have R7 : RowIs (w12.alloc (.cells (frC f3 (.slice A7 f3.box.length c7) (.slice B7 f3.sign.length d7)) 80)) w12.heap.size (frC f3 (.slice A7 f3.box.length c7) (.slice B7 f3.sign.length d7)) := RowIs.new _ _ _
          replace R := R.step q7
          replace HR := HR.step q7
          replace FV := FV.step q7
          replace k1 := k1.step q7
          replace F2 := F2.step q7
          replace R2 := R2.step q7
          replace k3 := k3.step q7
          replace R3 := R3.step q7
          replace hb8 := hb8.step q7
          replace F5 := F5.step q7
          replace R5 := R5.step q7
          replace hpart := hpart.step q7
          replace hpart2 := hpart2.step q7
          replace F6 := F6.step q7
          replace B := B.trans (q7.mono B.size)
          clear q7
          go_wp2_with fail
          refine (same_self k3 hpart2).mono ?_
          rintro e w13 ⟨rfl, b13⟩
          replace R := R.step b13
          replace HR := HR.step b13
          replace FV := FV.step b13
          replace k1 := k1.step b13
          replace F2 := F2.step b13
          replace R2 := R2.step b13
          replace k3 := k3.step b13
          replace R3 := R3.step b13
          replace hb8 := hb8.step b13
          replace F5 := F5.step b13
          replace R5 := R5.step b13
          replace hpart := hpart.step b13
          replace hpart2 := hpart2.step b13
          replace F6 := F6.step b13
          replace R7 := R7.step b13
          replace B := B.trans (b13.mono B.size)
          clear b13
          replace L := frload R hw
          go_wp2_with fail
          go_ret
          exact ⟨rfl, B⟩
        · have l1 : (bs.length : Int) ≤ m := by omega
          go_wp2_with fail
          go_ret
          exact ⟨rfl, B⟩
    · have e1 : encFP f = ([], checkP f) := if_neg h1
      rw [e1] at HE
      have G1 : (checkP f != (0 : Int)) = true := by rw [bne_iff_ne]; exact h1
      clear e1 h1
      go_enter Try.func14, Try.ntmps14
      go_wp2_with fail
      refine (awake10_any _).mono ?_
      rintro e w2 ⟨rfl, b2⟩
      replace R := R.step b2
      replace HR := HR.step b2
      replace FV := FV.step b2
      replace B := B.trans (b2.mono B.size)
      clear b2
      replace L := frload R hw
      go_wp2_with fail
      refine (HS.out _ HR).mono ?_
      rintro e w3 ⟨rfl, b3⟩
      replace R := R.step b3
      replace HR := HR.step b3
      replace FV := FV.step b3
      replace B := B.trans (b3.mono B.size)
      clear b3
      replace L := frload R hw
      go_wp2_with fail
      refine (HE.out _ _ FV).mono ?_
      rintro e w4 ⟨u1, rfl, k1, b4⟩
      replace R := R.step b4
      replace HR := HR.step b4
      replace FV := FV.step b4
      replace B := B.trans (b4.mono B.size)
      clear b4
      replace L := frload R hw
      obtain ⟨Ab, cb, rfl, -⟩ := id k1
      rw [show ([] : List UInt8).length = 0 from rfl]
      go_wp2_with fail
      go_ret
      exact ⟨rfl, B⟩
end
end Go.Proofs.Ytifnpphkplogaaa
