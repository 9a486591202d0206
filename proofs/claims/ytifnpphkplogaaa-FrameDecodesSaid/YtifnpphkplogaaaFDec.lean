/- FrameDecodes: the walk of the statement's function. Printed by gen_flaws.py. -/
import Derived.Test.YtifnpphkplogaaaFrWD
namespace Go.Proofs.Ytifnpphkplogaaa
section
open Go.RowKit
attribute [local go_sem] zcFr frBuild0 buZ zcBu
set_option maxRecDepth 100000 in
set_option maxHeartbeats 6400000 in
theorem walk_FrameDecodes (A : Option Addr) (c : Nat) (b : List UInt8) (w : World) (hc : b.length ≤ c) (hr : Rd8 w w.heap.size A b) : Calls Try.prog 11 #[.slice A b.length c] w (TrueRes' w) := by
  by_cases hl : 9000 < b.length
  · have g0 : (9000 : Int) < (b.length : Int) := by omega
    clear hr hc hl
    go_enter Try.func11, Try.ntmps11
    go_wp2_with fail
    refine (awake10_any _).mono ?_
    rintro e w2 ⟨rfl, B⟩
    go_wp2_with fail
    go_ret
    exact ⟨rfl, B⟩
  · have g0 : ¬ (9000 : Int) < (b.length : Int) := by omega
    have hv : Bs w (.slice A b.length c) b := ⟨A, c, rfl, hc, by omega, hr⟩
    have HD := Lib.hid (fun W h => frdec_any (.slice A b.length c) b W h)
    have HE := Lib.hid (fun W h => refdec_any (.slice A b.length c) b W h)
    have HX := Lib.hid (fun W h => budec_any (.slice A b.length c) b W h)
    have HY := Lib.hid (fun W h => refbudec_any (.slice A b.length c) b W h)
    have hsn := decF_sign b
    have hbw := decB_wf b
    unfold FrTo at HD HE
    unfold BuTo at HX HY
    obtain ⟨P, hP⟩ : ∃ P, P = decFP b := ⟨_, rfl⟩
    obtain ⟨Q, hQ⟩ : ∃ Q, Q = decBP b := ⟨_, rfl⟩
    rw [← hP] at HD HE hsn
    rw [← hQ] at HX HY hbw
    obtain ⟨f, er⟩ := P
    obtain ⟨x, eb⟩ := Q
    replace hsn : f.sign.length ≤ 1000000 := hsn
    replace hbw : x.WF := hbw
    have E1 := int_self er
    have E2 := int_self eb
    have EQ := fun W => eqBu x x hbw hbw W
    rw [(sameBu_iff x x).2 rfl] at EQ
    have SS := sameF_self f
    have HSS := Lib.hid (fun va vb W h1 h2 => frsame_any f f va vb W h1 h2 hsn hsn)
    rw [SS] at HSS
    have B := Below.refl w.heap.size w
    clear hP hQ hl hr hc SS
    go_enter Try.func11, Try.ntmps11
    go_wp2_with fail
    refine (awake10_any _).mono ?_
    rintro e w2 ⟨rfl, b2⟩
    replace hv := hv.step b2
    replace B := B.trans (b2.mono B.size)
    clear b2
    go_wp2_with fail
    refine (HD.out _ hv).mono ?_
    rintro e w3 ⟨u1, rfl, F1, b3⟩
    replace hv := hv.step b3
    replace B := B.trans (b3.mono B.size)
    clear b3
    obtain ⟨A1, c1, B1, d1, rfl, hwf⟩ := F1.form
    have hz4 := frC_size fr_zero_wf (.slice none 0 0) (.slice none 0 0)
    have hz5 := buC_size zero_wf
    have st1 := frStNew w3 f hwf A1 f.box.length c1 B1 f.sign.length d1
    have q1 : Below w3.heap.size w3 (w3.alloc (.cells (frC f (.slice A1 f.box.length c1) (.slice B1 f.sign.length d1)) 80)) := (by repeat (first | with_reducible exact Below.refl _ _ | with_reducible assumption | refine Below.drew ?_ | refine below_drewN ?_ | refine Below.alloc ?_ (by first | omega | (simp; done) | (simp; omega)) _ | refine below_setRow ?_ (by omega) _ | refine Below.setCell ?_ (by first | omega | (simp; done) | (simp; omega)) _))
    have R1 : RowIs (w3.alloc (.cells (frC f (.slice A1 f.box.length c1) (.slice B1 f.sign.length d1)) 80)) w3.heap.size (frC f (.slice A1 f.box.length c1) (.slice B1 f.sign.length d1)) := RowIs.new _ _ _
    replace hv := hv.step q1
    replace F1 := F1.step q1
    replace B := B.trans (q1.mono B.size)
    clear q1
    go_wp2_with fail
    refine (HE.out _ hv).mono ?_
    rintro e w4 ⟨u2, rfl, F2, b4⟩
    replace hv := hv.step b4
    replace F1 := F1.step b4
    replace R1 := R1.step b4
    replace B := B.trans (b4.mono B.size)
    clear b4
    obtain ⟨A2, c2, B2, d2, rfl, -⟩ := F2.form
    have st2 := frStNew w4 f hwf A2 f.box.length c2 B2 f.sign.length d2
    have q2 : Below w4.heap.size w4 (w4.alloc (.cells (frC f (.slice A2 f.box.length c2) (.slice B2 f.sign.length d2)) 80)) := (by repeat (first | with_reducible exact Below.refl _ _ | with_reducible assumption | refine Below.drew ?_ | refine below_drewN ?_ | refine Below.alloc ?_ (by first | omega | (simp; done) | (simp; omega)) _ | refine below_setRow ?_ (by omega) _ | refine Below.setCell ?_ (by first | omega | (simp; done) | (simp; omega)) _))
    have R2 : RowIs (w4.alloc (.cells (frC f (.slice A2 f.box.length c2) (.slice B2 f.sign.length d2)) 80)) w4.heap.size (frC f (.slice A2 f.box.length c2) (.slice B2 f.sign.length d2)) := RowIs.new _ _ _
    replace hv := hv.step q2
    replace F1 := F1.step q2
    replace R1 := R1.step q2
    replace F2 := F2.step q2
    replace B := B.trans (q2.mono B.size)
    clear q2
    go_wp2_with fail
    refine (HX.out _ hv).mono ?_
    rintro e w5 ⟨rfl, b5⟩
    replace hv := hv.step b5
    replace F1 := F1.step b5
    replace R1 := R1.step b5
    replace F2 := F2.step b5
    replace R2 := R2.step b5
    replace B := B.trans (b5.mono B.size)
    clear b5
    have st3 := buStNew w5 x hbw
    have q3 : Below w5.heap.size w5 (w5.alloc (.cells (buC x) 88)) := (by repeat (first | with_reducible exact Below.refl _ _ | with_reducible assumption | refine Below.drew ?_ | refine below_drewN ?_ | refine Below.alloc ?_ (by first | omega | (simp; done) | (simp; omega)) _ | refine below_setRow ?_ (by omega) _ | refine Below.setCell ?_ (by first | omega | (simp; done) | (simp; omega)) _))
    have R3 : RowIs (w5.alloc (.cells (buC x) 88)) w5.heap.size (buC x) := RowIs.new _ _ _
    replace hv := hv.step q3
    replace F1 := F1.step q3
    replace R1 := R1.step q3
    replace F2 := F2.step q3
    replace R2 := R2.step q3
    replace B := B.trans (q3.mono B.size)
    clear q3
    go_wp2_with fail
    refine (HY.out _ hv).mono ?_
    rintro e w6 ⟨rfl, b6⟩
    replace hv := hv.step b6
    replace F1 := F1.step b6
    replace R1 := R1.step b6
    replace F2 := F2.step b6
    replace R2 := R2.step b6
    replace R3 := R3.step b6
    replace B := B.trans (b6.mono B.size)
    clear b6
    have st4 := buStNew w6 x hbw
    have q4 : Below w6.heap.size w6 (w6.alloc (.cells (buC x) 88)) := (by repeat (first | with_reducible exact Below.refl _ _ | with_reducible assumption | refine Below.drew ?_ | refine below_drewN ?_ | refine Below.alloc ?_ (by first | omega | (simp; done) | (simp; omega)) _ | refine below_setRow ?_ (by omega) _ | refine Below.setCell ?_ (by first | omega | (simp; done) | (simp; omega)) _))
    have R4 : RowIs (w6.alloc (.cells (buC x) 88)) w6.heap.size (buC x) := RowIs.new _ _ _
    replace hv := hv.step q4
    replace F1 := F1.step q4
    replace R1 := R1.step q4
    replace F2 := F2.step q4
    replace R2 := R2.step q4
    replace R3 := R3.step q4
    replace B := B.trans (q4.mono B.size)
    clear q4
    have L1 := frload R1 hwf
    have L2 := frload R2 hwf
    go_wp2_with fail
    refine (HSS.out _ _ _ F1 F2).mono ?_
    rintro e w7 ⟨rfl, b7⟩
    replace hv := hv.step b7
    replace F1 := F1.step b7
    replace R1 := R1.step b7
    replace F2 := F2.step b7
    replace R2 := R2.step b7
    replace R3 := R3.step b7
    replace R4 := R4.step b7
    replace B := B.trans (b7.mono B.size)
    clear b7
    have L3 := buload R3 hbw
    have L4 := buload R4 hbw
    go_wp2_with fail
    go_ret
    exact ⟨rfl, B⟩
end
end Go.Proofs.Ytifnpphkplogaaa
