/- FrameAgain: the walk of the statement's function. Printed by gen_flaws.py. -/
import Derived.Test.YtifnpphkplogaaaFrWD
namespace Go.Proofs.Ytifnpphkplogaaa
section
open Go.RowKit
attribute [local go_sem] zcFr frBuild0 buZ zcBu
set_option maxRecDepth 100000 in
set_option maxHeartbeats 6400000 in
theorem walk_FrameAgain (A : Option Addr) (c : Nat) (b : List UInt8) (w : World) (hc : b.length ≤ c) (hr : Rd8 w w.heap.size A b) : Calls Try.prog 12 #[.slice A b.length c] w (TrueRes' w) := by
  have hz4 := frC_size fr_zero_wf (.slice none 0 0) (.slice none 0 0)
  have hz5 := buC_size zero_wf
  by_cases hl : 9000 < b.length
  · have g0 : (9000 : Int) < (b.length : Int) := by omega
    clear hr hc hl
    go_enter Try.func12, Try.ntmps12
    go_wp2_with fail
    refine (awake10_any _).mono ?_
    rintro e w2 ⟨rfl, B⟩
    go_wp2_with fail
    go_ret
    exact ⟨rfl, B⟩
  · have g0 : ¬ (9000 : Int) < (b.length : Int) := by omega
    have hv : Bs w (.slice A b.length c) b := ⟨A, c, rfl, hc, by omega, hr⟩
    have HD := Lib.hid (fun W h => frdec_any (.slice A b.length c) b W h)
    have HX := Lib.hid (fun W h => budec_any (.slice A b.length c) b W h)
    have hbw := decB_wf b
    unfold FrTo at HD
    unfold BuTo at HX
    have B := Below.refl w.heap.size w
    clear hr hc hl
    by_cases hE : (decFP b).2 = 0
    · obtain ⟨hwf, hen⟩ := fr_again hE
      have hnb : (decBP b).2 ≠ 0 := fun h => not_both hE h
      have hdf := (decF_0 hE).2.2.2.2.1
      rw [hdf] at HD
      obtain ⟨f, hf⟩ : ∃ f, f = rdF b := ⟨_, rfl⟩
      obtain ⟨x, hx⟩ : ∃ x, x = (decBP b).1 := ⟨_, rfl⟩
      obtain ⟨eb, heb⟩ : ∃ eb, eb = (decBP b).2 := ⟨_, rfl⟩
      rw [← hf] at HD hen hwf
      rw [← hx, ← heb] at HX
      rw [← hx] at hbw
      rw [← heb] at hnb
      have HE := Lib.hid (fun v W h => frenc_any f v W h)
      unfold PairTo at HE
      rw [hen] at HE
      have G1 : (eb == (0 : Int)) = false := by rw [beq_eq_false_iff_ne]; exact hnb
      have G2 : (eb != (0 : Int)) = true := by rw [bne_iff_ne]; exact hnb
      clear hf hx heb hE hdf hen hnb
      go_enter Try.func12, Try.ntmps12
      go_wp2_with fail
      refine (awake10_any _).mono ?_
      rintro e w2 ⟨rfl, b2⟩
      replace hv := hv.step b2
      replace B := B.trans (b2.mono B.size)
      clear b2
      go_wp2_with fail
      refine (HD.out _ hv).mono ?_
      rintro e w3 ⟨u1, rfl, F1, b3⟩
      replace hv := hv.step b3
      replace B := B.trans (b3.mono B.size)
      clear b3
      obtain ⟨A1, c1, B1, d1, rfl, hwf1⟩ := F1.form
      have st1 := frStNew w3 f hwf1 A1 f.box.length c1 B1 f.sign.length d1
      have q1 : Below w3.heap.size w3 (w3.alloc (.cells (frC f (.slice A1 f.box.length c1) (.slice B1 f.sign.length d1)) 80)) := (by repeat (first | with_reducible exact Below.refl _ _ | with_reducible assumption | refine Below.drew ?_ | refine below_drewN ?_ | refine Below.alloc ?_ (by first | omega | (simp; done) | (simp; omega)) _ | refine below_setRow ?_ (by omega) _ | refine Below.setCell ?_ (by first | omega | (simp; done) | (simp; omega)) _))
      have R1 : RowIs (w3.alloc (.cells (frC f (.slice A1 f.box.length c1) (.slice B1 f.sign.length d1)) 80)) w3.heap.size (frC f (.slice A1 f.box.length c1) (.slice B1 f.sign.length d1)) := RowIs.new _ _ _
      replace hv := hv.step q1
      replace F1 := F1.step q1
      replace B := B.trans (q1.mono B.size)
      clear q1
      have L1 := frload R1 hwf1
      go_wp2_with fail
      refine (HE.out _ _ F1).mono ?_
      rintro e w4 ⟨u2, rfl, h2, b4⟩
      replace hv := hv.step b4
      replace F1 := F1.step b4
      replace R1 := R1.step b4
      replace B := B.trans (b4.mono B.size)
      clear b4
      go_wp2_with fail
      refine (HX.out _ hv).mono ?_
      rintro e w5 ⟨rfl, b5⟩
      replace hv := hv.step b5
      replace F1 := F1.step b5
      replace R1 := R1.step b5
      replace h2 := h2.step b5
      replace B := B.trans (b5.mono B.size)
      clear b5
      have st3 := buStNew w5 x hbw
      have q3 : Below w5.heap.size w5 (w5.alloc (.cells (buC x) 88)) := (by repeat (first | with_reducible exact Below.refl _ _ | with_reducible assumption | refine Below.drew ?_ | refine below_drewN ?_ | refine Below.alloc ?_ (by first | omega | (simp; done) | (simp; omega)) _ | refine below_setRow ?_ (by omega) _ | refine Below.setCell ?_ (by first | omega | (simp; done) | (simp; omega)) _))
      have R3 : RowIs (w5.alloc (.cells (buC x) 88)) w5.heap.size (buC x) := RowIs.new _ _ _
      replace hv := hv.step q3
      replace F1 := F1.step q3
      replace R1 := R1.step q3
      replace h2 := h2.step q3
      replace B := B.trans (q3.mono B.size)
      clear q3
      have L3 := buload R3 hbw
      go_wp2_with fail
      refine (buenc_any x _ hbw).mono ?_
      rintro e w6 ⟨u3, rfl, h3, b6⟩
      replace hv := hv.step b6
      replace F1 := F1.step b6
      replace R1 := R1.step b6
      replace h2 := h2.step b6
      replace R3 := R3.step b6
      replace B := B.trans (b6.mono B.size)
      clear b6
      go_wp2_with fail
      refine (same_self hv h2).mono ?_
      rintro e w7 ⟨rfl, b7⟩
      replace hv := hv.step b7
      replace F1 := F1.step b7
      replace R1 := R1.step b7
      replace h2 := h2.step b7
      replace R3 := R3.step b7
      replace h3 := h3.step b7
      replace B := B.trans (b7.mono B.size)
      clear b7
      go_wp2_with fail
      go_ret
      exact ⟨rfl, B⟩
    · obtain ⟨f, hf⟩ : ∃ f, f = (decFP b).1 := ⟨_, rfl⟩
      obtain ⟨er, her⟩ : ∃ er, er = (decFP b).2 := ⟨_, rfl⟩
      rw [← hf, ← her] at HD
      rw [← her] at hE
      have G0 : (er == (0 : Int)) = false := by rw [beq_eq_false_iff_ne]; exact hE
      have HE := Lib.hid (fun v W h => frenc_any f v W h)
      unfold PairTo at HE
      clear hf her hE
      by_cases hB : (decBP b).2 = 0
      · have henc := (bu_again hB).2
        have hdb := (decB_0 hB).2.2.2
        rw [hdb] at HX hbw
        obtain ⟨x, hx⟩ : ∃ x, x = rdBu b := ⟨_, rfl⟩
        replace hbw : (rdBu b).WF := hbw
        rw [← hx] at HX hbw henc
        clear hx hdb hB
        go_enter Try.func12, Try.ntmps12
        go_wp2_with fail
        refine (awake10_any _).mono ?_
        rintro e w2 ⟨rfl, b2⟩
        replace hv := hv.step b2
        replace B := B.trans (b2.mono B.size)
        clear b2
        go_wp2_with fail
        refine (HD.out _ hv).mono ?_
        rintro e w3 ⟨u1, rfl, F1, b3⟩
        replace hv := hv.step b3
        replace B := B.trans (b3.mono B.size)
        clear b3
        obtain ⟨A1, c1, B1, d1, rfl, hwf1⟩ := F1.form
        have st1 := frStNew w3 f hwf1 A1 f.box.length c1 B1 f.sign.length d1
        have q1 : Below w3.heap.size w3 (w3.alloc (.cells (frC f (.slice A1 f.box.length c1) (.slice B1 f.sign.length d1)) 80)) := (by repeat (first | with_reducible exact Below.refl _ _ | with_reducible assumption | refine Below.drew ?_ | refine below_drewN ?_ | refine Below.alloc ?_ (by first | omega | (simp; done) | (simp; omega)) _ | refine below_setRow ?_ (by omega) _ | refine Below.setCell ?_ (by first | omega | (simp; done) | (simp; omega)) _))
        have R1 : RowIs (w3.alloc (.cells (frC f (.slice A1 f.box.length c1) (.slice B1 f.sign.length d1)) 80)) w3.heap.size (frC f (.slice A1 f.box.length c1) (.slice B1 f.sign.length d1)) := RowIs.new _ _ _
        replace hv := hv.step q1
        replace F1 := F1.step q1
        replace B := B.trans (q1.mono B.size)
        clear q1
        have L1 := frload R1 hwf1
        go_wp2_with fail
        refine (HE.out _ _ F1).mono ?_
        rintro e w4 ⟨u2, rfl, h2, b4⟩
        replace hv := hv.step b4
        replace F1 := F1.step b4
        replace R1 := R1.step b4
        replace B := B.trans (b4.mono B.size)
        clear b4
        go_wp2_with fail
        refine (HX.out _ hv).mono ?_
        rintro e w5 ⟨rfl, b5⟩
        replace hv := hv.step b5
        replace F1 := F1.step b5
        replace R1 := R1.step b5
        replace h2 := h2.step b5
        replace B := B.trans (b5.mono B.size)
        clear b5
        have st3 := buStNew w5 x hbw
        have q3 : Below w5.heap.size w5 (w5.alloc (.cells (buC x) 88)) := (by repeat (first | with_reducible exact Below.refl _ _ | with_reducible assumption | refine Below.drew ?_ | refine below_drewN ?_ | refine Below.alloc ?_ (by first | omega | (simp; done) | (simp; omega)) _ | refine below_setRow ?_ (by omega) _ | refine Below.setCell ?_ (by first | omega | (simp; done) | (simp; omega)) _))
        have R3 : RowIs (w5.alloc (.cells (buC x) 88)) w5.heap.size (buC x) := RowIs.new _ _ _
        replace hv := hv.step q3
        replace F1 := F1.step q3
        replace R1 := R1.step q3
        replace h2 := h2.step q3
        replace B := B.trans (q3.mono B.size)
        clear q3
        have L3 := buload R3 hbw
        have HN := Lib.hid (fun W => buenc_any x W hbw)
        rw [henc] at HN
        go_wp2_with fail
        refine (HN.out _).mono ?_
        rintro e w6 ⟨u3, rfl, h3, b6⟩
        replace hv := hv.step b6
        replace F1 := F1.step b6
        replace R1 := R1.step b6
        replace h2 := h2.step b6
        replace R3 := R3.step b6
        replace B := B.trans (b6.mono B.size)
        clear b6
        go_wp2_with fail
        refine (same_self hv h3).mono ?_
        rintro e w7 ⟨rfl, b7⟩
        replace hv := hv.step b7
        replace F1 := F1.step b7
        replace R1 := R1.step b7
        replace h2 := h2.step b7
        replace R3 := R3.step b7
        replace h3 := h3.step b7
        replace B := B.trans (b7.mono B.size)
        clear b7
        go_wp2_with fail
        go_ret
        exact ⟨rfl, B⟩
      · obtain ⟨x, hx⟩ : ∃ x, x = (decBP b).1 := ⟨_, rfl⟩
        obtain ⟨eb, heb⟩ : ∃ eb, eb = (decBP b).2 := ⟨_, rfl⟩
        rw [← hx, ← heb] at HX
        rw [← hx] at hbw
        rw [← heb] at hB
        have G1 : (eb == (0 : Int)) = false := by rw [beq_eq_false_iff_ne]; exact hB
        have G2 : (eb != (0 : Int)) = true := by rw [bne_iff_ne]; exact hB
        clear hx heb hB
        go_enter Try.func12, Try.ntmps12
        go_wp2_with fail
        refine (awake10_any _).mono ?_
        rintro e w2 ⟨rfl, b2⟩
        replace hv := hv.step b2
        replace B := B.trans (b2.mono B.size)
        clear b2
        go_wp2_with fail
        refine (HD.out _ hv).mono ?_
        rintro e w3 ⟨u1, rfl, F1, b3⟩
        replace hv := hv.step b3
        replace B := B.trans (b3.mono B.size)
        clear b3
        obtain ⟨A1, c1, B1, d1, rfl, hwf1⟩ := F1.form
        have st1 := frStNew w3 f hwf1 A1 f.box.length c1 B1 f.sign.length d1
        have q1 : Below w3.heap.size w3 (w3.alloc (.cells (frC f (.slice A1 f.box.length c1) (.slice B1 f.sign.length d1)) 80)) := (by repeat (first | with_reducible exact Below.refl _ _ | with_reducible assumption | refine Below.drew ?_ | refine below_drewN ?_ | refine Below.alloc ?_ (by first | omega | (simp; done) | (simp; omega)) _ | refine below_setRow ?_ (by omega) _ | refine Below.setCell ?_ (by first | omega | (simp; done) | (simp; omega)) _))
        have R1 : RowIs (w3.alloc (.cells (frC f (.slice A1 f.box.length c1) (.slice B1 f.sign.length d1)) 80)) w3.heap.size (frC f (.slice A1 f.box.length c1) (.slice B1 f.sign.length d1)) := RowIs.new _ _ _
        replace hv := hv.step q1
        replace F1 := F1.step q1
        replace B := B.trans (q1.mono B.size)
        clear q1
        have L1 := frload R1 hwf1
        go_wp2_with fail
        refine (HE.out _ _ F1).mono ?_
        rintro e w4 ⟨u2, rfl, h2, b4⟩
        replace hv := hv.step b4
        replace F1 := F1.step b4
        replace R1 := R1.step b4
        replace B := B.trans (b4.mono B.size)
        clear b4
        go_wp2_with fail
        refine (HX.out _ hv).mono ?_
        rintro e w5 ⟨rfl, b5⟩
        replace hv := hv.step b5
        replace F1 := F1.step b5
        replace R1 := R1.step b5
        replace h2 := h2.step b5
        replace B := B.trans (b5.mono B.size)
        clear b5
        have st3 := buStNew w5 x hbw
        have q3 : Below w5.heap.size w5 (w5.alloc (.cells (buC x) 88)) := (by repeat (first | with_reducible exact Below.refl _ _ | with_reducible assumption | refine Below.drew ?_ | refine below_drewN ?_ | refine Below.alloc ?_ (by first | omega | (simp; done) | (simp; omega)) _ | refine below_setRow ?_ (by omega) _ | refine Below.setCell ?_ (by first | omega | (simp; done) | (simp; omega)) _))
        have R3 : RowIs (w5.alloc (.cells (buC x) 88)) w5.heap.size (buC x) := RowIs.new _ _ _
        replace hv := hv.step q3
        replace F1 := F1.step q3
        replace R1 := R1.step q3
        replace h2 := h2.step q3
        replace B := B.trans (q3.mono B.size)
        clear q3
        have L3 := buload R3 hbw
        go_wp2_with fail
        refine (buenc_any x _ hbw).mono ?_
        rintro e w6 ⟨u3, rfl, h3, b6⟩
        replace hv := hv.step b6
        replace F1 := F1.step b6
        replace R1 := R1.step b6
        replace h2 := h2.step b6
        replace R3 := R3.step b6
        replace B := B.trans (b6.mono B.size)
        clear b6
        go_wp2_with fail
        go_ret
        exact ⟨rfl, B⟩
end
end Go.Proofs.Ytifnpphkplogaaa
