/- FrameEncodes: the walk of the statement's function. Printed by gen_flaws.py. -/
import Derived.Test.YtifnpphkplogaaaFrWD
namespace Go.Proofs.Ytifnpphkplogaaa
section
open Go.RowKit
attribute [local go_sem] zcFr frBuild0 buZ zcBu
set_option maxRecDepth 100000 in
set_option maxHeartbeats 6400000 in
theorem walk_FrameEncodes (v : Value) (f : FrP) (w : World) (hr : RawFr w f v) : Calls Try.prog 9 #[v] w (TrueRes' w) := by
  obtain ⟨A, c, A2, c2, rfl, hw, -⟩ := id hr
  have B : Below w.heap.size w (w.alloc (.cells (frC f (.slice A f.box.length c) (.slice A2 f.sign.length c2)) 80)) := (by repeat (first | with_reducible exact Below.refl _ _ | with_reducible assumption | refine Below.drew ?_ | refine below_drewN ?_ | refine Below.alloc ?_ (by first | omega | (simp; done) | (simp; omega)) _ | refine below_setRow ?_ (by omega) _ | refine Below.setCell ?_ (by first | omega | (simp; done) | (simp; omega)) _))
  have R : RowIs (w.alloc (.cells (frC f (.slice A f.box.length c) (.slice A2 f.sign.length c2)) 80)) w.heap.size (frC f (.slice A f.box.length c) (.slice A2 f.sign.length c2)) := RowIs.new _ _ _
  have L := frload R hw
  have HR := hr.step B
  have SH := fun W h => shortF_any f (.agg (frC f (.slice A f.box.length c) (.slice A2 f.sign.length c2))) W h
  cases hs : shortF f with
  | false =>
    rw [hs] at SH
    have HS := Lib.hid SH
    clear SH hs hr
    go_enter Try.func9, Try.ntmps9
    go_wp2_with fail
    refine (awake10_any _).mono ?_
    rintro e w2 ⟨rfl, b2⟩
    replace R := R.step b2
    replace HR := HR.step b2
    replace B := B.trans (b2.mono B.size)
    clear b2
    replace L := frload R hw
    go_wp2_with fail
    refine (HS.out _ HR).mono ?_
    rintro e w3 ⟨rfl, b3⟩
    replace R := R.step b3
    replace HR := HR.step b3
    replace B := B.trans (b3.mono B.size)
    clear b3
    replace L := frload R hw
    go_wp2_with fail
    go_ret
    exact ⟨rfl, B⟩
  | true =>
    have FV := HR.fr hs
    rw [hs] at SH
    have HS := Lib.hid SH
    have E1 := int_self (checkP f)
    have E2 := int_self (coreP f).2
    have E3 := int_self (encFP f).2
    clear SH hs hr
    go_enter Try.func9, Try.ntmps9
    go_wp2_with fail
    refine (awake10_any _).mono ?_
    rintro e w2 ⟨rfl, b2⟩
    replace R := R.step b2
    replace HR := HR.step b2
    replace FV := FV.step b2
    replace B := B.trans (b2.mono B.size)
    clear b2
    replace L := frload R hw
    go_wp2_with fail
    refine (HS.out _ HR).mono ?_
    rintro e w3 ⟨rfl, b3⟩
    replace R := R.step b3
    replace HR := HR.step b3
    replace FV := FV.step b3
    replace B := B.trans (b3.mono B.size)
    clear b3
    replace L := frload R hw
    go_wp2_with fail
    refine (check_any f _ _ FV).mono ?_
    rintro e w4 ⟨rfl, b4⟩
    replace R := R.step b4
    replace HR := HR.step b4
    replace FV := FV.step b4
    replace B := B.trans (b4.mono B.size)
    clear b4
    replace L := frload R hw
    go_wp2_with fail
    refine (frcore_any f _ _ FV).mono ?_
    rintro e w5 ⟨u1, rfl, h1, b5⟩
    replace R := R.step b5
    replace HR := HR.step b5
    replace FV := FV.step b5
    replace B := B.trans (b5.mono B.size)
    clear b5
    replace L := frload R hw
    go_wp2_with fail
    refine (refcore_any f _ _ FV).mono ?_
    rintro e w6 ⟨u2, rfl, h2, b6⟩
    replace R := R.step b6
    replace HR := HR.step b6
    replace FV := FV.step b6
    replace h1 := h1.step b6
    replace B := B.trans (b6.mono B.size)
    clear b6
    replace L := frload R hw
    go_wp2_with fail
    refine (frenc_any f _ _ FV).mono ?_
    rintro e w7 ⟨u3, rfl, h3, b7⟩
    replace R := R.step b7
    replace HR := HR.step b7
    replace FV := FV.step b7
    replace h1 := h1.step b7
    replace h2 := h2.step b7
    replace B := B.trans (b7.mono B.size)
    clear b7
    replace L := frload R hw
    go_wp2_with fail
    refine (refenc_any f _ _ FV).mono ?_
    rintro e w8 ⟨u4, rfl, h4, b8⟩
    replace R := R.step b8
    replace HR := HR.step b8
    replace FV := FV.step b8
    replace h1 := h1.step b8
    replace h2 := h2.step b8
    replace h3 := h3.step b8
    replace B := B.trans (b8.mono B.size)
    clear b8
    replace L := frload R hw
    go_wp2_with fail
    refine (refcheck_any f _ _ FV).mono ?_
    rintro e w9 ⟨rfl, b9⟩
    replace R := R.step b9
    replace HR := HR.step b9
    replace FV := FV.step b9
    replace h1 := h1.step b9
    replace h2 := h2.step b9
    replace h3 := h3.step b9
    replace h4 := h4.step b9
    replace B := B.trans (b9.mono B.size)
    clear b9
    replace L := frload R hw
    go_wp2_with fail
    refine (same_self h1 h2).mono ?_
    rintro e w10 ⟨rfl, b10⟩
    replace R := R.step b10
    replace HR := HR.step b10
    replace FV := FV.step b10
    replace h1 := h1.step b10
    replace h2 := h2.step b10
    replace h3 := h3.step b10
    replace h4 := h4.step b10
    replace B := B.trans (b10.mono B.size)
    clear b10
    replace L := frload R hw
    go_wp2_with fail
    refine (same_self h3 h4).mono ?_
    rintro e w11 ⟨rfl, b11⟩
    replace R := R.step b11
    replace HR := HR.step b11
    replace FV := FV.step b11
    replace h1 := h1.step b11
    replace h2 := h2.step b11
    replace h3 := h3.step b11
    replace h4 := h4.step b11
    replace B := B.trans (b11.mono B.size)
    clear b11
    replace L := frload R hw
    go_wp2_with fail
    go_ret
    exact ⟨rfl, B⟩
end
end Go.Proofs.Ytifnpphkplogaaa
