/- FrameUnlike: the walk of the statement's function. Printed by gen_flaws.py. -/
import Derived.Test.YtifnpphkplogaaaFrWD
namespace Go.Proofs.Ytifnpphkplogaaa
section
open Go.RowKit
theorem box_le' {f : FrP} (h : shortF f = true) : f.box.length ≤ 400 := by
  unfold shortF at h
  rw [Bool.and_eq_true, decide_eq_true_eq, decide_eq_true_eq] at h
  exact h.1
theorem Bs.put_sl {w : World} {v : Value} {l : List UInt8} {p i : Nat} {A : Option Addr} {n c : Nat} (h : Bs w v l) (hc : w.cell? ⟨p, i, none⟩ = some (.slice A n c)) (y : Value) : Bs (w.setCell ⟨p, i, none⟩ y) v l := by
  obtain ⟨A', c', h1, h2, h3, h4⟩ := h
  refine ⟨A', c', h1, h2, h3, fun h0 => ?_⟩
  obtain ⟨g, o, e, hg, hcs⟩ := h4 h0
  refine ⟨g, o, e, by simp [World.setCell]; exact hg, fun k hk => ?_⟩
  have h5 := hcs k hk
  have hne : (⟨p, i, none⟩ : Addr) ≠ ⟨g, o + k, none⟩ := by
    intro e9
    rw [← e9, hc] at h5
    cases h5
  rw [World.cell?_setCell_other (h := hne)]
  exact h5
attribute [local go_sem] zcFr frBuild0 buZ zcBu
set_option maxRecDepth 100000 in
set_option maxHeartbeats 6400000 in
theorem walk_FrameUnlike (va : Value) (f : FrP) (vb : Value) (g : FrP) (w : World) (hr : RawFr w f va) (hs : RawFr w g vb) : Calls Try.prog 10 #[va, vb] w (TrueRes' w) := by
  obtain ⟨A1, c1, B1, d1, rfl, hwf, -, -, hkA⟩ := id hr
  obtain ⟨A2, c2, B2, d2, rfl, hwg, hcB, hrB, -⟩ := id hs
  have B : Below w.heap.size w ((w.alloc (.cells (frC f (.slice A1 f.box.length c1) (.slice B1 f.sign.length d1)) 80)).alloc (.cells (frC g (.slice A2 g.box.length c2) (.slice B2 g.sign.length d2)) 80)) := (by repeat (first | with_reducible exact Below.refl _ _ | with_reducible assumption | refine Below.drew ?_ | refine below_drewN ?_ | refine Below.alloc ?_ (by first | omega | (simp; done) | (simp; omega)) _ | refine below_setRow ?_ (by omega) _ | refine Below.setCell ?_ (by first | omega | (simp; done) | (simp; omega)) _))
  have Rf : RowIs ((w.alloc (.cells (frC f (.slice A1 f.box.length c1) (.slice B1 f.sign.length d1)) 80)).alloc (.cells (frC g (.slice A2 g.box.length c2) (.slice B2 g.sign.length d2)) 80)) w.heap.size (frC f (.slice A1 f.box.length c1) (.slice B1 f.sign.length d1)) := (RowIs.new _ _ _).alloc _
  have Rg : RowIs ((w.alloc (.cells (frC f (.slice A1 f.box.length c1) (.slice B1 f.sign.length d1)) 80)).alloc (.cells (frC g (.slice A2 g.box.length c2) (.slice B2 g.sign.length d2)) 80)) (w.heap.size + 1) (frC g (.slice A2 g.box.length c2) (.slice B2 g.sign.length d2)) := RowIs.new' (by simp)
  have L := frload Rf hwf
  have M := frload Rg hwg
  have Hf := hr.step B
  have Hg := hs.step B
  have SF := fun W h => shortF_any f (.agg (frC f (.slice A1 f.box.length c1) (.slice B1 f.sign.length d1))) W h
  have SG := fun W h => shortF_any g (.agg (frC g (.slice A2 g.box.length c2) (.slice B2 g.sign.length d2))) W h
  cases hsf : shortF f with
  | false =>
    rw [hsf] at SF
    have HF := Lib.hid SF; have HG := Lib.hid SG
    clear SF SG hsf hr hs
    go_enter Try.func10, Try.ntmps10
    go_wp2_with fail
    refine (awake10_any _).mono ?_
    rintro e w2 ⟨rfl, b2⟩
    replace Rf := Rf.step b2
    replace Rg := Rg.step b2
    replace Hf := Hf.step b2
    replace Hg := Hg.step b2
    replace B := B.trans (b2.mono B.size)
    clear b2
    replace L := frload Rf hwf
    replace M := frload Rg hwg
    go_wp2_with fail
    refine (HF.out _ Hf).mono ?_
    rintro e w3 ⟨rfl, b3⟩
    replace Rf := Rf.step b3
    replace Rg := Rg.step b3
    replace Hf := Hf.step b3
    replace Hg := Hg.step b3
    replace B := B.trans (b3.mono B.size)
    clear b3
    replace L := frload Rf hwf
    replace M := frload Rg hwg
    go_wp2_with fail
    refine (HG.out _ Hg).mono ?_
    rintro e w4 ⟨rfl, b4⟩
    replace Rf := Rf.step b4
    replace Rg := Rg.step b4
    replace Hf := Hf.step b4
    replace Hg := Hg.step b4
    replace B := B.trans (b4.mono B.size)
    clear b4
    replace L := frload Rf hwf
    replace M := frload Rg hwg
    go_wp2_with fail
    go_ret
    exact ⟨rfl, B⟩
  | true =>
    rw [hsf] at SF
    cases hsg : shortF g with
    | false =>
      rw [hsg] at SG
      have HF := Lib.hid SF; have HG := Lib.hid SG
      clear SF SG hsf hsg hr hs
      go_enter Try.func10, Try.ntmps10
      go_wp2_with fail
      refine (awake10_any _).mono ?_
      rintro e w2 ⟨rfl, b2⟩
      replace Rf := Rf.step b2
      replace Rg := Rg.step b2
      replace Hf := Hf.step b2
      replace Hg := Hg.step b2
      replace B := B.trans (b2.mono B.size)
      clear b2
      replace L := frload Rf hwf
      replace M := frload Rg hwg
      go_wp2_with fail
      refine (HF.out _ Hf).mono ?_
      rintro e w3 ⟨rfl, b3⟩
      replace Rf := Rf.step b3
      replace Rg := Rg.step b3
      replace Hf := Hf.step b3
      replace Hg := Hg.step b3
      replace B := B.trans (b3.mono B.size)
      clear b3
      replace L := frload Rf hwf
      replace M := frload Rg hwg
      go_wp2_with fail
      refine (HG.out _ Hg).mono ?_
      rintro e w4 ⟨rfl, b4⟩
      replace Rf := Rf.step b4
      replace Rg := Rg.step b4
      replace Hf := Hf.step b4
      replace Hg := Hg.step b4
      replace B := B.trans (b4.mono B.size)
      clear b4
      replace L := frload Rf hwf
      replace M := frload Rg hwg
      go_wp2_with fail
      go_ret
      exact ⟨rfl, B⟩
    | true =>
      rw [hsg] at SG
      have HF := Lib.hid SF; have HG := Lib.hid SG
      have Ff0 := hr.fr hsf
      have Ff := Hf.fr hsf
      have Fg := Hg.fr hsg
      have nf : f.sign.length ≤ 1000000 := Nat.le_trans (box_le hsf) (by omega)
      have ng : g.sign.length ≤ 1000000 := Nat.le_trans (box_le hsg) (by omega)
      have hbg : Bs w (.slice A2 g.box.length c2) g.box := by
        have := box_le' hsg
        exact ⟨A2, c2, rfl, hcB, by omega, hrB⟩
      have HEf := Lib.hid (fun v W h => frenc_any f v W h)
      have HEg := Lib.hid (fun v W h => frenc_any g v W h)
      have HCf := Lib.hid (fun v W h => frcore_any f v W h)
      have HCg := Lib.hid (fun v W h => frcore_any g v W h)
      unfold PairTo at HEf HEg HCf HCg
      clear SF SG hsf hsg hr hs
      by_cases h1 : checkP f = 0
      · have e1 : encFP f = (bytesI (frI f), 0) := if_pos h1
        have e2 : coreP f = (coreB f, 0) := if_pos (check_0 h1).1
        rw [e1] at HEf
        rw [e2] at HCf
        clear e1 e2
        by_cases h2 : checkP g = 0
        · have e1 : encFP g = (bytesI (frI g), 0) := if_pos h2
          have e2 : coreP g = (coreB g, 0) := if_pos (check_0 h2).1
          rw [e1] at HEg
          rw [e2] at HCg
          clear e1 e2
          have K1 : decide (bytesI (frI f) = bytesI (frI g)) = sameF f g := by
            rw [Bool.eq_iff_iff, decide_eq_true_eq, sameF_iff]
            exact ⟨fun h => enc_inj hwf hwg h1 h2 h, fun h => by rw [h]⟩
          have K2 : decide (coreB f = coreB g) = sameF f { g with sign := f.sign } := by
            rw [Bool.eq_iff_iff, decide_eq_true_eq, sameF_iff]
            exact ⟨fun h => core_inj hwf hwg h1 h2 h, fun h => by rw [h]; rfl⟩
          have HS1 := Lib.hid (fun va vb W h h' => frsame_any f g va vb W h h' nf ng)
          have HS2 := Lib.hid (fun va vb W h h' => frsame_any f { g with sign := f.sign } va vb W h h' nf nf)
          have HQ1 := Lib.hid (fun W va vb (h : Bs W va (bytesI (frI f))) (h' : Bs W vb (bytesI (frI g))) => refSame_bs h h')
          have HQ2 := Lib.hid (fun W va vb (h : Bs W va (coreB f)) (h' : Bs W vb (coreB g)) => refSame_bs h h')
          rw [K1] at HQ1
          rw [K2] at HQ2
          clear K1 K2
          obtain ⟨s1, hs1⟩ : ∃ s1, s1 = sameF f g := ⟨_, rfl⟩
          obtain ⟨s2, hs2⟩ : ∃ s2, s2 = sameF f { g with sign := f.sign } := ⟨_, rfl⟩
          rw [← hs1] at HQ1 HS1
          rw [← hs2] at HQ2 HS2
          have I1 := bool_self s1
          have I2 := bool_self s2
          have hw' : FrP.WF { g with sign := f.sign } := ⟨hwg.idx, hwg.ack, hwg.eph, hwg.epo, hwg.nxt, hwf.sign⟩
          clear hs1 hs2 h1 h2
          go_enter Try.func10, Try.ntmps10
          go_wp2_with fail
          refine (awake10_any _).mono ?_
          rintro e w2 ⟨rfl, b2⟩
          replace Rf := Rf.step b2
          replace Rg := Rg.step b2
          replace Hf := Hf.step b2
          replace Hg := Hg.step b2
          replace Ff := Ff.step b2
          replace Fg := Fg.step b2
          replace B := B.trans (b2.mono B.size)
          clear b2
          replace L := frload Rf hwf
          replace M := frload Rg hwg
          go_wp2_with fail
          refine (HF.out _ Hf).mono ?_
          rintro e w3 ⟨rfl, b3⟩
          replace Rf := Rf.step b3
          replace Rg := Rg.step b3
          replace Hf := Hf.step b3
          replace Hg := Hg.step b3
          replace Ff := Ff.step b3
          replace Fg := Fg.step b3
          replace B := B.trans (b3.mono B.size)
          clear b3
          replace L := frload Rf hwf
          replace M := frload Rg hwg
          go_wp2_with fail
          refine (HG.out _ Hg).mono ?_
          rintro e w4 ⟨rfl, b4⟩
          replace Rf := Rf.step b4
          replace Rg := Rg.step b4
          replace Hf := Hf.step b4
          replace Hg := Hg.step b4
          replace Ff := Ff.step b4
          replace Fg := Fg.step b4
          replace B := B.trans (b4.mono B.size)
          clear b4
          replace L := frload Rf hwf
          replace M := frload Rg hwg
          go_wp2_with fail
          refine (HEf.out _ _ Ff).mono ?_
          rintro e w5 ⟨u1, rfl, k1, b5⟩
          replace Rf := Rf.step b5
          replace Rg := Rg.step b5
          replace Hf := Hf.step b5
          replace Hg := Hg.step b5
          replace Ff := Ff.step b5
          replace Fg := Fg.step b5
          replace B := B.trans (b5.mono B.size)
          clear b5
          replace L := frload Rf hwf
          replace M := frload Rg hwg
          go_wp2_with fail
          refine (HEg.out _ _ Fg).mono ?_
          rintro e w6 ⟨u2, rfl, k2, b6⟩
          replace Rf := Rf.step b6
          replace Rg := Rg.step b6
          replace Hf := Hf.step b6
          replace Hg := Hg.step b6
          replace Ff := Ff.step b6
          replace Fg := Fg.step b6
          replace k1 := k1.step b6
          replace B := B.trans (b6.mono B.size)
          clear b6
          replace L := frload Rf hwf
          replace M := frload Rg hwg
          go_wp2_with fail
          refine (HCf.out _ _ Ff).mono ?_
          rintro e w7 ⟨u3, rfl, k3, b7⟩
          replace Rf := Rf.step b7
          replace Rg := Rg.step b7
          replace Hf := Hf.step b7
          replace Hg := Hg.step b7
          replace Ff := Ff.step b7
          replace Fg := Fg.step b7
          replace k1 := k1.step b7
          replace k2 := k2.step b7
          replace B := B.trans (b7.mono B.size)
          clear b7
          replace L := frload Rf hwf
          replace M := frload Rg hwg
          go_wp2_with fail
          refine (HCg.out _ _ Fg).mono ?_
          rintro e w8 ⟨u4, rfl, k4, b8⟩
          replace Rf := Rf.step b8
          replace Rg := Rg.step b8
          replace Hf := Hf.step b8
          replace Hg := Hg.step b8
          replace Ff := Ff.step b8
          replace Fg := Fg.step b8
          replace k1 := k1.step b8
          replace k2 := k2.step b8
          replace k3 := k3.step b8
          replace B := B.trans (b8.mono B.size)
          clear b8
          replace L := frload Rf hwf
          replace M := frload Rg hwg
          go_wp2_with fail
          refine (HS1.out _ _ _ Ff Fg).mono ?_
          rintro e w9 ⟨rfl, b9⟩
          replace Rf := Rf.step b9
          replace Rg := Rg.step b9
          replace Hf := Hf.step b9
          replace Hg := Hg.step b9
          replace Ff := Ff.step b9
          replace Fg := Fg.step b9
          replace k1 := k1.step b9
          replace k2 := k2.step b9
          replace k3 := k3.step b9
          replace k4 := k4.step b9
          replace B := B.trans (b9.mono B.size)
          clear b9
          replace L := frload Rf hwf
          replace M := frload Rg hwg
          obtain ⟨x0, x1, x5, x6⟩ := fr_cells Rf hwf
          obtain ⟨y0, y1, y5, y6⟩ := fr_cells Rg hwg
          have fg := Rg.fz 99
          have lg := Rg.lt
          have BX : Below w.heap.size w (w9.setCell ⟨w.heap.size + 1, 99, none⟩ (.slice B1 f.sign.length d1)) := B.setCell (by simp) _
          have Rf2 : RowIs (w9.setCell ⟨w.heap.size + 1, 99, none⟩ (.slice B1 f.sign.length d1)) w.heap.size (frC f (.slice A1 f.box.length c1) (.slice B1 f.sign.length d1)) := Rf.put_ne (by simp) _
          have Rg2 : RowIs (w9.setCell ⟨w.heap.size + 1, 99, none⟩ (.slice B1 f.sign.length d1)) (w.heap.size + 1) (frC { g with sign := f.sign } (.slice A2 g.box.length c2) (.slice B1 f.sign.length d1)) := by
            have := Rg.put 99 (.slice B1 f.sign.length d1)
            rw [frC_set99 hwg, ← frC_box g g.box f.sign] at this
            exact this
          have Ff2 := Ff0.step BX
          have Fg2 : FrV (w9.setCell ⟨w.heap.size + 1, 99, none⟩ (.slice B1 f.sign.length d1)) { g with sign := f.sign } (.agg (frC { g with sign := f.sign } (.slice A2 g.box.length c2) (.slice B1 f.sign.length d1))) := ⟨_, _, rfl, hw', hbg.step BX, hkA.step BX⟩
          have L2 := frload Rf2 hwf
          have M2 := frload Rg2 hw'
          have k10 : Bs (w9.setCell ⟨w.heap.size + 1, 99, none⟩ (.slice B1 f.sign.length d1)) u1 _ := k1.put_sl y6 _
          have k20 : Bs (w9.setCell ⟨w.heap.size + 1, 99, none⟩ (.slice B1 f.sign.length d1)) u2 _ := k2.put_sl y6 _
          have k30 : Bs (w9.setCell ⟨w.heap.size + 1, 99, none⟩ (.slice B1 f.sign.length d1)) u3 _ := k3.put_sl y6 _
          have k40 : Bs (w9.setCell ⟨w.heap.size + 1, 99, none⟩ (.slice B1 f.sign.length d1)) u4 _ := k4.put_sl y6 _
          replace B := BX
          go_wp2_with fail
          refine (HS2.out _ _ _ Ff2 Fg2).mono ?_
          rintro e w10 ⟨rfl, b10⟩
          replace k10 := k10.step b10
          replace k20 := k20.step b10
          replace k30 := k30.step b10
          replace k40 := k40.step b10
          replace B := B.trans (b10.mono B.size)
          clear b10
          go_wp2_with fail
          refine (HQ1.out _ _ _ k10 k20).mono ?_
          rintro e w11 ⟨rfl, b11⟩
          replace k10 := k10.step b11
          replace k20 := k20.step b11
          replace k30 := k30.step b11
          replace k40 := k40.step b11
          replace B := B.trans (b11.mono B.size)
          clear b11
          go_wp2_with fail
          refine (HQ2.out _ _ _ k30 k40).mono ?_
          rintro e w12 ⟨rfl, b12⟩
          replace k10 := k10.step b12
          replace k20 := k20.step b12
          replace k30 := k30.step b12
          replace k40 := k40.step b12
          replace B := B.trans (b12.mono B.size)
          clear b12
          go_wp2_with fail
          go_ret
          exact ⟨rfl, B⟩
        · have G2 : ((encFP g).2 != (0 : Int)) = true := by
            rw [show encFP g = ([], checkP g) from if_neg h2, bne_iff_ne]; exact h2
          clear h1 h2
          go_enter Try.func10, Try.ntmps10
          go_wp2_with fail
          refine (awake10_any _).mono ?_
          rintro e w2 ⟨rfl, b2⟩
          replace Rf := Rf.step b2
          replace Rg := Rg.step b2
          replace Hf := Hf.step b2
          replace Hg := Hg.step b2
          replace Ff := Ff.step b2
          replace Fg := Fg.step b2
          replace B := B.trans (b2.mono B.size)
          clear b2
          replace L := frload Rf hwf
          replace M := frload Rg hwg
          go_wp2_with fail
          refine (HF.out _ Hf).mono ?_
          rintro e w3 ⟨rfl, b3⟩
          replace Rf := Rf.step b3
          replace Rg := Rg.step b3
          replace Hf := Hf.step b3
          replace Hg := Hg.step b3
          replace Ff := Ff.step b3
          replace Fg := Fg.step b3
          replace B := B.trans (b3.mono B.size)
          clear b3
          replace L := frload Rf hwf
          replace M := frload Rg hwg
          go_wp2_with fail
          refine (HG.out _ Hg).mono ?_
          rintro e w4 ⟨rfl, b4⟩
          replace Rf := Rf.step b4
          replace Rg := Rg.step b4
          replace Hf := Hf.step b4
          replace Hg := Hg.step b4
          replace Ff := Ff.step b4
          replace Fg := Fg.step b4
          replace B := B.trans (b4.mono B.size)
          clear b4
          replace L := frload Rf hwf
          replace M := frload Rg hwg
          go_wp2_with fail
          refine (HEf.out _ _ Ff).mono ?_
          rintro e w5 ⟨u1, rfl, k1, b5⟩
          replace Rf := Rf.step b5
          replace Rg := Rg.step b5
          replace Hf := Hf.step b5
          replace Hg := Hg.step b5
          replace Ff := Ff.step b5
          replace Fg := Fg.step b5
          replace B := B.trans (b5.mono B.size)
          clear b5
          replace L := frload Rf hwf
          replace M := frload Rg hwg
          go_wp2_with fail
          refine (HEg.out _ _ Fg).mono ?_
          rintro e w6 ⟨u2, rfl, k2, b6⟩
          replace Rf := Rf.step b6
          replace Rg := Rg.step b6
          replace Hf := Hf.step b6
          replace Hg := Hg.step b6
          replace Ff := Ff.step b6
          replace Fg := Fg.step b6
          replace k1 := k1.step b6
          replace B := B.trans (b6.mono B.size)
          clear b6
          replace L := frload Rf hwf
          replace M := frload Rg hwg
          go_wp2_with fail
          refine (HCf.out _ _ Ff).mono ?_
          rintro e w7 ⟨u3, rfl, k3, b7⟩
          replace Rf := Rf.step b7
          replace Rg := Rg.step b7
          replace Hf := Hf.step b7
          replace Hg := Hg.step b7
          replace Ff := Ff.step b7
          replace Fg := Fg.step b7
          replace k1 := k1.step b7
          replace k2 := k2.step b7
          replace B := B.trans (b7.mono B.size)
          clear b7
          replace L := frload Rf hwf
          replace M := frload Rg hwg
          go_wp2_with fail
          refine (HCg.out _ _ Fg).mono ?_
          rintro e w8 ⟨u4, rfl, k4, b8⟩
          replace Rf := Rf.step b8
          replace Rg := Rg.step b8
          replace Hf := Hf.step b8
          replace Hg := Hg.step b8
          replace Ff := Ff.step b8
          replace Fg := Fg.step b8
          replace k1 := k1.step b8
          replace k2 := k2.step b8
          replace k3 := k3.step b8
          replace B := B.trans (b8.mono B.size)
          clear b8
          replace L := frload Rf hwf
          replace M := frload Rg hwg
          go_wp2_with fail
          go_ret
          exact ⟨rfl, B⟩
      · have G1 : ((encFP f).2 != (0 : Int)) = true := by
          rw [show encFP f = ([], checkP f) from if_neg h1, bne_iff_ne]; exact h1
        clear h1
        go_enter Try.func10, Try.ntmps10
        go_wp2_with fail
        refine (awake10_any _).mono ?_
        rintro e w2 ⟨rfl, b2⟩
        replace Rf := Rf.step b2
        replace Rg := Rg.step b2
        replace Hf := Hf.step b2
        replace Hg := Hg.step b2
        replace Ff := Ff.step b2
        replace Fg := Fg.step b2
        replace B := B.trans (b2.mono B.size)
        clear b2
        replace L := frload Rf hwf
        replace M := frload Rg hwg
        go_wp2_with fail
        refine (HF.out _ Hf).mono ?_
        rintro e w3 ⟨rfl, b3⟩
        replace Rf := Rf.step b3
        replace Rg := Rg.step b3
        replace Hf := Hf.step b3
        replace Hg := Hg.step b3
        replace Ff := Ff.step b3
        replace Fg := Fg.step b3
        replace B := B.trans (b3.mono B.size)
        clear b3
        replace L := frload Rf hwf
        replace M := frload Rg hwg
        go_wp2_with fail
        refine (HG.out _ Hg).mono ?_
        rintro e w4 ⟨rfl, b4⟩
        replace Rf := Rf.step b4
        replace Rg := Rg.step b4
        replace Hf := Hf.step b4
        replace Hg := Hg.step b4
        replace Ff := Ff.step b4
        replace Fg := Fg.step b4
        replace B := B.trans (b4.mono B.size)
        clear b4
        replace L := frload Rf hwf
        replace M := frload Rg hwg
        go_wp2_with fail
        refine (HEf.out _ _ Ff).mono ?_
        rintro e w5 ⟨u1, rfl, k1, b5⟩
        replace Rf := Rf.step b5
        replace Rg := Rg.step b5
        replace Hf := Hf.step b5
        replace Hg := Hg.step b5
        replace Ff := Ff.step b5
        replace Fg := Fg.step b5
        replace B := B.trans (b5.mono B.size)
        clear b5
        replace L := frload Rf hwf
        replace M := frload Rg hwg
        go_wp2_with fail
        refine (HEg.out _ _ Fg).mono ?_
        rintro e w6 ⟨u2, rfl, k2, b6⟩
        replace Rf := Rf.step b6
        replace Rg := Rg.step b6
        replace Hf := Hf.step b6
        replace Hg := Hg.step b6
        replace Ff := Ff.step b6
        replace Fg := Fg.step b6
        replace k1 := k1.step b6
        replace B := B.trans (b6.mono B.size)
        clear b6
        replace L := frload Rf hwf
        replace M := frload Rg hwg
        go_wp2_with fail
        refine (HCf.out _ _ Ff).mono ?_
        rintro e w7 ⟨u3, rfl, k3, b7⟩
        replace Rf := Rf.step b7
        replace Rg := Rg.step b7
        replace Hf := Hf.step b7
        replace Hg := Hg.step b7
        replace Ff := Ff.step b7
        replace Fg := Fg.step b7
        replace k1 := k1.step b7
        replace k2 := k2.step b7
        replace B := B.trans (b7.mono B.size)
        clear b7
        replace L := frload Rf hwf
        replace M := frload Rg hwg
        go_wp2_with fail
        refine (HCg.out _ _ Fg).mono ?_
        rintro e w8 ⟨u4, rfl, k4, b8⟩
        replace Rf := Rf.step b8
        replace Rg := Rg.step b8
        replace Hf := Hf.step b8
        replace Hg := Hg.step b8
        replace Ff := Ff.step b8
        replace Fg := Fg.step b8
        replace k1 := k1.step b8
        replace k2 := k2.step b8
        replace k3 := k3.step b8
        replace B := B.trans (b8.mono B.size)
        clear b8
        replace L := frload Rf hwf
        replace M := frload Rg hwg
        go_wp2_with fail
        go_ret
        exact ⟨rfl, B⟩
end
end Go.Proofs.Ytifnpphkplogaaa
