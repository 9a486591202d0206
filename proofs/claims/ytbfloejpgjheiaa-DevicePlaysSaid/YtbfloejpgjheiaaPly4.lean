/- Layer 11, the document's device: Sync, Crash, Copy. -/
import Derived.Test.YtbfloejpgjheiaaPly3
namespace Go.Proofs.Ytbfloejpgjheiaa
open Go.RowKit
theorem Secs.alike {L : DL} {w : World} {r n : Nat} {vs : Value} {S S' : List UInt8} (h : Secs L w r vs n S) (he : ∀ j, j < n → sect S j = sect S' j) : Secs L w r vs n S' := by
  obtain ⟨A, c, e, hc, h1⟩ := h
  refine ⟨A, c, e, hc, fun h0 => ?_⟩
  obtain ⟨g, e1, hg, hl, hgr, hj⟩ := h1 h0
  refine ⟨g, e1, hg, hl, hgr, fun j hjn => ?_⟩
  obtain ⟨v, h2, h3⟩ := hj j hjn
  exact ⟨v, h2, by rw [← he j hjn]; exact h3⟩
/-- all that is pending, kept -/
theorem keepK_all (d : Dv) (h : d.Ok) (j : Nat) (hj : j < d.n) : ∀ k, k ≤ d.pend.length → sect (Dv.keepK d.pend (List.replicate d.pend.length true) d.sure k) j = lastP (d.pend.take k) j (sect d.sure j)
  | 0, _ => by simp [Dv.keepK, lastP]
  | k + 1, hk => by
    have ih := keepK_all d h j hj k (by omega)
    have hp := Dv.pend_at h k (by omega)
    have hkt : (List.replicate d.pend.length true).getD k false = true := by simp [List.getD, show k < d.pend.length by omega]
    have e : d.pend.take (k + 1) = d.pend.take k ++ [d.pend.getD k (0, [])] := by
      rw [List.take_succ_eq_append_getElem (by omega)]
      simp [List.getD, show k < d.pend.length by omega]
    simp only [Dv.keepK, hkt, if_true]
    rw [sect_spl _ _ _ _ d.n (Dv.keepK_length h _ k (by omega)) hp.1 hp.2, e, lastP_app, ih]
    by_cases e2 : j = (d.pend.getD k (0, [])).1
    · rw [if_pos e2, if_pos e2.symm]
    · rw [if_neg e2, if_neg (Ne.symm e2)]
set_option maxRecDepth 100000 in
theorem rsync_any (L : DL) (r : Nat) (d : Dv) (vs vp : Value) (fl : Bool) (lf : Int) (w : World) (h : RD L w r d vs vp fl lf) (hL : ∀ k, L.has k → k < w.heap.size) (hpl : d.pend.length ≤ 1000) :
    Calls Try.prog 23 #[.pointer (some ⟨r, 0, none⟩)] w (TurnsR L r d.sync w (.int .i64 d.errS)) := by
  have HL := Lib.hid hL
  have HPL := Lib.hid hpl
  by_cases hd : d.tick.down = true
  · have hD : d.sync = d.tick ∧ d.errS = 61 := by unfold Dv.sync Dv.errS; simp [hd]
    have HD := Lib.hid hD
    have HDN := Lib.hid hd
    clear hD hd
    go_enter Try.func23, Try.ntmps23
    go_wp2_with fail
    refine (rdone_any L r d vs vp fl lf w h).mono ?_
    rintro e w1 ⟨rfl, lf1, h1, hu1⟩
    rw [HDN.out]
    go_wp2_with fail
    go_ret
    exact ⟨by rw [HD.out.2]; rfl, vs, vp, fl, lf1, by rw [HD.out.1]; exact h1, hu1⟩
  · have hD : d.sync = { d.tick with sure := d.seen, pend := [] } ∧ d.errS = 0 := by unfold Dv.sync Dv.errS; simp [hd]
    have HD := Lib.hid hD
    have hdf : d.tick.down = false := by simpa using hd
    have HDN := Lib.hid hdf
    clear hD hd hdf
    go_enter Try.func23, Try.ntmps23
    go_wp2_with fail
    refine (rdone_any L r d vs vp fl lf w h).mono ?_
    rintro e w1 ⟨rfl, lf1, h1, hu1⟩
    rw [HDN.out]
    go_wp2_with fail
    refine (rkeep_any L r d.tick vs vp fl lf1 w1 h1 (fun k hk => by have := HL.out k hk; have := hu1.size; omega) true none 0 [] (RdB.nil _ _ _) (fun h => by simp at h) HPL.out).mono ?_
    rintro e w2 ⟨rfl, vs2, hrow, hsec, hu2⟩
    go_wp2_with fail
    go_ret
    refine ⟨by rw [HD.out.2]; rfl, vs2, .slice none 0 0, fl, lf1, ?_, hu1.trans hu2⟩
    rw [HD.out.1]
    refine ⟨hrow, h1.fuse, hsec.alike fun j hj => ?_, Pend.nil _ _ _, h1.off, ⟨h1.ok.n1, h1.ok.n6, h1.ok.seen, h1.ok.seen, fun p hp => by simp at hp, h1.ok.lo, h1.ok.hi⟩, fun j _ => rfl⟩
    have := keepK_all d h.ok j hj d.pend.length (Nat.le_refl _)
    rw [List.take_of_length_le (Nat.le_refl _)] at this
    exact this.trans (h.cons j hj).symm
set_option maxRecDepth 100000 in
theorem rcrash_any (L : DL) (r : Nat) (d : Dv) (vs vp : Value) (fl : Bool) (lf : Int) (w : World) (h : RD L w r d vs vp fl lf) (hL : ∀ k, L.has k → k < w.heap.size) (A : Option Addr) (c : Nat) (ks : List Bool) (hr : RdB w w.heap.size A ks) (hra : 0 < ks.length → ∀ g o, A = some ⟨g, o, none⟩ → g ≠ r) (hpl : d.pend.length ≤ 1000) :
    Calls Try.prog 24 #[.pointer (some ⟨r, 0, none⟩), .slice A ks.length c] w (TurnsR L r (d.crash ks) w (.tuple #[])) := by
  have HH := Lib.hid h
  have hk := rkeep_any L r d vs vp fl lf w h hL false A c ks hr hra hpl
  have HK := Lib.hid hk
  clear hk h hL hr hra hpl
  obtain ⟨m, hm⟩ : ∃ m, ks.length = m := ⟨_, rfl⟩
  rw [hm] at HK ⊢
  clear hm
  go_enter Try.func24, Try.ntmps24
  go_wp2_with fail
  refine HK.out.mono ?_
  rintro e w1 ⟨rfl, vs1, hrow, hsec, hu⟩
  obtain ⟨c0, c1, c2, c3, c4⟩ := hrow.cells5
  have f2 := hrow.fz 2
  have f4 := hrow.fz 4
  clear c0 c1 c3
  go_wp2_with fail
  go_end0
  have h := HH.out
  have hu2 : Upd r w1 ((w1.setCell ⟨r, 2, none⟩ (.bool false)).setCell ⟨r, 4, none⟩ (.bool false)) := ((Upd.refl r w1).put 2 _).put 4 _
  have hn8 : No8 w1 r := by
    obtain ⟨A', c', rfl, _⟩ := hsec
    exact no8_row hrow (by simp)
  refine ⟨rfl, vs1, .slice none 0 0, false, lf, ⟨?_, .inr ⟨rfl, by show (-1 : Int) < 0; omega⟩, ?_, Pend.nil _ _ _, h.off, Dv.crash_ok h.ok ks, fun j _ => rfl⟩, hu.trans hu2⟩
  · have := (hrow.put 2 (.bool false)).put 4 (.bool false)
    simpa [Dv.crash] using this
  · exact hsec.mv hn8 (Mv.upd hu2)
end Go.Proofs.Ytbfloejpgjheiaa
