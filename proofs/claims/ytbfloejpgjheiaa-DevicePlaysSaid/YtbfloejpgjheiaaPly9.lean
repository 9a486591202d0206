/- Layer 11: the device and the document's play alike. -/
import Derived.Test.YtbfloejpgjheiaaPly8
namespace Go.Proofs.Ytbfloejpgjheiaa
open Go.RowKit
/-- both devices, alike -/
def PlayS (w0 w : World) (g r : Nat) (d : Dv) : Prop := ∃ L vs vp fl lf, L.g = g ∧ Dev w L d ∧ RD L w r d vs vp fl lf ∧ (∀ k, L.has k → w0.heap.size ≤ k) ∧ w0.heap.size ≤ r ∧ Below w0.heap.size w0 w
theorem PlayS.step {w0 w w' : World} {g r : Nat} {d : Dv} (h : PlayS w0 w g r d) (hb : Below w.heap.size w w') : PlayS w0 w' g r d := by
  obtain ⟨L, vs, vp, fl, lf, h1, h2, h3, h4, h5, h6⟩ := h
  exact ⟨L, vs, vp, fl, lf, h1, h2.step hb, h3.step hb, h4, h5, h6.trans (hb.mono h6.size)⟩
/-- the device has gone on; the document's follows -/
structure PlayM (w0 w : World) (g r : Nat) (d d' : Dv) : Prop where
  ex : ∃ L vs vp fl lf, L.g = g ∧ Dev w L d' ∧ RD L w r d vs vp fl lf ∧ (∀ k, L.has k → w0.heap.size ≤ k)
  r0 : w0.heap.size ≤ r
  bel : Below w0.heap.size w0 w
theorem PlayS.go {w0 w w' : World} {r : Nat} {d d' : Dv} {L L' : DL} {vs vp : Value} {fl : Bool} {lf : Int} (h3 : RD L w r d vs vp fl lf) (h4 : ∀ k, L.has k → w0.heap.size ≤ k) (h5 : w0.heap.size ≤ r) (h6 : Below w0.heap.size w0 w) (t : DevTo L L' d' w w') : PlayM w0 w' L.g r d d' := by
  obtain ⟨e1, e2⟩ := DevTo.at h6 t h4 h6.size
  exact ⟨⟨L', vs, vp, fl, lf, t.g, t.dev, h3.dev t, e2⟩, h5, e1⟩
theorem PlayM.go {w0 w w' : World} {r : Nat} {d' : Dv} {L : DL} {v : Value} {e : Ending} (h2 : Dev w L d') (h4 : ∀ k, L.has k → w0.heap.size ≤ k) (h5 : w0.heap.size ≤ r) (h6 : Below w0.heap.size w0 w) (hoff : ¬ L.has r) (t : TurnsR L r d' w v e w') : e = .returned v ∧ PlayS w0 w' L.g r d' := by
  obtain ⟨he, vs, vp, fl, lf, hR, hu⟩ := t
  exact ⟨he, L, vs, vp, fl, lf, rfl, h2.keep fun k hk => hu.block k (h2.lt hk) (fun e => hoff (by rw [← e]; exact hk)), hR, h4, h5, hu.below h6 h5 h6.size⟩
theorem play_same {w0 w : World} {g r : Nat} {d : Dv} (h : PlayS w0 w g r d) (hpl : d.pend.length ≤ 1000) : Calls Try.prog 27 #[.pointer (some ⟨g, 0, none⟩), .pointer (some ⟨r, 0, none⟩)] w fun e w' => e = .returned (.bool true) ∧ PlayS w0 w' g r d := by
  have h' := h
  obtain ⟨L, vs, vp, fl, lf, rfl, h2, h3, h4, h5, h6⟩ := h
  refine (dsame_any L r d vs vp fl lf w h2 h3 hpl).mono ?_
  rintro e w' ⟨he, hb⟩
  exact ⟨he, h'.step hb⟩
section
variable {w0 w : World} {g r : Nat} {d d' : Dv}
/-- the device's turn -/
theorem play1 {f : FuncId} {args : Array Value} {v : Value} (h : PlayS w0 w g r d) (hc : ∀ L, Dev w L d → L.g = g → (∀ k, L.has k → w0.heap.size ≤ k) → Below w0.heap.size w0 w → Calls Try.prog f args w fun e w' => e = .returned v ∧ ∃ L', DevTo L L' d' w w') : Calls Try.prog f args w fun e w' => e = .returned v ∧ PlayM w0 w' g r d d' := by
  obtain ⟨L, vs, vp, fl, lf, rfl, h2, h3, h4, h5, h6⟩ := h
  refine (hc L h2 rfl h4 h6).mono ?_
  rintro e w' ⟨he, L', t⟩
  exact ⟨he, PlayS.go h3 h4 h5 h6 t⟩
/-- the document's turn -/
theorem play2 {f : FuncId} {args : Array Value} {v : Value} (h : PlayM w0 w g r d d') (hc : ∀ L vs vp fl lf, RD L w r d vs vp fl lf → (∀ k, L.has k → k < w.heap.size) → Below w0.heap.size w0 w → w0.heap.size ≤ r → Calls Try.prog f args w (TurnsR L r d' w v)) : Calls Try.prog f args w fun e w' => e = .returned v ∧ PlayS w0 w' g r d' := by
  obtain ⟨⟨L, vs, vp, fl, lf, rfl, h2, h3, h4⟩, h5, h6⟩ := h
  refine (hc L vs vp fl lf h3 (fun k hk => h2.lt hk) h6 h5).mono ?_
  rintro e w' t
  exact PlayM.go h2 h4 h5 h6 h3.off t
theorem PlayM.step {w' : World} (h : PlayM w0 w g r d d') (hb : Below w.heap.size w w') : PlayM w0 w' g r d d' := by
  obtain ⟨⟨L, vs, vp, fl, lf, h1, h2, h3, h4⟩, h5, h6⟩ := h
  exact ⟨⟨L, vs, vp, fl, lf, h1, h2.step hb, h3.step hb, h4⟩, h5, h6.trans (hb.mono h6.size)⟩
theorem rdOut {A : Option Addr} {l : List UInt8} (h : Rd8 w0 w0.heap.size A l) (hb : Below w0.heap.size w0 w) : Rd8 w w.heap.size A l := (h.stepB hb).more hb.size
theorem play_write1 (h : PlayS w0 w g r d) (i : Int) (A : Option Addr) (c : Nat) (b : List UInt8) (hc : b.length ≤ c) (hr : Rd8 w0 w0.heap.size A b) (hpl : d.pend.length ≤ 1000) :
    Calls Try.prog 14 #[.pointer (some ⟨g, 0, none⟩), .int .i64 i, .slice A b.length c] w fun e w' => e = .returned (.int .i64 (d.errW i b)) ∧ PlayM w0 w' g r d (d.write i b) :=
  play1 h fun L hd hg hL hb => by subst hg; exact write_any L d i A c b w hd hc (rdOut hr hb) (hr.apart L hL) (by omega)
theorem play_write2 {i : Int} {b : List UInt8} (h : PlayM w0 w g r d (d.write i b)) (A : Option Addr) (c : Nat) (hc : b.length ≤ c) (hr : Rd8 w0 w0.heap.size A b) (hpl : d.pend.length ≤ 1000) :
    Calls Try.prog 22 #[.pointer (some ⟨r, 0, none⟩), .int .i64 i, .slice A b.length c] w fun e w' => e = .returned (.int .i64 (d.errW i b)) ∧ PlayS w0 w' g r (d.write i b) :=
  play2 h fun L vs vp fl lf hR hL hb _ => rwrite_any L r d vs vp fl lf w hR hL i A c b (fun _ => Bs.of hc (by omega) (rdOut hr hb)) hpl
theorem play_sync1 (h : PlayS w0 w g r d) : Calls Try.prog 10 #[.pointer (some ⟨g, 0, none⟩)] w fun e w' => e = .returned (.int .i64 d.errS) ∧ PlayM w0 w' g r d d.sync :=
  play1 h fun L hd hg _ _ => by subst hg; exact sync_any L d w hd
theorem play_sync2 (h : PlayM w0 w g r d d.sync) (hpl : d.pend.length ≤ 1000) : Calls Try.prog 23 #[.pointer (some ⟨r, 0, none⟩)] w fun e w' => e = .returned (.int .i64 d.errS) ∧ PlayS w0 w' g r d.sync :=
  play2 h fun L vs vp fl lf hR hL _ _ => rsync_any L r d vs vp fl lf w hR hL hpl
theorem play_crash1 (h : PlayS w0 w g r d) (A : Option Addr) (c : Nat) (ks : List Bool) (hc : ks.length ≤ c) (hr : RdB w0 w0.heap.size A ks) (hpl : d.pend.length ≤ 1000) :
    Calls Try.prog 12 #[.pointer (some ⟨g, 0, none⟩), .slice A ks.length c] w fun e w' => e = .returned (.tuple #[]) ∧ PlayM w0 w' g r d (d.crash ks) :=
  play1 h fun L hd hg hL hb => by subst hg; exact crash_any L d A c ks w hd hc ((hr.step hb).more hb.size) (hr.apart L hL) (by omega)
theorem play_crash2 {ks : List Bool} (h : PlayM w0 w g r d (d.crash ks)) (A : Option Addr) (c : Nat) (hr : RdB w0 w0.heap.size A ks) (hpl : d.pend.length ≤ 1000) :
    Calls Try.prog 24 #[.pointer (some ⟨r, 0, none⟩), .slice A ks.length c] w fun e w' => e = .returned (.tuple #[]) ∧ PlayS w0 w' g r (d.crash ks) :=
  play2 h fun L vs vp fl lf hR hL hb h5 => rcrash_any L r d vs vp fl lf w hR hL A c ks ((hr.step hb).more hb.size) (fun h0 g' o' e => by
    obtain ⟨g2, o2, e2, hg2, _⟩ := hr h0
    rw [e] at e2
    injection e2 with e2
    injection e2 with e2
    omega) hpl
theorem play_fuse1 (h : PlayS w0 w g r d) (n : Int) (h1 : -9223372036854775808 ≤ n) (h2 : n ≤ 9223372036854775807) : Calls Try.prog 17 #[.pointer (some ⟨g, 0, none⟩), .int .i64 n] w fun e w' => e = .returned (.tuple #[]) ∧ PlayM w0 w' g r d (d.setFuse n) :=
  play1 h fun L hd hg _ _ => by
    subst hg
    refine (fuse_any L d n w hd h1 h2).mono ?_
    rintro e w' ⟨he, t⟩
    exact ⟨he, L, t⟩
theorem play_fuse2 {n : Int} (h : PlayM w0 w g r d (d.setFuse n)) (h1 : -9223372036854775808 ≤ n) (h2 : n ≤ 9223372036854775807) : Calls Try.prog 25 #[.pointer (some ⟨r, 0, none⟩), .int .i64 n] w fun e w' => e = .returned (.tuple #[]) ∧ PlayS w0 w' g r (d.setFuse n) :=
  play2 h fun L vs vp fl lf hR _ _ _ => rfuse_any L r d vs vp fl lf n w hR h1 h2
end
theorem RD.mv {L L' : DL} {w w' : World} {r : Nat} {d : Dv} {vs vp : Value} {fl : Bool} {lf : Int} (h : RD L w r d vs vp fl lf) (hb : Below w.heap.size w w') (hL : ∀ k, L'.has k → w.heap.size ≤ k) : RD L' w' r d vs vp fl lf := by
  have m : Mv L L' r w w' := ⟨hb.size, fun k hk _ _ => hb.block k hk, fun k hk => .inr (hL k hk)⟩
  exact ⟨h.row.step hb, h.fuse, h.secs.mv h.no8 m, h.pend.mv h.no8 m, fun hk => by have := hL r hk; have := h.row.lt; omega, h.ok, h.cons⟩
theorem play_copy1 {w0 w : World} {g r : Nat} {d : Dv} (h : PlayS w0 w g r d) (hpl : d.pend.length ≤ 1000) : Calls Try.prog 20 #[.pointer (some ⟨g, 0, none⟩)] w fun e w' => ∃ g', e = .returned (.pointer (some ⟨g', 0, none⟩)) ∧ PlayS w0 w' g' r d := by
  obtain ⟨L, vs, vp, fl, lf, rfl, h2, h3, h4, h5, h6⟩ := h
  refine (copy_any L d w h2 (by omega)).mono ?_
  rintro e w' ⟨L', he, hd, hb, hL⟩
  exact ⟨L'.g, he, L', vs, vp, fl, lf, rfl, hd, h3.mv hb hL, fun k hk => by have := hL k hk; have := h6.size; omega, h5, h6.trans (hb.mono h6.size)⟩
theorem play_copy2 {w0 w : World} {g r : Nat} {d : Dv} (h : PlayS w0 w g r d) : Calls Try.prog 26 #[.pointer (some ⟨r, 0, none⟩)] w fun e w' => ∃ r', e = .returned (.pointer (some ⟨r', 0, none⟩)) ∧ PlayS w0 w' g r' d := by
  obtain ⟨L, vs, vp, fl, lf, rfl, h2, h3, h4, h5, h6⟩ := h
  refine (rcopy_any L r d vs vp fl lf w h3 (fun k hk => h2.lt hk)).mono ?_
  rintro e w' ⟨r', he, hR, hb, hr'⟩
  exact ⟨r', he, L, vs, vp, fl, lf, rfl, h2.step hb, hR, h4, by have := h6.size; omega, h6.trans (hb.mono h6.size)⟩
end Go.Proofs.Ytbfloejpgjheiaa
