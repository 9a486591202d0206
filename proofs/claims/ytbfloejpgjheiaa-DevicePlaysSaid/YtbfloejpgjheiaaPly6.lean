/- Layer 11, the document's device: every write; Copy; Read. -/
import Derived.Test.YtbfloejpgjheiaaPly5
namespace Go.Proofs.Ytbfloejpgjheiaa
open Go.RowKit
set_option maxRecDepth 100000 in
theorem rwrite_any (L : DL) (r : Nat) (d : Dv) (vs vp : Value) (fl : Bool) (lf : Int) (w : World) (h : RD L w r d vs vp fl lf) (hL : ∀ k, L.has k → k < w.heap.size) (i : Int) (Ab : Option Addr) (cb : Nat) (b : List UInt8) (hb : b.length ≤ 256 → Bs w (.slice Ab b.length cb) b) (hpl : d.pend.length ≤ 1000) :
    Calls Try.prog 22 #[.pointer (some ⟨r, 0, none⟩), .int .i64 i, .slice Ab b.length cb] w (TurnsR L r (d.write i b) w (.int .i64 (d.errW i b))) := by
  obtain ⟨As, cs, rfl, -, -⟩ := id h.secs
  have c0 := h.row.cells5.1
  by_cases hi : i < 0 ∨ (d.n : Int) ≤ i
  · have hD := Dv.write_sector (d := d) (b := b) hi
    have fin : TurnsR L r (d.write i b) w (.int .i64 (d.errW i b)) (.returned (.int .i64 60)) w := ⟨by rw [hD.2], _, _, fl, lf, by rw [hD.1]; exact h, Upd.refl _ _⟩
    have FIN := Lib.hid fin
    clear fin hD h hb
    by_cases hi0 : i < 0
    · go_enter Try.func22, Try.ntmps22
      go_wp2_with fail
      go_ret
      exact FIN.out
    · have hi1 : (d.n : Int) ≤ i := by omega
      go_enter Try.func22, Try.ntmps22
      go_wp2_with fail
      go_ret
      exact FIN.out
  · obtain ⟨n, rfl⟩ : ∃ n : Nat, i = n := ⟨i.toNat, by omega⟩
    have i0 : ¬ (n : Int) < 0 := by omega
    have i1 : ¬ (d.n : Int) ≤ n := by omega
    by_cases hbl : 256 < b.length
    · have hD := Dv.write_long (d := d) hi hbl
      have fin : TurnsR L r (d.write n b) w (.int .i64 (d.errW n b)) (.returned (.int .i64 2)) w := ⟨by rw [hD.2], _, _, fl, lf, by rw [hD.1]; exact h, Upd.refl _ _⟩
      have FIN := Lib.hid fin
      have i2 : (256 : Int) < b.length := by omega
      clear fin hD h hb
      go_enter Try.func22, Try.ntmps22
      go_wp2_with fail
      go_ret
      exact FIN.out
    · by_cases hd : d.tick.down = true
      · have hD := Dv.write_down (d := d) hi hbl hd
        have i2 : ¬ (256 : Int) < b.length := by omega
        have HD := Lib.hid hD
        have HDN := Lib.hid hd
        clear hD hd hb
        go_enter Try.func22, Try.ntmps22
        go_wp2_with fail
        refine (rdone_any L r d _ vp fl lf w h).mono ?_
        rintro e w1 ⟨rfl, lf1, h1, hu1⟩
        rw [HDN.out]
        go_wp2_with fail
        go_ret
        exact ⟨by rw [HD.out.2]; rfl, _, vp, fl, lf1, by rw [HD.out.1]; exact h1, hu1⟩
      · exact rwrite_goes L r d _ vp fl lf w h hL n _ b (hb (by omega)) (by omega) (by omega) (by simpa using hd) hpl
theorem xbuildR (ev : Operand → Value) (d : Option Tmp) (ps : Array (Nat × Operand)) (ty : TypeId) (p : String) (af : Array Edge) (g : Option (Nat × Bool)) :
    execOp ev ⟨d, .build 68 ps, ty, p, af, g⟩ = buildK 68 (ps.map fun x => (x.1, ev x.2)) := exec_buildK ev d _ ps ty p af g
theorem buildR (A B : Option Addr) (n c m e : Nat) (fl dn : Bool) (lf : Int) (w : World) : (buildK 68 #[(0, .slice A n c), (1, .slice B m e), (2, .bool fl), (3, .int .i64 lf), (4, .bool dn)]).run Try.prog w = .ok (.value (.agg #[.slice A n c, .slice B m e, .bool fl, .int .i64 lf, .bool dn])) w :=
  run_buildK (by kernel_rfl) w
attribute [local go_sem ↓] xbuildR
attribute [local go_sem] buildR
theorem Secs.other {L : DL} {w : World} {r r' n : Nat} {vs : Value} {S : List UInt8} (h : Secs L w r vs n S) (hr : w.heap.size ≤ r') : Secs L w r' vs n S := by
  obtain ⟨A, c, e, hc, h1⟩ := h
  refine ⟨A, c, e, hc, fun h0 => ?_⟩
  obtain ⟨g, e1, hg, hl, hgr, hj⟩ := h1 h0
  exact ⟨g, e1, hg, hl, by omega, hj⟩
theorem Pend.other {L : DL} {w : World} {r r' : Nat} {vp : Value} {ps : List (Nat × List UInt8)} (h : Pend L w r vp ps) (hr : w.heap.size ≤ r') : Pend L w r' vp ps := by
  obtain ⟨A, c, e, hc, h1⟩ := h
  refine ⟨A, c, e, hc, fun h0 => ?_⟩
  obtain ⟨g, e1, hg, hl, hgr, hj⟩ := h1 h0
  exact ⟨g, e1, hg, hl, by omega, hj⟩
def RCopyR (L : DL) (d : Dv) (vs vp : Value) (fl : Bool) (lf : Int) (w : World) (e : Ending) (w' : World) : Prop := ∃ r', e = .returned (.pointer (some ⟨r', 0, none⟩)) ∧ RD L w' r' d vs vp fl lf ∧ Below w.heap.size w w' ∧ w.heap.size ≤ r'
set_option maxRecDepth 100000 in
theorem rcopy_any (L : DL) (r : Nat) (d : Dv) (vs vp : Value) (fl : Bool) (lf : Int) (w : World) (h : RD L w r d vs vp fl lf) (hL : ∀ k, L.has k → k < w.heap.size) :
    Calls Try.prog 26 #[.pointer (some ⟨r, 0, none⟩)] w (RCopyR L d vs vp fl lf w) := by
  obtain ⟨As, cs, rfl, -, -⟩ := id h.secs
  obtain ⟨Ap, cp, rfl, -, -⟩ := id h.pend
  obtain ⟨c0, c1, c2, c3, c4⟩ := h.row.cells5
  have HH := Lib.hid h
  have HL := Lib.hid hL
  clear h hL
  go_enter Try.func26, Try.ntmps26
  go_wp2_with fail
  go_wp2_with (first | (refine wp_region_lex [] (by kernel_rfl) (by decide +kernel) ?_) | (refine wpLex_nil ?_) | (refine wpLex_pure rfl (fun _ _ => ?_); go_simp; try go_bits) | (refine wpLex_read rfl (fun _ _ => ?_); go_simp; try go_bits) | (refine wpLex_loud rfl (fun _ _ => ?_)))
  go_ret
  have h := HH.out
  have hb : Below w.heap.size w (w.alloc (.cells #[.slice As d.n cs, .slice Ap d.pend.length cp, .bool fl, .int .i64 lf, .bool d.down] 68)).drew := (by repeat (first | with_reducible exact Below.refl _ _ | with_reducible assumption | refine Below.drew ?_ | refine below_drewN ?_ | refine Below.alloc ?_ (by first | omega | (simp; done) | (simp; omega)) _ | refine below_setRow ?_ (by omega) _ | refine Below.setCell ?_ (by first | omega | (simp; done) | (simp; omega)) _))
  refine ⟨w.heap.size, rfl, ⟨(RowIs.new _ _ _).drew, h.fuse, ?_, ?_, fun hk => ?_, h.ok, h.cons⟩, hb, Nat.le_refl _⟩
  · exact (h.secs.mv h.no8 (Mv.below hb)) |> fun q => by
      obtain ⟨A, c, e, hc, h1⟩ := q
      obtain ⟨A', c', e', hc', h1'⟩ := h.secs.other (r' := w.heap.size) (Nat.le_refl _)
      refine ⟨A, c, e, hc, fun h0 => ?_⟩
      obtain ⟨g, e1, hg, hl, hgr, hj⟩ := h1 h0
      obtain ⟨g', e1', hg', hl', hgr', hj'⟩ := h1' h0
      rw [e] at e'
      injection e' with e2
      rw [e1, e1'] at e2
      injection e2 with e2
      injection e2 with e2
      exact ⟨g, e1, hg, hl, by omega, hj⟩
  · exact (h.pend.mv h.no8 (Mv.below hb)) |> fun q => by
      obtain ⟨A, c, e, hc, h1⟩ := q
      obtain ⟨A', c', e', hc', h1'⟩ := h.pend.other (r' := w.heap.size) (Nat.le_refl _)
      refine ⟨A, c, e, hc, fun h0 => ?_⟩
      obtain ⟨g, e1, hg, hl, hgr, hj⟩ := h1 h0
      obtain ⟨g', e1', hg', hl', hgr', hj'⟩ := h1' h0
      rw [e] at e'
      injection e' with e2
      rw [e1, e1'] at e2
      injection e2 with e2
      injection e2 with e2
      exact ⟨g, e1, hg, hl, by omega, hj⟩
  · have := HL.out _ hk; omega
theorem lastP_take (ps : List (Nat × List UInt8)) (k j : Nat) (z : List UInt8) (h : k < ps.length) : lastP (ps.take (k + 1)) j z = if (ps.getD k (0, [])).1 = j then (ps.getD k (0, [])).2 else lastP (ps.take k) j z := by
  rw [List.take_succ_eq_append_getElem h, lastP_app]
  simp [List.getD, h]
def RReadR (L : DL) (d : Dv) (i : Int) (w : World) (e : Ending) (w' : World) : Prop :=
  w' = w ∧ (i < 0 ∨ (d.n : Int) ≤ i → e = .returned (.tuple #[.slice none 0 0, .int .i64 60])) ∧ (0 ≤ i → i < d.n → ∃ v, e = .returned (.tuple #[v, .int .i64 0]) ∧ Side w L v (sect d.seen i.toNat))
set_option maxRecDepth 100000 in
set_option maxHeartbeats 800000 in
theorem rread_any (L : DL) (r : Nat) (d : Dv) (vs vp : Value) (fl : Bool) (lf : Int) (w : World) (h : RD L w r d vs vp fl lf) (i : Int) (hpl : d.pend.length ≤ 1000) :
    Calls Try.prog 38 #[.pointer (some ⟨r, 0, none⟩), .int .i64 i] w (RReadR L d i w) := by
  obtain ⟨As, cs, rfl, -, hsec⟩ := id h.secs
  have c0 := h.row.cells5.1
  by_cases hi : i < 0 ∨ (d.n : Int) ≤ i
  · have fin : RReadR L d i w (.returned (.tuple #[.slice none 0 0, .int .i64 60])) w := ⟨rfl, fun _ => rfl, fun h1 h2 => by omega⟩
    clear h hsec
    by_cases hi0 : i < 0
    · go_enter Try.func38, Try.ntmps38
      go_wp2_with fail
      refine bodyPost_ret (results_tmp2 rfl _ _ _) rfl ?_
      exact fin
    · have hi1 : (d.n : Int) ≤ i := by omega
      go_enter Try.func38, Try.ntmps38
      go_wp2_with fail
      refine bodyPost_ret (results_tmp2 rfl _ _ _) rfl ?_
      exact fin
  · obtain ⟨n, rfl⟩ : ∃ n : Nat, i = n := ⟨i.toNat, by omega⟩
    have i0 : ¬ (n : Int) < 0 := by omega
    have i1 : ¬ (d.n : Int) ≤ n := by omega
    have i2 : (0 : Int) ≤ n := by omega
    have i3 : (n : Int) < d.n := by omega
    obtain ⟨gs, rfl, hgs, hgl, hgr, hsj⟩ := hsec (by omega)
    obtain ⟨vj, s1, s2⟩ := hsj n (by omega)
    obtain ⟨Aj, cj, ej, -⟩ := id s2.bs
    subst ej
    have hcons := h.cons n (by omega)
    obtain ⟨Ap, cp, rfl, -, hpend⟩ := id h.pend
    have c1 := h.row.cells5.2.1
    obtain ⟨N, hN⟩ : ∃ N, d.pend.length = N := ⟨_, rfl⟩
    rw [hN] at c1 hpend hpl
    have HN := Lib.hid hN
    have HC := Lib.hid hcons
    have HS := Lib.hid s2
    clear h hsec hsj hcons hN s2
    have hwr : IntKind.i64.wrap ((N : Int) - 1) = (N : Int) - 1 := by rw [IntKind.wrap_i64]; omega
    go_enter Try.func38, Try.ntmps38
    go_wp2_with fail
    go_loopw [6] (fun x wr => ∃ k : Nat, k ≤ N ∧ x = .int .i64 ((k : Int) - 1) ∧ wr = w ∧ lastP d.pend n (sect d.sure n) = lastP (d.pend.take k) n (sect d.sure n)) (fun x _ => (intOf x + 1).toNat)
    case atStart => exact ⟨N, Nat.le_refl _, rfl, rfl, by rw [List.take_of_length_le (by rw [HN.out]; exact Nat.le_refl _)]⟩
    case round =>
      obtain ⟨k, hk, rfl, rfl, hlast⟩ := hrel
      cases k with
      | zero =>
        have hl0 := Lib.hid hlast
        clear hlast
        rw [show (((0 : Nat) : Int) - 1) = -1 from rfl]
        go_wp2_with fail
        refine bodyPost_ret (results_tmp2 rfl _ _ _) rfl ?_
        refine ⟨rfl, fun h => by omega, fun _ _ => ⟨_, rfl, ?_⟩⟩
        rw [Int.toNat_natCast, HC.out, hl0.out]
        exact HS.out
      | succ k =>
        have hki : (((k + 1 : Nat) : Int) - 1) = k := by omega
        rw [hki]
        obtain ⟨gp, rfl, hgp, hgpl, hgpr, hpk⟩ := hpend (by omega)
        obtain ⟨vk, p1, p2, p3⟩ := hpk k (by omega)
        obtain ⟨Ak, ck, ek, -⟩ := id p3.bs
        subst ek
        have k0 : (0 : Int) ≤ k := by omega
        have k1 : (k : Int) < N := by omega
        have htk := lastP_take d.pend k n (sect d.sure n) (by rw [HN.out]; omega)
        rw [htk] at hlast
        obtain ⟨pi, hpi⟩ : ∃ pi, pi = (d.pend.getD k (0, [])).1 := ⟨_, rfl⟩
        obtain ⟨pF, hpF⟩ : ∃ pF, pF = (d.pend.getD k (0, [])).2 := ⟨_, rfl⟩
        rw [← hpi] at p1 hlast
        rw [← hpF] at p2 p3 hlast
        have HLA := Lib.hid hlast
        have HP3 := Lib.hid p3
        clear hlast htk hpk p3 hki hpi hpF
        by_cases hm : pi = n
        · subst hm
          go_wp2_with fail
          refine bodyPost_ret (results_tmp2 rfl _ _ _) rfl ?_
          refine ⟨rfl, fun h => (h.elim (fun h => by omega) (fun h => by omega)), fun _ _ => ⟨_, rfl, ?_⟩⟩
          have := HLA.out
          simp only [if_true] at this
          rw [Int.toNat_natCast, HC.out, this]
          exact HP3.out
        · have hne : ((pi : Int) == (n : Int)) = false := by simp; omega
          go_wp2_with fail
          refine ⟨⟨k, by omega, rfl, trivial, ?_⟩, by simp [intOf]⟩
          have := HLA.out
          rwa [if_neg hm] at this
end Go.Proofs.Ytbfloejpgjheiaa
