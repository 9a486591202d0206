/- CodecWrites: what is written, as an argument; the walk of the statement's function. Printed by gen_cwr.py. -/
import Derived.Test.YtifnpphkplogaaaCRd
namespace Go.Proofs.Ytifnpphkplogaaa
open Go.RowKit
structure PtP where
  d : Int
  size : Int
  n : UInt64
  b : List UInt8
  l : BLs
@[irreducible] def nthP (xs : List PtP) (i : Nat) : PtP := xs.getD i ⟨0, 0, 0, [], []⟩
theorem nthP_def (xs : List PtP) (i : Nat) : nthP xs i = xs.getD i ⟨0, 0, 0, [], []⟩ := by unfold nthP; rfl
structure PtRaw (w : World) (g o : Nat) (x : PtP) (Ab : Option Addr) (cb : Nat) (Al : Option Addr) (cl : Nat) : Prop where
  c0 : w.cell? ⟨g, o, none⟩ = some (.int .i64 x.d)
  c1 : w.cell? ⟨g, o + 1, none⟩ = some (.int .i64 x.size)
  c2 : w.cell? ⟨g, o + 2, none⟩ = some (.int .u64 (n64 x.n))
  c3 : w.cell? ⟨g, o + 3, none⟩ = some (.slice Ab x.b.length cb)
  c4 : w.cell? ⟨g, o + 4, none⟩ = some (.slice Al x.l.length cl)
  bc : x.b.length ≤ cb
  b : Rd8 w w.heap.size Ab x.b
  l : KsL w (.slice Al x.l.length cl) x.l
  k : ∀ y ∈ x.l, y.length = 32
theorem PtRaw.step {w w' : World} {g o : Nat} {x : PtP} {Ab Al : Option Addr} {cb cl : Nat} (h : PtRaw w g o x Ab cb Al cl) (hg : g < w.heap.size) (hb : Below w.heap.size w w') : PtRaw w' g o x Ab cb Al cl :=
  ⟨(hb.cell (p := ⟨g, o, none⟩) hg).trans h.c0, (hb.cell (p := ⟨g, o + 1, none⟩) hg).trans h.c1, (hb.cell (p := ⟨g, o + 2, none⟩) hg).trans h.c2, (hb.cell (p := ⟨g, o + 3, none⟩) hg).trans h.c3, (hb.cell (p := ⟨g, o + 4, none⟩) hg).trans h.c4, h.bc, h.b.step hb, h.l.step hb, h.k⟩
def PutsL (w : World) (v : Value) (xs : List PtP) : Prop := ∃ A c, v = .slice A xs.length c ∧ xs.length ≤ c ∧ (0 < xs.length → ∃ g o, A = some ⟨g, o, none⟩ ∧ g < w.heap.size ∧ ∀ i, i < xs.length → ∃ Ab cb Al cl, PtRaw w g (o + i * 5) (nthP xs i) Ab cb Al cl)
theorem putP_done {o : OutP} (hz : (doneP o).2 ≠ 0) (wr : Bool) (e : Int) (x : List UInt8) : (doneP (putP o wr e x)).2 = (doneP o).2 := by
  have h : o.e ≠ 0 := by
    unfold doneP at hz
    split at hz
    · exact absurd rfl hz
    · exact hz
  rw [putP_err h]
theorem stay_num {o : OutP} {n : UInt64} {k : Int} (hz : (doneP o).2 ≠ 0) : (doneP (onumP o n k)).2 = (doneP o).2 := putP_done hz _ _ _
theorem stay_bytes {o : OutP} {x : List UInt8} (hz : (doneP o).2 ≠ 0) : (doneP (obytesP o x)).2 = (doneP o).2 := putP_done hz _ _ _
theorem stay_keys {o : OutP} {x : BLs} (hz : (doneP o).2 ≠ 0) : (doneP (okeysP o x)).2 = (doneP o).2 := putP_done hz _ _ _
theorem putP_len (o : OutP) (wr : Bool) (e : Int) (x : List UInt8) : (putP o wr e x).b.length ≤ o.b.length + x.length := by
  unfold putP
  split
  · split <;> simp
  · omega
set_option maxRecDepth 100000 in
set_option maxHeartbeats 6400000 in
theorem walk_CodecWrites (v : Value) (xs : List PtP) (w : World) (h : PutsL w v xs) :
    Calls Try.prog 7 #[v] w (TrueRes' w) := by
  obtain ⟨A, c, rfl, hc, hel⟩ := h
  by_cases h20 : 20 < xs.length
  · have i1 : (20 : Int) < xs.length := by omega
    clear hel
    go_enter Try.func7, Try.ntmps7
    go_wp2_with fail
    refine (awake9_any _).mono ?_
    rintro e w1 ⟨rfl, b1⟩
    go_wp2_with fail
    go_ret
    exact ⟨rfl, b1⟩
  obtain ⟨n, hN⟩ : ∃ n, n = xs.length := ⟨_, rfl⟩
  have HN := Lib.hid hN
  rw [← hN] at hc h20 ⊢
  have HEL := Lib.hid hel
  have i1 : ¬ (20 : Int) < n := by omega
  clear hel hN
  go_enter Try.func7, Try.ntmps7
  go_wp2_with fail
  refine (awake9_any _).mono ?_
  rintro e w1 ⟨rfl, b1⟩
  have hz1 := b1.size
  obtain ⟨g, hg⟩ : ∃ g, g = w1.heap.size := ⟨_, rfl⟩
  obtain ⟨g2, hg2⟩ : ∃ g2, g2 = w1.heap.size + 1 := ⟨_, rfl⟩
  have hq : Below w1.heap.size w1 ((w1.alloc (.cells #[.slice none 0 0, .int .i64 0] 49)).alloc (.cells #[.slice none 0 0, .int .i64 0] 52)) := (by repeat (first | with_reducible exact Below.refl _ _ | with_reducible assumption | refine Below.drew ?_ | refine below_drewN ?_ | refine Below.alloc ?_ (by first | omega | (simp; done) | (simp; omega)) _ | refine below_setRow ?_ (by omega) _ | refine Below.setCell ?_ (by first | omega | (simp; done) | (simp; omega)) _))
  have ho0 : OutIs ((w1.alloc (.cells #[.slice none 0 0, .int .i64 0] 49)).alloc (.cells #[.slice none 0 0, .int .i64 0] 52)) g ⟨[], 0⟩ := ⟨_, (RowIs.new' hg).alloc _, Bs.nil _⟩
  have hr0 : OutIs ((w1.alloc (.cells #[.slice none 0 0, .int .i64 0] 49)).alloc (.cells #[.slice none 0 0, .int .i64 0] 52)) g2 ⟨[], 0⟩ := ⟨_, RowIs.new' (by rw [hg2]; simp), Bs.nil _⟩
  have hbw := b1.trans (hq.mono b1.size)
  have hne : g ≠ g2 := by omega
  have hgw : w.heap.size ≤ g := by omega
  have hg2w : w.heap.size ≤ g2 := by omega
  have HG := Lib.hid hg; have HG2 := Lib.hid hg2
  clear hg hg2
  go_wp2_with fail
  rw [← HG2.out, ← HG.out]
  go_loopw [6, 7] (fun bd i wr => ∃ (k : Nat) (O : OutP) (bad : Int), k ≤ n ∧ i = .int .i64 k ∧ bd = .int .i64 bad ∧ bad = (doneP O).2 ∧ O.b.length ≤ 5010 * k ∧ OutIs wr g O ∧ OutIs wr g2 O ∧ Below w.heap.size w wr) (fun _ i _ => n - (intOf i).toNat)
  case atStart => exact ⟨0, ⟨[], 0⟩, 0, Nat.zero_le _, rfl, rfl, rfl, by simp, ho0, hr0, hbw⟩
  case round =>
    clear ho0 hr0 hbw hq
    obtain ⟨k, O, bad, hk, rfl, rfl, hbad, hOl, ho, hr, hb⟩ := hrel
    by_cases hlt : k < n
    · have hlt' : k < xs.length := by rw [← HN.out]; exact hlt
      obtain ⟨ga, oa, rfl, hga, hit⟩ := HEL.out (by omega)
      obtain ⟨Ab, cb, Al, cl, it⟩ := hit k hlt'
      have it2 := it.step hga hb
      obtain ⟨q0, q1, q2, q3, q4, qc, qb, ql, qk⟩ := it2
      obtain ⟨x, hx⟩ : ∃ x, x = nthP xs k := ⟨_, rfl⟩
      rw [← hx] at q0 q1 q2 q3 q4 qc qb ql qk
      have hk0 : (0 : Int) ≤ (k : Int) := by omega
      have hk1 : (k : Int) < (n : Int) := by omega
      have hO2 : O.b.length ≤ 150000 := by omega
      clear it hit hx
      by_cases h5 : 5000 < x.b.length
      · have j1 : (5000 : Int) < x.b.length := by omega
        go_wp2_with fail
        go_ret
        exact ⟨rfl, hb⟩
      have j1 : ¬ (5000 : Int) < x.b.length := by omega
      by_cases h12 : 120 < x.l.length
      · have j2 : (120 : Int) < x.l.length := by omega
        go_wp2_with fail
        go_ret
        exact ⟨rfl, hb⟩
      have j2 : ¬ (120 : Int) < x.l.length := by omega
      have hxb : Bs wr (.slice Ab x.b.length cb) x.b := Bs.of qc (by omega) qb
      by_cases d1 : x.d = 1
      · rw [d1] at q0
        clear d1
        have HL : Hid ((onumP O x.n x.size).b.length ≤ 5010 * k + 5010) := Lib.hid (by have := putP_len O (!(sizeOk x.size && fitsN x.n x.size)) 51 (highX x.n x.size); have := highX_length x.n x.size; unfold onumP; omega)
        have hBAD0 : bad ≠ 0 → (doneP (onumP O x.n x.size)).2 = bad := fun hz => by rw [hbad] at hz ⊢; exact stay_num hz
        obtain ⟨O', hO'⟩ : ∃ O', O' = onumP O x.n x.size := ⟨_, rfl⟩
        have HO' := Lib.hid hO'
        rw [← hO'] at hBAD0
        have HBAD := Lib.hid hBAD0
        clear hBAD0 hbad
        have hdr : ∀ W : World, Below W.heap.size W W.drew := fun W => (by repeat (first | with_reducible exact Below.refl _ _ | with_reducible assumption | refine Below.drew ?_ | refine below_drewN ?_ | refine Below.alloc ?_ (by first | omega | (simp; done) | (simp; omega)) _ | refine below_setRow ?_ (by omega) _ | refine Below.setCell ?_ (by first | omega | (simp; done) | (simp; omega)) _))
        rw [← hO'] at HL
        have C1 := Lib.hid (fun (W : World) h => outnum_any g O x.n x.size W h (by omega))
        have C2 := Lib.hid (fun (W : World) h => refoutnum_any g2 O x.n x.size W h (by omega))
        rw [← hO'] at C1 C2
        clear hO'
        go_wp2_with (first | (refine wp_region_lex [] (by kernel_rfl) (by decide +kernel) ?_) | (refine wpLex_nil ?_) | (refine wpLex_pure rfl (fun _ _ => ?_); go_simp; try go_bits) | (refine wpLex_read rfl (fun _ _ => ?_); go_simp; try go_bits) | (refine wpLex_loud rfl (fun _ _ => ?_)))
        refine (C1.out _ (ho.step (hdr _))).mono ?_
        rintro e w3 ⟨rfl, ho3, hu3⟩
        have hr3 := (hr.step (hdr _)).upd hu3 (ho.step (hdr _)).no8 hne.symm
        have hb3 := hu3.below (hb.drew) hgw (Nat.le_trans hb.size (hdr _).size)
        have p1 := (hb3.cell (p := ⟨ga, oa + k * 5 + 1, none⟩) hga).trans (((hb.drew).cell (p := ⟨ga, oa + k * 5 + 1, none⟩) hga).symm.trans q1)
        have p2 := (hb3.cell (p := ⟨ga, oa + k * 5 + 2, none⟩) hga).trans (((hb.drew).cell (p := ⟨ga, oa + k * 5 + 2, none⟩) hga).symm.trans q2)
        clear q0 q1 q2 q3 q4
        go_wp2_with (first | (refine wp_region_lex [] (by kernel_rfl) (by decide +kernel) ?_) | (refine wpLex_nil ?_) | (refine wpLex_pure rfl (fun _ _ => ?_); go_simp; try go_bits) | (refine wpLex_read rfl (fun _ _ => ?_); go_simp; try go_bits) | (refine wpLex_loud rfl (fun _ _ => ?_)))
        refine (C2.out _ (hr3.step (hdr _))).mono ?_
        rintro e w4 ⟨rfl, hr5, hu4⟩
        have ho5 := (ho3.step (hdr _)).upd hu4 (hr3.step (hdr _)).no8 hne
        have hb5 := hu4.below (hb3.drew) hg2w (Nat.le_trans hb3.size (hdr _).size)
        clear p1 p2 C1 C2
        go_wp2_with (first | (refine wp_region_lex [] (by kernel_rfl) (by decide +kernel) ?_) | (refine wpLex_nil ?_) | (refine wpLex_pure rfl (fun _ _ => ?_); go_simp; try go_bits) | (refine wpLex_read rfl (fun _ _ => ?_); go_simp; try go_bits) | (refine wpLex_loud rfl (fun _ _ => ?_)))
        have hl5 : O'.b.length ≤ 5010 * (k + 1) := by have := HL.out; omega
        have hl55 : O'.b.length ≤ 200000 := by omega
        clear HL HO'
        refine (outdone_any g O' _ ho5 (by omega)).mono ?_
        rintro e w6 ⟨u6, rfl, hu6, b6⟩
        replace hr5 := hr5.step b6
        replace ho5 := ho5.step b6
        replace hb5 := hb5.trans (b6.mono hb5.size)
        go_wp2_with fail
        refine (refoutdone_any g2 O' _ hr5).mono ?_
        rintro e w7 ⟨u7, rfl, hu7, b7⟩
        replace hr5 := hr5.step b7
        replace ho5 := ho5.step b7
        replace hb5 := hb5.trans (b7.mono hb5.size)
        replace hu6 := hu6.step b7
        obtain ⟨E, hE⟩ : ∃ E, E = (doneP O').2 := ⟨_, rfl⟩
        have hBAD := HBAD.out
        rw [← hE] at hBAD ⊢
        have hEE := bne_self_int E
        have HEX := Lib.hid hE
        clear hE
        by_cases hz : bad = 0
        · have z1 : ((bad : Int) != 0) = false := by rw [hz]; rfl
          clear hz hBAD
          go_wp2_with fail
          refine (refSame_bs hu6 hu7).mono ?_
          rintro e w8 ⟨rfl, b8⟩
          rw [decide_eq_true rfl]
          replace hr5 := hr5.step b8
          replace ho5 := ho5.step b8
          replace hb5 := hb5.trans (b8.mono hb5.size)
          go_wp2_with fail
          exact ⟨⟨k + 1, O', E, by omega, by go_num, rfl, HEX.out, hl5, ho5, hr5, hb5⟩, by simp [intOf]; omega⟩
        · have z1 : ((bad : Int) != 0) = true := by simpa using hz
          have z2 : ((E : Int) != bad) = false := by rw [hBAD hz]; simp
          clear hz hBAD
          go_wp2_with fail
          refine (refSame_bs hu6 hu7).mono ?_
          rintro e w8 ⟨rfl, b8⟩
          rw [decide_eq_true rfl]
          replace hr5 := hr5.step b8
          replace ho5 := ho5.step b8
          replace hb5 := hb5.trans (b8.mono hb5.size)
          go_wp2_with fail
          exact ⟨⟨k + 1, O', E, by omega, by go_num, rfl, HEX.out, hl5, ho5, hr5, hb5⟩, by simp [intOf]; omega⟩
      · have f1 : (x.d == (1 : Int)) = false := by simpa using d1
        by_cases d2 : x.d = 2
        · rw [d2] at q0 f1
          clear d2 d1
          have HL : Hid ((obytesP O x.b).b.length ≤ 5010 * k + 5010) := Lib.hid (by have := putP_len O (decide (4000 < x.b.length)) 2 (highX (UInt64.ofNat x.b.length) 2 ++ x.b); rw [List.length_append, len2] at this; unfold obytesP; omega)
          have hBAD0 : bad ≠ 0 → (doneP (obytesP O x.b)).2 = bad := fun hz => by rw [hbad] at hz ⊢; exact stay_bytes hz
          obtain ⟨O', hO'⟩ : ∃ O', O' = obytesP O x.b := ⟨_, rfl⟩
          have HO' := Lib.hid hO'
          rw [← hO'] at hBAD0
          have HBAD := Lib.hid hBAD0
          clear hBAD0 hbad
          rw [← hO'] at HL
          have C1 := Lib.hid (fun (W : World) h hv => outbytes_any g O (.slice Ab x.b.length cb) x.b W h hv (by omega))
          have C2 := Lib.hid (fun (W : World) h hv => refoutbytes_any g2 O (.slice Ab x.b.length cb) x.b W h hv (by omega))
          rw [← hO'] at C1 C2
          clear hO'
          go_wp2_with fail
          refine (C1.out _ ho hxb).mono ?_
          rintro e w3 ⟨rfl, ho3, hu3⟩
          have hr3 := hr.upd hu3 ho.no8 hne.symm
          have hx3 := hxb.upd hu3 ho.no8
          have hb3 := hu3.below hb hgw hb.size
          have p3 := (hb3.cell (p := ⟨ga, oa + k * 5 + 3, none⟩) hga).trans ((hb.cell (p := ⟨ga, oa + k * 5 + 3, none⟩) hga).symm.trans q3)
          clear q0 q1 q2 q3 q4
          go_wp2_with fail
          refine (C2.out _ hr3 hx3).mono ?_
          rintro e w4 ⟨rfl, hr5, hu4⟩
          have ho5 := ho3.upd hu4 hr3.no8 hne
          have hb5 := hu4.below hb3 hg2w hb3.size
          clear p3 C1 C2
          have hl5 : O'.b.length ≤ 5010 * (k + 1) := by have := HL.out; omega
          have hl55 : O'.b.length ≤ 200000 := by omega
          clear HL HO'
          go_wp2_with fail
          refine (outdone_any g O' _ ho5 (by omega)).mono ?_
          rintro e w6 ⟨u6, rfl, hu6, b6⟩
          replace hr5 := hr5.step b6
          replace ho5 := ho5.step b6
          replace hb5 := hb5.trans (b6.mono hb5.size)
          go_wp2_with fail
          refine (refoutdone_any g2 O' _ hr5).mono ?_
          rintro e w7 ⟨u7, rfl, hu7, b7⟩
          replace hr5 := hr5.step b7
          replace ho5 := ho5.step b7
          replace hb5 := hb5.trans (b7.mono hb5.size)
          replace hu6 := hu6.step b7
          obtain ⟨E, hE⟩ : ∃ E, E = (doneP O').2 := ⟨_, rfl⟩
          have hBAD := HBAD.out
          rw [← hE] at hBAD ⊢
          have hEE := bne_self_int E
          have HEX := Lib.hid hE
          clear hE
          by_cases hz : bad = 0
          · have z1 : ((bad : Int) != 0) = false := by rw [hz]; rfl
            clear hz hBAD
            go_wp2_with fail
            refine (refSame_bs hu6 hu7).mono ?_
            rintro e w8 ⟨rfl, b8⟩
            rw [decide_eq_true rfl]
            replace hr5 := hr5.step b8
            replace ho5 := ho5.step b8
            replace hb5 := hb5.trans (b8.mono hb5.size)
            go_wp2_with fail
            exact ⟨⟨k + 1, O', E, by omega, by go_num, rfl, HEX.out, hl5, ho5, hr5, hb5⟩, by simp [intOf]; omega⟩
          · have z1 : ((bad : Int) != 0) = true := by simpa using hz
            have z2 : ((E : Int) != bad) = false := by rw [hBAD hz]; simp
            clear hz hBAD
            go_wp2_with fail
            refine (refSame_bs hu6 hu7).mono ?_
            rintro e w8 ⟨rfl, b8⟩
            rw [decide_eq_true rfl]
            replace hr5 := hr5.step b8
            replace ho5 := ho5.step b8
            replace hb5 := hb5.trans (b8.mono hb5.size)
            go_wp2_with fail
            exact ⟨⟨k + 1, O', E, by omega, by go_num, rfl, HEX.out, hl5, ho5, hr5, hb5⟩, by simp [intOf]; omega⟩
        · have f2 : (x.d == (2 : Int)) = false := by simpa using d2
          by_cases d3 : x.d = 3
          · rw [d3] at q0 f1 f2
            clear d3 d1 d2
            have HL : Hid ((okeysP O x.l).b.length ≤ 5010 * k + 5010) := Lib.hid (by have := putP_len O (decide (100 < x.l.length)) 2 (highX (UInt64.ofNat x.l.length) 2 ++ x.l.flatten); rw [List.length_append, len2, flat32 x.l qk] at this; unfold okeysP; omega)
            have hBAD0 : bad ≠ 0 → (doneP (okeysP O x.l)).2 = bad := fun hz => by rw [hbad] at hz ⊢; exact stay_keys hz
            obtain ⟨O', hO'⟩ : ∃ O', O' = okeysP O x.l := ⟨_, rfl⟩
            have HO' := Lib.hid hO'
            rw [← hO'] at hBAD0
            have HBAD := Lib.hid hBAD0
            clear hBAD0 hbad
            rw [← hO'] at HL
            have C1 := Lib.hid (fun (W : World) h hv => outkeys_any g O (.slice Al x.l.length cl) x.l W h hv qk (by omega) (by omega))
            have C2 := Lib.hid (fun (W : World) h hv => refoutkeys_any g2 O (.slice Al x.l.length cl) x.l W h hv qk (by omega) (by omega))
            rw [← hO'] at C1 C2
            clear hO'
            go_wp2_with fail
            refine (C1.out _ ho ql).mono ?_
            rintro e w3 ⟨rfl, ho3, hu3⟩
            have hr3 := hr.upd hu3 ho.no8 hne.symm
            have hx3 := ql.upd qk hu3 ho.no8
            have hb3 := hu3.below hb hgw hb.size
            have p3 := (hb3.cell (p := ⟨ga, oa + k * 5 + 4, none⟩) hga).trans ((hb.cell (p := ⟨ga, oa + k * 5 + 4, none⟩) hga).symm.trans q4)
            clear q0 q1 q2 q3 q4
            go_wp2_with fail
            refine (C2.out _ hr3 hx3).mono ?_
            rintro e w4 ⟨rfl, hr5, hu4⟩
            have ho5 := ho3.upd hu4 hr3.no8 hne
            have hb5 := hu4.below hb3 hg2w hb3.size
            clear p3 C1 C2
            have hl5 : O'.b.length ≤ 5010 * (k + 1) := by have := HL.out; omega
            have hl55 : O'.b.length ≤ 200000 := by omega
            clear HL HO'
            go_wp2_with fail
            refine (outdone_any g O' _ ho5 (by omega)).mono ?_
            rintro e w6 ⟨u6, rfl, hu6, b6⟩
            replace hr5 := hr5.step b6
            replace ho5 := ho5.step b6
            replace hb5 := hb5.trans (b6.mono hb5.size)
            go_wp2_with fail
            refine (refoutdone_any g2 O' _ hr5).mono ?_
            rintro e w7 ⟨u7, rfl, hu7, b7⟩
            replace hr5 := hr5.step b7
            replace ho5 := ho5.step b7
            replace hb5 := hb5.trans (b7.mono hb5.size)
            replace hu6 := hu6.step b7
            obtain ⟨E, hE⟩ : ∃ E, E = (doneP O').2 := ⟨_, rfl⟩
            have hBAD := HBAD.out
            rw [← hE] at hBAD ⊢
            have hEE := bne_self_int E
            have HEX := Lib.hid hE
            clear hE
            by_cases hz : bad = 0
            · have z1 : ((bad : Int) != 0) = false := by rw [hz]; rfl
              clear hz hBAD
              go_wp2_with fail
              refine (refSame_bs hu6 hu7).mono ?_
              rintro e w8 ⟨rfl, b8⟩
              rw [decide_eq_true rfl]
              replace hr5 := hr5.step b8
              replace ho5 := ho5.step b8
              replace hb5 := hb5.trans (b8.mono hb5.size)
              go_wp2_with fail
              exact ⟨⟨k + 1, O', E, by omega, by go_num, rfl, HEX.out, hl5, ho5, hr5, hb5⟩, by simp [intOf]; omega⟩
            · have z1 : ((bad : Int) != 0) = true := by simpa using hz
              have z2 : ((E : Int) != bad) = false := by rw [hBAD hz]; simp
              clear hz hBAD
              go_wp2_with fail
              refine (refSame_bs hu6 hu7).mono ?_
              rintro e w8 ⟨rfl, b8⟩
              rw [decide_eq_true rfl]
              replace hr5 := hr5.step b8
              replace ho5 := ho5.step b8
              replace hb5 := hb5.trans (b8.mono hb5.size)
              go_wp2_with fail
              exact ⟨⟨k + 1, O', E, by omega, by go_num, rfl, HEX.out, hl5, ho5, hr5, hb5⟩, by simp [intOf]; omega⟩
          · have f3 : (x.d == (3 : Int)) = false := by simpa using d3
            clear d1 d2 d3
            have hBAD0 : bad ≠ 0 → (doneP O).2 = bad := fun _ => hbad.symm
            obtain ⟨O', hO'⟩ : ∃ O', O' = O := ⟨_, rfl⟩
            have HO' := Lib.hid hO'
            rw [← hO'] at hBAD0
            have HBAD := Lib.hid hBAD0
            clear hBAD0 hbad
            have HL : Hid (O.b.length ≤ 5010 * k + 5010) := Lib.hid (by omega)
            have ho5 := ho
            have hr5 := hr
            have hb5 := hb
            rw [← hO'] at ho5 hr5 HL
            clear hO'
            have hl5 : O'.b.length ≤ 5010 * (k + 1) := by have := HL.out; omega
            have hl55 : O'.b.length ≤ 200000 := by omega
            clear HL HO'
            go_wp2_with fail
            refine (outdone_any g O' _ ho5 (by omega)).mono ?_
            rintro e w6 ⟨u6, rfl, hu6, b6⟩
            replace hr5 := hr5.step b6
            replace ho5 := ho5.step b6
            replace hb5 := hb5.trans (b6.mono hb5.size)
            go_wp2_with fail
            refine (refoutdone_any g2 O' _ hr5).mono ?_
            rintro e w7 ⟨u7, rfl, hu7, b7⟩
            replace hr5 := hr5.step b7
            replace ho5 := ho5.step b7
            replace hb5 := hb5.trans (b7.mono hb5.size)
            replace hu6 := hu6.step b7
            obtain ⟨E, hE⟩ : ∃ E, E = (doneP O').2 := ⟨_, rfl⟩
            have hBAD := HBAD.out
            rw [← hE] at hBAD ⊢
            have hEE := bne_self_int E
            have HEX := Lib.hid hE
            clear hE
            by_cases hz : bad = 0
            · have z1 : ((bad : Int) != 0) = false := by rw [hz]; rfl
              clear hz hBAD
              go_wp2_with fail
              refine (refSame_bs hu6 hu7).mono ?_
              rintro e w8 ⟨rfl, b8⟩
              rw [decide_eq_true rfl]
              replace hr5 := hr5.step b8
              replace ho5 := ho5.step b8
              replace hb5 := hb5.trans (b8.mono hb5.size)
              go_wp2_with fail
              exact ⟨⟨k + 1, O', E, by omega, by go_num, rfl, HEX.out, hl5, ho5, hr5, hb5⟩, by simp [intOf]; omega⟩
            · have z1 : ((bad : Int) != 0) = true := by simpa using hz
              have z2 : ((E : Int) != bad) = false := by rw [hBAD hz]; simp
              clear hz hBAD
              go_wp2_with fail
              refine (refSame_bs hu6 hu7).mono ?_
              rintro e w8 ⟨rfl, b8⟩
              rw [decide_eq_true rfl]
              replace hr5 := hr5.step b8
              replace ho5 := ho5.step b8
              replace hb5 := hb5.trans (b8.mono hb5.size)
              go_wp2_with fail
              exact ⟨⟨k + 1, O', E, by omega, by go_num, rfl, HEX.out, hl5, ho5, hr5, hb5⟩, by simp [intOf]; omega⟩
    · have e : k = n := by omega
      subst e
      go_wp2_with fail
      go_ret
      exact ⟨rfl, hb⟩
end Go.Proofs.Ytifnpphkplogaaa
