/- Layer 11: whatever is done to a device and to the document's, they answer alike. -/
import Derived.Test.YtbfloejpgjheiaaPly9
namespace Go.Proofs.Ytbfloejpgjheiaa
open Go.RowKit
set_option maxRecDepth 100000 in
set_option maxHeartbeats 3200000 in
theorem plays_runs (n : Nat) (h1 : 1 ≤ n) (h10 : n ≤ 10) (A0 : Option Addr) (c0 : Nat) (xs : List OpV) (hx40 : xs.length ≤ 40) (w : World) (h0 : RdOps w w.heap.size A0 xs) :
    Calls Try.prog 7 #[.int .i64 n, .slice A0 xs.length c0] w (AwakeRes w) := by
  have HO := Lib.hid h0
  obtain ⟨N, hN⟩ : ∃ N, xs.length = N := ⟨_, rfl⟩
  rw [hN] at hx40 ⊢
  have HN := Lib.hid hN
  clear h0 hN
  have i1 : ¬ (10 : Int) < n := by omega
  have i2 : ¬ (40 : Int) < N := by omega
  have NEW1 := Lib.hid (fun w => new_dev n h1 (by omega) w)
  have NEW2 := Lib.hid (fun L w hL => rnew_any L n h1 (by omega) w hL)
  go_enter Try.func7, Try.ntmps7
  go_wp2_with fail
  refine (awake_any w).mono ?_
  rintro e w1 ⟨rfl, hb1⟩
  go_wp2_with fail
  refine (NEW1.out w1).mono ?_
  rintro e w2 ⟨L, rfl, hd, hb2, hL⟩
  go_wp2_with fail
  refine (NEW2.out L w2 (fun k hk => hd.lt hk)).mono ?_
  rintro e w3 ⟨r0, vs, vp, fl, lf, rfl, hR, hb3, hr0⟩
  obtain ⟨g0, hg0⟩ : ∃ g, L.g = g := ⟨_, rfl⟩
  have hS : PlayS w w3 g0 r0 (Dv.new n) := ⟨L, vs, vp, fl, lf, hg0, hd.step hb3, hR, fun k hk => by have := hL k hk; have := hb1.size; omega, by have := hb1.size; have := hb2.size; omega, (hb1.trans (hb2.mono hb1.size)).trans (hb3.mono (by have := hb1.size; have := hb2.size; omega))⟩
  rw [hg0]
  clear hb1 hd hb2 hL hR hb3 hg0 hr0
  go_wp2_with fail
  go_loopw [6, 8, 10] (fun x y i wr => ∃ (k g r : Nat) (d : Dv), k ≤ N ∧ i = .int .i64 k ∧ x = .pointer (some ⟨g, 0, none⟩) ∧ y = .pointer (some ⟨r, 0, none⟩) ∧ d.n = n ∧ d.pend.length ≤ k ∧ PlayS w wr g r d) (fun _ _ i _ => N - (intOf i).toNat)
  case atStart => exact ⟨0, g0, r0, Dv.new n, by omega, rfl, rfl, rfl, rfl, Nat.le_refl _, hS⟩
  case round =>
    clear hS
    obtain ⟨k, g, r, d, hk, rfl, rfl, rfl, hdn, hdp, hS⟩ := hrel
    by_cases hlt : k < N
    · have hk0 : (0 : Int) ≤ k := by omega
      have hk1 : (k : Int) < N := by omega
      have hend : ∀ (g' r' : Nat) (d' : Dv) w', d'.n = n → d'.pend.length ≤ k + 1 → PlayS w w' g' r' d' → (∃ (j g r : Nat) (q : Dv), j ≤ N ∧ Value.int .i64 ((k : Int) + 1) = .int .i64 j ∧ Value.pointer (some ⟨g', 0, none⟩) = .pointer (some ⟨g, 0, none⟩) ∧ Value.pointer (some ⟨r', 0, none⟩) = .pointer (some ⟨r, 0, none⟩) ∧ q.n = n ∧ q.pend.length ≤ j ∧ PlayS w w' g r q) ∧ N - (intOf (Value.int .i64 ((k : Int) + 1))).toNat < N - (intOf (Value.int .i64 k)).toNat :=
        fun g' r' d' w' q1 q2 q3 => ⟨⟨k + 1, g', r', d', by omega, by go_num, rfl, rfl, q1, q2, q3⟩, by simp [intOf]; omega⟩
      have HEND := Lib.hid hend
      have hbel : Below w.heap.size w wr := by obtain ⟨_, _, _, _, _, _, _, _, _, _, h⟩ := hS; exact h
      obtain ⟨og, oo, rfl, hgo, hat⟩ := HO.out (by rw [HN.out]; omega)
      have hx0 := hat k (by rw [HN.out]; exact hlt)
      obtain ⟨x, hxx⟩ : ∃ x, x = xs.getD k op0 := ⟨_, rfl⟩
      rw [← hxx] at hx0
      have HX := Lib.hid hx0
      have hsee : ∀ w', Below w.heap.size w w' → w'.cell? ⟨og, oo + k * 4, none⟩ = some (.int .i64 x.k) ∧ w'.cell? ⟨og, oo + k * 4 + 1, none⟩ = some (.int .i64 x.n) ∧ w'.cell? ⟨og, oo + k * 4 + 2, none⟩ = some (.slice x.bA x.b.length x.bc) ∧ w'.cell? ⟨og, oo + k * 4 + 3, none⟩ = some (.slice x.tA x.t.length x.tc) := fun w' hb => by
        have h := hx0.step hb hgo
        exact ⟨h.k, h.n, h.b, h.t⟩
      have SEE := Lib.hid hsee
      obtain ⟨e1, e2, e3, e4⟩ := hsee wr hbel
      have HDN := Lib.hid hdn
      have hpl : d.pend.length ≤ 1000 := by omega
      clear hat hxx hx0 hend hsee hdn
      by_cases k1 : x.k = 1
      · rw [k1] at e1
        have q1 := Dv.write_pend (d := d) x.n x.b
        have PL := Lib.hid (show (d.write x.n x.b).pend.length ≤ 1000 by have := q1; omega)
        have NN := Lib.hid (show (d.write x.n x.b).n = n by rw [Dv.write_n]; exact HDN.out)
        have PP := Lib.hid (show (d.write x.n x.b).pend.length ≤ k + 1 by have := q1; omega)
        clear k1 q1
        go_wp2_with fail
        go_wp2_with (first | (refine wp_region_lex [] (by kernel_rfl) (by decide +kernel) ?_) | (refine wpLex_nil ?_) | (refine wpLex_pure rfl (fun _ _ => ?_); go_simp; try go_bits) | (refine wpLex_read rfl (fun _ _ => ?_); go_simp; try go_bits) | (refine wpLex_loud rfl (fun _ _ => ?_)))
        refine (play_write1 (hS.step (Below.refl _ _).drew) x.n x.bA x.bc x.b HX.out.bc HX.out.br hpl).mono ?_
        rintro e w2 ⟨rfl, hM⟩
        clear e1 e2 e3 e4 hS
        obtain ⟨e1, e2, e3, e4⟩ := SEE.out w2 hM.bel
        obtain ⟨er, her⟩ : ∃ er, er = d.errW x.n x.b := ⟨_, rfl⟩
        rw [← her]
        have HER := Lib.hid her
        clear her
        go_wp2_with (first | (refine wp_region_lex [] (by kernel_rfl) (by decide +kernel) ?_) | (refine wpLex_nil ?_) | (refine wpLex_pure rfl (fun _ _ => ?_); go_simp; try go_bits) | (refine wpLex_read rfl (fun _ _ => ?_); go_simp; try go_bits) | (refine wpLex_loud rfl (fun _ _ => ?_)))
        refine (play_write2 (hM.step (Below.refl _ _).drew) x.bA x.bc HX.out.bc HX.out.br hpl).mono ?_
        rintro e w3 ⟨rfl, hS2⟩
        rw [← HER.out]
        clear hM e1 e2 e3 e4
        go_wp2_with (first | (refine wp_region_lex [] (by kernel_rfl) (by decide +kernel) ?_) | (refine wpLex_nil ?_) | (refine wpLex_pure rfl (fun _ _ => ?_); go_simp; try go_bits) | (refine wpLex_read rfl (fun _ _ => ?_); go_simp; try go_bits) | (refine wpLex_loud rfl (fun _ _ => ?_)))
        refine (play_same hS2 PL.out).mono ?_
        rintro e w4 ⟨rfl, hS3⟩
        clear hS2
        go_wp2_with fail
        exact HEND.out _ _ _ _ NN.out PP.out hS3
      · have n1 : (x.k == 1) = false := by simpa using k1
        by_cases k2 : x.k = 2
        · rw [k2] at e1
          have q1 := Dv.sync_pend (d := d)
          have PL := Lib.hid (show (d.sync).pend.length ≤ 1000 by have := q1; omega)
          have NN := Lib.hid (show (d.sync).n = n by rw [Dv.sync_n]; exact HDN.out)
          have PP := Lib.hid (show (d.sync).pend.length ≤ k + 1 by have := q1; omega)
          clear k1 n1 k2 q1
          go_wp2_with fail
          refine (play_sync1 hS).mono ?_
          rintro e w2 ⟨rfl, hM⟩
          clear e1 e2 e3 e4 hS
          obtain ⟨er, her⟩ : ∃ er, er = d.errS := ⟨_, rfl⟩
          rw [← her]
          have HER := Lib.hid her
          clear her
          go_wp2_with fail
          refine (play_sync2 hM hpl).mono ?_
          rintro e w3 ⟨rfl, hS2⟩
          rw [← HER.out]
          clear hM
          go_wp2_with fail
          refine (play_same hS2 PL.out).mono ?_
          rintro e w4 ⟨rfl, hS3⟩
          clear hS2
          go_wp2_with fail
          exact HEND.out _ _ _ _ NN.out PP.out hS3
        · have n2 : (x.k == 2) = false := by simpa using k2
          by_cases k3 : x.k = 3
          · rw [k3] at e1
            have q1 : (d.crash x.t).pend.length ≤ d.pend.length := by simp [Dv.crash]
            have PL := Lib.hid (show (d.crash x.t).pend.length ≤ 1000 by have := q1; omega)
            have NN := Lib.hid (show (d.crash x.t).n = n by exact HDN.out)
            have PP := Lib.hid (show (d.crash x.t).pend.length ≤ k + 1 by have := q1; omega)
            clear k1 n1 k2 n2 k3 q1
            go_wp2_with fail
            refine (play_crash1 hS x.tA x.tc x.t HX.out.tc HX.out.tr hpl).mono ?_
            rintro e w2 ⟨rfl, hM⟩
            clear e1 e2 e3 e4 hS
            obtain ⟨e1, e2, e3, e4⟩ := SEE.out w2 hM.bel
            go_wp2_with fail
            refine (play_crash2 hM x.tA x.tc HX.out.tr hpl).mono ?_
            rintro e w3 ⟨rfl, hS2⟩
            clear hM e1 e2 e3 e4
            go_wp2_with fail
            refine (play_same hS2 PL.out).mono ?_
            rintro e w4 ⟨rfl, hS3⟩
            clear hS2
            go_wp2_with fail
            exact HEND.out _ _ _ _ NN.out PP.out hS3
          · have n3 : (x.k == 3) = false := by simpa using k3
            by_cases k4 : x.k = 4
            · rw [k4] at e1
              have PL := Lib.hid (show (d.setFuse x.n).pend.length ≤ 1000 by have := (show (d.setFuse x.n).pend.length ≤ d.pend.length from Nat.le_refl _); omega)
              have NN := Lib.hid (show (d.setFuse x.n).n = n by exact HDN.out)
              have PP := Lib.hid (show (d.setFuse x.n).pend.length ≤ k + 1 by have := (show (d.setFuse x.n).pend.length ≤ d.pend.length from Nat.le_refl _); omega)
              clear k1 n1 k2 n2 k3 n3 k4
              go_wp2_with fail
              refine (play_fuse1 hS x.n HX.out.lo HX.out.hi).mono ?_
              rintro e w2 ⟨rfl, hM⟩
              clear e1 e2 e3 e4 hS
              obtain ⟨e1, e2, e3, e4⟩ := SEE.out w2 hM.bel
              go_wp2_with fail
              refine (play_fuse2 hM HX.out.lo HX.out.hi).mono ?_
              rintro e w3 ⟨rfl, hS2⟩
              clear hM e1 e2 e3 e4
              go_wp2_with fail
              refine (play_same hS2 PL.out).mono ?_
              rintro e w4 ⟨rfl, hS3⟩
              clear hS2
              go_wp2_with fail
              exact HEND.out _ _ _ _ NN.out PP.out hS3
            · have n4 : (x.k == 4) = false := by simpa using k4
              have PL := Lib.hid hpl
              have NN := HDN
              have PP := Lib.hid (show d.pend.length ≤ k + 1 by omega)
              by_cases k5 : x.k = 5
              · rw [k5] at e1
                clear k1 n1 k2 n2 k3 n3 k4 n4 k5
                go_wp2_with fail
                refine (play_copy1 hS hpl).mono ?_
                rintro e w2 ⟨g', rfl, hM⟩
                clear e1 e2 e3 e4 hS
                go_wp2_with fail
                refine (play_copy2 hM).mono ?_
                rintro e w3 ⟨r', rfl, hS2⟩
                clear hM
                go_wp2_with fail
                refine (play_same hS2 PL.out).mono ?_
                rintro e w4 ⟨rfl, hS3⟩
                clear hS2
                go_wp2_with fail
                exact HEND.out _ _ _ _ NN.out PP.out hS3
              · have n5 : (x.k == 5) = false := by simpa using k5
                have hS2 := hS
                clear k1 k2 k3 k4 k5 hS
                go_wp2_with fail
                refine (play_same hS2 PL.out).mono ?_
                rintro e w4 ⟨rfl, hS3⟩
                clear hS2
                go_wp2_with fail
                exact HEND.out _ _ _ _ NN.out PP.out hS3
    · have hk1 : ¬ (k : Int) < N := by omega
      have hbel : Below w.heap.size w wr := by obtain ⟨_, _, _, _, _, _, _, _, _, _, h⟩ := hS; exact h
      clear hS
      go_wp2_with fail
      go_ret
      exact ⟨rfl, hbel⟩
set_option maxRecDepth 100000 in
theorem plays_long (n : Nat) (h1 : 1 ≤ n) (h6 : n ≤ 600) (A0 : Option Addr) (c0 N : Nat) (hl : 10 < n ∨ 40 < N) (w : World) :
    Calls Try.prog 7 #[.int .i64 n, .slice A0 N c0] w (AwakeRes w) := by
  have NEW1 := Lib.hid (fun w => new_dev n h1 h6 w)
  have NEW2 := Lib.hid (fun L w hL => rnew_any L n h1 h6 w hL)
  have hd : (decide ((10 : Int) < n) || decide ((40 : Int) < N)) = true := by simp; omega
  by_cases h10 : 10 < n
  · have i1 : (10 : Int) < n := by omega
    go_enter Try.func7, Try.ntmps7
    go_wp2_with fail
    refine (awake_any w).mono ?_
    rintro e w1 ⟨rfl, hb1⟩
    go_wp2_with fail
    refine (NEW1.out w1).mono ?_
    rintro e w2 ⟨L, rfl, hd, hb2, hL⟩
    go_wp2_with fail
    refine (NEW2.out L w2 (fun k hk => hd.lt hk)).mono ?_
    rintro e w3 ⟨r0, vs, vp, fl, lf, rfl, hR, hb3, hr0⟩
    have hbb := (hb1.trans (hb2.mono hb1.size)).trans (hb3.mono (by have := hb1.size; have := hb2.size; omega))
    clear hR hL hb1 hb2 hb3 hr0
    go_wp2_with fail
    go_ret
    exact ⟨rfl, hbb⟩
  · have i1 : ¬ (10 : Int) < n := by omega
    have i2 : (40 : Int) < N := by omega
    go_enter Try.func7, Try.ntmps7
    go_wp2_with fail
    refine (awake_any w).mono ?_
    rintro e w1 ⟨rfl, hb1⟩
    go_wp2_with fail
    refine (NEW1.out w1).mono ?_
    rintro e w2 ⟨L, rfl, hd, hb2, hL⟩
    go_wp2_with fail
    refine (NEW2.out L w2 (fun k hk => hd.lt hk)).mono ?_
    rintro e w3 ⟨r0, vs, vp, fl, lf, rfl, hR, hb3, hr0⟩
    have hbb := (hb1.trans (hb2.mono hb1.size)).trans (hb3.mono (by have := hb1.size; have := hb2.size; omega))
    clear hR hL hb1 hb2 hb3 hr0
    go_wp2_with fail
    go_ret
    exact ⟨rfl, hbb⟩
set_option maxRecDepth 100000 in
theorem plays_none (n : Int) (h : n < 1 ∨ 600 < n) (A0 : Option Addr) (c0 N : Nat) (w : World) :
    Calls Try.prog 7 #[.int .i64 n, .slice A0 N c0] w (AwakeRes w) := by
  have NEW1 := Lib.hid (fun w => new_err n h w)
  have NEW2 := Lib.hid (fun w => rnew_err n h w)
  clear h
  go_enter Try.func7, Try.ntmps7
  go_wp2_with fail
  refine (awake_any w).mono ?_
  rintro e w1 ⟨rfl, hb1⟩
  go_wp2_with fail
  refine (NEW1.out w1).mono ?_
  rintro e w2 ⟨rfl, rfl⟩
  go_wp2_with fail
  refine (NEW2.out w1).mono ?_
  rintro e w3 ⟨rfl, rfl⟩
  go_wp2_with fail
  go_ret
  exact ⟨rfl, hb1⟩
theorem walk_DevicePlays (n : Int) (A0 : Option Addr) (c0 : Nat) (xs : List OpV) (w : World) (_lo : -9223372036854775808 ≤ n) (_hi : n ≤ 9223372036854775807) (h0 : RdOps w w.heap.size A0 xs) :
    Calls Try.prog 7 #[.int .i64 n, .slice A0 xs.length c0] w (AwakeRes w) := by
  by_cases hn : n < 1 ∨ 600 < n
  · exact plays_none n hn A0 c0 _ w
  · obtain ⟨m, rfl⟩ : ∃ m : Nat, n = m := ⟨n.toNat, by omega⟩
    by_cases hl : 10 < m ∨ 40 < xs.length
    · exact plays_long m (by omega) (by omega) A0 c0 _ hl w
    · exact plays_runs m (by omega) (by omega) A0 c0 xs (by omega) w h0
end Go.Proofs.Ytbfloejpgjheiaa
