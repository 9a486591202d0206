/- Layer 11: a device that is to go down does all that it was told till then. -/
import Derived.Test.YtbfloejpgjheiaaDev10
namespace Go.Proofs.Ytbfloejpgjheiaa
open Go.RowKit
/-- what is held of the device while the law's own count runs -/
def Fz (d : Dv) (f : Int) : Prop := d.fuse = f ∧ 0 ≤ f ∧ (d.down = true → f = 0)
theorem Fz.new (f : Int) (h : 0 ≤ f) : Fz ((Dv.new 8).setFuse f) f := ⟨rfl, h, fun h => by
  have e : ((Dv.new 8).setFuse f).down = false := rfl
  rw [e] at h; cases h⟩
theorem Fz.of {d d' : Dv} {f : Int} (h : Fz d f) (h1 : d'.fuse = d.fuse) (h2 : d'.down = d.down) : Fz d' f := ⟨h1.trans h.1, h.2.1, fun h3 => h.2.2 (by rw [← h2]; exact h3)⟩
theorem Fz.tick {d : Dv} {f : Int} (h : Fz d f) : Fz d.tick (max (f - 1) 0) ∧ (d.tick.down = true ↔ f = 0) := by
  obtain ⟨h1, h2, h3⟩ := h
  unfold Dv.tick Fz
  simp only [h1]
  refine ⟨⟨?_, by omega, ?_⟩, ?_⟩
  · split <;> omega
  · split
    · intro _; omega
    · intro h; have := h3 h; omega
  · split
    · simp_all
    · constructor
      · intro h; exact h3 h
      · intro h; contradiction
set_option maxRecDepth 100000 in
set_option maxHeartbeats 1600000 in
theorem walk_DeviceFused (A0 : Option Addr) (c0 : Nat) (xs : List OpV) (f0 : Int) (w : World) (h0 : RdOps w w.heap.size A0 xs) (lo : -9223372036854775808 ≤ f0) (hi : f0 ≤ 9223372036854775807) :
    Calls Try.prog 5 #[.slice A0 xs.length c0, .int .i64 f0] w (AwakeRes w) := by
  have HO := Lib.hid h0
  have LO := Lib.hid lo
  have HI := Lib.hid hi
  obtain ⟨n, hn⟩ : ∃ n, xs.length = n := ⟨_, rfl⟩
  rw [hn]
  have HN := Lib.hid hn
  clear h0 hn
  have enter : ∀ {P : Prop}, P → P := id
  by_cases hneg : f0 < 0
  · go_enter Try.func5, Try.ntmps5
    go_wp2_with fail
    refine (awake_any w).mono ?_
    rintro e w1 ⟨rfl, hb1⟩
    go_wp2_with fail
    refine (new_dev 8 (by omega) (by omega) w1).mono ?_
    rintro e w2 ⟨L, rfl, hd, hb, hL⟩
    replace hb1 := hb1.trans (hb.mono hb1.size)
    clear hb
    go_wp2_with fail
    go_ret
    exact ⟨rfl, hb1⟩
  · by_cases hlong : 40 < n
    · have hlong' : (40 : Int) < n := by omega
      go_enter Try.func5, Try.ntmps5
      go_wp2_with fail
      refine (awake_any w).mono ?_
      rintro e w1 ⟨rfl, hb1⟩
      go_wp2_with fail
      refine (new_dev 8 (by omega) (by omega) w1).mono ?_
      rintro e w2 ⟨L, rfl, hd, hb, hL⟩
      replace hb1 := hb1.trans (hb.mono hb1.size)
      clear hb
      go_wp2_with fail
      go_ret
      exact ⟨rfl, hb1⟩
    · have hshort : ¬ (40 : Int) < n := by omega
      go_enter Try.func5, Try.ntmps5
      go_wp2_with fail
      refine (awake_any w).mono ?_
      rintro e w1 ⟨rfl, hb1⟩
      go_wp2_with fail
      refine (new_dev 8 (by omega) (by omega) w1).mono ?_
      rintro e w2 ⟨L, rfl, hd, hb, hL⟩
      obtain ⟨g, hg⟩ : ∃ g, L.g = g := ⟨_, rfl⟩
      have hH : Held w w2 g (Dv.new 8) [] := Held.new hb1 hd hb hL hg
      rw [hg]
      clear hb1 hd hb hL hg
      go_wp2_with fail
      refine (held_fuse hH f0 lo hi).mono ?_
      rintro e w3 ⟨rfl, hH3⟩
      clear hH
      go_wp2_with fail
      go_loopw [1, 8] (fun f i wr => ∃ (k : Nat) (z : Int) (d : Dv), k ≤ n ∧ i = .int .i64 k ∧ f = .int .i64 z ∧ z ≤ f0 ∧ Fz d z ∧ d.n = 8 ∧ d.pend.length ≤ k ∧ Held w wr g d []) (fun _ i _ => n - (intOf i).toNat)
      case atStart => exact ⟨0, f0, _, by omega, rfl, rfl, by omega, Fz.new f0 (by omega), rfl, Nat.le_refl _, hH3⟩
      case round =>
        clear hH3
        obtain ⟨k, z, d, hk, rfl, rfl, hzf, hF, hd8, hdp, hH⟩ := hrel
        by_cases hlt : k < n
        · have hk0 : (0 : Int) ≤ k := by omega
          have hk1 : (k : Int) < n := by omega
          obtain ⟨og, oo, rfl, hgo, hat⟩ := HO.out (by rw [HN.out]; omega)
          have hx := (hat k (by rw [HN.out]; exact hlt)).step hH.bel hgo
          have hx0 := hat k (by rw [HN.out]; exact hlt)
          obtain ⟨x, hxx⟩ : ∃ x, x = xs.getD k op0 := ⟨_, rfl⟩
          rw [← hxx] at hx hx0
          have e1 := hx.k
          have e2 := hx.n
          have e3 := hx.b
          have HX := Lib.hid hx0
          have HFZ := Lib.hid hF
          clear hat hxx hx hx0 hF
          go_wp2_with fail
          refine (held_down hH).mono ?_
          rintro e w4 ⟨rfl, hH4⟩
          clear hH
          obtain ⟨b, hb⟩ : ∃ b, d.down = b := ⟨_, rfl⟩
          rw [hb]
          have HB := Lib.hid hb
          clear hb
          obtain ⟨hT, hTd⟩ := HFZ.out.tick
          have hz0 : 0 ≤ z := HFZ.out.2.1
          have hzs : b = true → z = 0 := fun h => HFZ.out.2.2 (by rw [HB.out]; exact h)
          have HT := Lib.hid hT
          have HTD := Lib.hid hTd
          have HZS := Lib.hid hzs
          clear hT hTd hzs
          have hend : ∀ (z' : Int) (d' : Dv) w5, z' ≤ f0 → Fz d' z' → d'.n = 8 → d'.pend.length ≤ k + 1 → Held w w5 g d' [] →
              (∃ (j : Nat) (y : Int) (q : Dv), j ≤ n ∧ Value.int .i64 ((k : Int) + 1) = .int .i64 j ∧ Value.int .i64 z' = .int .i64 y ∧ y ≤ f0 ∧ Fz q y ∧ q.n = 8 ∧ q.pend.length ≤ j ∧ Held w w5 g q []) ∧ n - (intOf (Value.int .i64 ((k : Int) + 1))).toNat < n - (intOf (Value.int .i64 k)).toNat :=
            fun z' d' w5 q1 q2 q3 q4 q5 => ⟨⟨k + 1, z', d', by omega, by go_num, rfl, q1, q2, q3, q4, q5⟩, by simp [intOf]; omega⟩
          have HEND := Lib.hid hend
          clear hend
          have f1 := hH4.bel
          have ee1 : w4.cell? ⟨og, oo + k * 4, none⟩ = some (.int .i64 x.k) := (HX.out.step f1 hgo).k
          have ee2 : w4.cell? ⟨og, oo + k * 4 + 1, none⟩ = some (.int .i64 x.n) := (HX.out.step f1 hgo).n
          have ee3 : w4.cell? ⟨og, oo + k * 4 + 2, none⟩ = some (.slice x.bA x.b.length x.bc) := (HX.out.step f1 hgo).b
          clear e1 e2 e3 f1
          by_cases h1 : x.k = 1
          · rw [h1] at ee1
            go_wp2_with fail
            go_wp2_with (first | (refine wp_region_lex [] (by kernel_rfl) (by decide +kernel) ?_) | (refine wpLex_nil ?_) | (refine wpLex_pure rfl (fun _ _ => ?_); go_simp; try go_bits) | (refine wpLex_read rfl (fun _ _ => ?_); go_simp; try go_bits) | (refine wpLex_loud rfl (fun _ _ => ?_)))
            refine (held_write (hH4.step (Below.refl _ _).drew) x.n x.bA x.bc x.b HX.out.bc HX.out.br (by omega)).mono ?_
            rintro e w5 ⟨rfl, hH5⟩
            have hp5 := Dv.write_pend (d := d) x.n x.b
            have hn5 : (d.write x.n x.b).n = 8 := by rw [Dv.write_n]; exact hd8
            have HP5 := Lib.hid hp5
            have HN5 := Lib.hid hn5
            clear hp5 hn5 hH4 ee1 ee2 ee3
            by_cases s1 : x.n < 0 ∨ (d.n : Int) ≤ x.n
            · obtain ⟨q1, q2⟩ := Dv.write_sector (d := d) (b := x.b) s1
              rw [q2]
              have HQ := Lib.hid q1
              clear q1 q2 s1
              go_wp2_with (first | (refine wp_region_lex [] (by kernel_rfl) (by decide +kernel) ?_) | (refine wpLex_nil ?_) | (refine wpLex_pure rfl (fun _ _ => ?_); go_simp; try go_bits) | (refine wpLex_read rfl (fun _ _ => ?_); go_simp; try go_bits) | (refine wpLex_loud rfl (fun _ _ => ?_)))
              exact HEND.out z _ _ hzf (by rw [HQ.out]; exact HFZ.out) HN5.out (by have := HP5.out; omega) hH5
            · by_cases s2 : 256 < x.b.length
              · obtain ⟨q1, q2⟩ := Dv.write_long (d := d) s1 s2
                rw [q2]
                have HQ := Lib.hid q1
                clear q1 q2 s1 s2
                go_wp2_with (first | (refine wp_region_lex [] (by kernel_rfl) (by decide +kernel) ?_) | (refine wpLex_nil ?_) | (refine wpLex_pure rfl (fun _ _ => ?_); go_simp; try go_bits) | (refine wpLex_read rfl (fun _ _ => ?_); go_simp; try go_bits) | (refine wpLex_loud rfl (fun _ _ => ?_)))
                exact HEND.out z _ _ hzf (by rw [HQ.out]; exact HFZ.out) HN5.out (by have := HP5.out; omega) hH5
              · by_cases s3 : d.tick.down = true
                · obtain ⟨q1, q2⟩ := Dv.write_down (d := d) s1 s2 s3
                  rw [q2]
                  have hz : z = 0 := HTD.out.1 s3
                  subst hz
                  have HQ := Lib.hid q1
                  clear q1 q2 s1 s2 s3
                  cases b <;>
                  · go_wp2_with (first | (refine wp_region_lex [] (by kernel_rfl) (by decide +kernel) ?_) | (refine wpLex_nil ?_) | (refine wpLex_pure rfl (fun _ _ => ?_); go_simp; try go_bits) | (refine wpLex_read rfl (fun _ _ => ?_); go_simp; try go_bits) | (refine wpLex_loud rfl (fun _ _ => ?_)))
                    exact HEND.out _ _ _ (by omega) (by rw [HQ.out]; exact HT.out) HN5.out (by have := HP5.out; omega) hH5
                · obtain ⟨q1, q2⟩ := Dv.write_done (d := d) s1 s2 s3
                  rw [q2]
                  have hz : ¬ z = 0 := fun h => s3 (HTD.out.2 h)
                  have hz1 : 0 < z := by omega
                  have hbf : b = false := by
                    cases b with
                    | false => rfl
                    | true => exact absurd (HZS.out rfl) hz
                  subst hbf
                  have HQ := Lib.hid q1
                  clear q1 q2 s1 s2 s3 hz
                  go_wp2_with (first | (refine wp_region_lex [] (by kernel_rfl) (by decide +kernel) ?_) | (refine wpLex_nil ?_) | (refine wpLex_pure rfl (fun _ _ => ?_); go_simp; try go_bits) | (refine wpLex_read rfl (fun _ _ => ?_); go_simp; try go_bits) | (refine wpLex_loud rfl (fun _ _ => ?_)))
                  exact HEND.out _ _ _ (by omega) (HT.out.of (by rw [HQ.out]) (by rw [HQ.out])) HN5.out (by have := HP5.out; omega) hH5
          · have n1 : (x.k == 1) = false := by simpa using h1
            by_cases h2 : x.k = 2
            · rw [h2] at ee1
              clear h1 n1 h2
              go_wp2_with fail
              refine (held_sync hH4).mono ?_
              rintro e w5 ⟨rfl, hH5⟩
              have hp5 := Dv.sync_pend (d := d)
              have hn5 : d.sync.n = 8 := by rw [Dv.sync_n]; exact hd8
              have HP5 := Lib.hid hp5
              have HN5 := Lib.hid hn5
              clear hp5 hn5 hH4 ee1 ee2 ee3
              by_cases s3 : d.tick.down = true
              · have q2 : d.errS = 61 := by unfold Dv.errS; rw [if_pos s3]
                have q1 : d.sync = d.tick := by unfold Dv.sync; rw [if_pos s3]
                rw [q2]
                have hz : z = 0 := HTD.out.1 s3
                subst hz
                have HQ := Lib.hid q1
                clear q1 q2 s3
                cases b <;>
                · go_wp2_with fail
                  exact HEND.out _ _ _ (by omega) (by rw [HQ.out]; exact HT.out) HN5.out (by have := HP5.out; omega) hH5
              · have q2 : d.errS = 0 := by unfold Dv.errS; rw [if_neg s3]
                have q1 : d.sync = { d.tick with sure := d.seen, pend := [] } := by unfold Dv.sync; rw [if_neg s3]
                rw [q2]
                have hz : ¬ z = 0 := fun h => s3 (HTD.out.2 h)
                have hz1 : 0 < z := by omega
                have hbf : b = false := by
                  cases b with
                  | false => rfl
                  | true => exact absurd (HZS.out rfl) hz
                subst hbf
                have HQ := Lib.hid q1
                clear q1 q2 s3 hz
                go_wp2_with fail
                exact HEND.out _ _ _ (by omega) (HT.out.of (by rw [HQ.out]) (by rw [HQ.out])) HN5.out (by have := HP5.out; omega) hH5
            · have n2 : (x.k == 2) = false := by simpa using h2
              clear h1 h2
              go_wp2_with fail
              exact HEND.out z _ _ hzf HFZ.out hd8 (by omega) hH4
        · have hk2 : ¬ (k : Int) < n := by omega
          have hpp : d.pend.length ≤ 100000 := by omega
          go_wp2_with fail
          refine (held_crash0 hH hpp).mono ?_
          rintro e w4 ⟨rfl, hH4⟩
          clear hH
          go_wp2_with fail
          refine (held_down hH4).mono ?_
          rintro e w5 ⟨rfl, hH5⟩
          rw [show (d.crash []).down = false from rfl]
          clear hH4
          go_wp2_with fail
          refine (held_sync hH5).mono ?_
          rintro e w6 ⟨rfl, hH6⟩
          rw [show (d.crash []).errS = 0 from rfl]
          clear hH5
          go_wp2_with fail
          go_ret
          exact ⟨rfl, hH6.bel⟩
end Go.Proofs.Ytbfloejpgjheiaa
