/- Layer 11: what is done to a copy is not done to the device. -/
import Derived.Test.YtbfloejpgjheiaaDev10
namespace Go.Proofs.Ytbfloejpgjheiaa
open Go.RowKit
/-- a copy at work, with the device it was made of, and what that held -/
def HeldC (w0 w : World) (g : Nat) (d : Dv) (L0 : DL) (d0 : Dv) (v : Value) (l : List UInt8) : Prop := ∃ L, L.g = g ∧ Dev w L d ∧ (∀ k, L.has k → w0.heap.size ≤ k) ∧ Sep L L0 ∧ Dev w L0 d0 ∧ Side w L v l ∧ Below w0.heap.size w0 w
theorem HeldC.to {w0 w w' : World} {L L' L0 : DL} {d' d0 : Dv} {v : Value} {l : List UInt8} (hL : ∀ k, L.has k → w0.heap.size ≤ k) (hs : Sep L L0) (h0 : Dev w L0 d0) (hv : Side w L v l) (hb : Below w0.heap.size w0 w) (t : DevTo L L' d' w w') : HeldC w0 w' L.g d' L0 d0 v l := by
  obtain ⟨e1, e2⟩ := DevTo.at hb t hL hb.size
  obtain ⟨s1, s2⟩ := t.sep hs h0
  exact ⟨L', t.g, t.dev, e2, s1, s2, hv.to t, e1⟩
set_option maxRecDepth 100000 in
set_option maxHeartbeats 1600000 in
theorem walk_DeviceCopy (A0 : Option Addr) (c0 : Nat) (xs : List OpV) (A1 : Option Addr) (c1 : Nat) (ys : List OpV) (w : World) (h0 : RdOps w w.heap.size A0 xs) (h1 : RdOps w w.heap.size A1 ys) :
    Calls Try.prog 6 #[.slice A0 xs.length c0, .slice A1 ys.length c1] w (AwakeRes w) := by
  have HO := Lib.hid h0
  have HR := Lib.hid h1
  obtain ⟨n, hn⟩ : ∃ n, ys.length = n := ⟨_, rfl⟩
  rw [hn]
  have HN := Lib.hid hn
  clear h0 h1 hn
  go_enter Try.func6, Try.ntmps6
  go_wp2_with fail
  refine (awake_any w).mono ?_
  rintro e w1 ⟨rfl, hb1⟩
  go_wp2_with fail
  refine (made_any A0 c0 xs w1 ((HO.out.step hb1).more hb1.size)).mono ?_
  rintro e w2 ⟨g, rfl, hM⟩
  have hd8 : ((Dv.new 8).ops xs (min xs.length 40)).n = 8 := by rw [Dv.ops_n _ _ _ (by omega)]; rfl
  have hdp : ((Dv.new 8).ops xs (min xs.length 40)).pend.length ≤ 40 := by have := Dv.ops_pend (Dv.new 8) xs (min xs.length 40) (by omega); have : (Dv.new 8).pend.length = 0 := rfl; omega
  obtain ⟨d, hd⟩ : ∃ d, d = (Dv.new 8).ops xs (min xs.length 40) := ⟨_, rfl⟩
  rw [← hd] at hM hd8 hdp
  have hH : Held w w2 g d [] := by
    obtain ⟨⟨L, e1, e2, e3⟩, e4⟩ := hM
    exact Held.new hb1 e2 e4 e3 e1
  have D8 := Lib.hid hd8
  clear hM hd hb1 hd8
  go_wp2_with fail
  refine (held_all hH D8.out).mono ?_
  rintro e w3 ⟨Aa, ca, rfl, hH3, -⟩
  have hl : d.seen.length = 2048 := by rw [hH.ok.seen, D8.out]
  rw [hl] at hH3 ⊢
  clear hH
  go_wp2_with fail
  refine (held_pending hH3).mono ?_
  rintro e w4 ⟨rfl, hH4⟩
  clear hH3
  obtain ⟨p, hp⟩ : ∃ p, d.pend.length = p := ⟨_, rfl⟩
  rw [hp]
  have HP := Lib.hid hp
  have HL := Lib.hid hl
  clear hp hl
  go_wp2_with fail
  obtain ⟨L0, rfl, hd0, hL0, hv0, hb0⟩ := hH4
  have hs0 : Bs w4 (.slice Aa 2048 ca) d.seen := (hv0 (.slice Aa 2048 ca, d.seen) (by simp)).bs
  refine (copy_any L0 d w4 hd0 (by omega)).mono ?_
  rintro e w5 ⟨LC, rfl, hdc, hbc, hLC⟩
  have hC : HeldC w w5 LC.g d L0 d (.slice Aa 2048 ca) d.seen := ⟨LC, rfl, hdc, fun k hk => by have := hLC k hk; have := hb0.size; omega, Sep.new hd0 hLC, hd0.step hbc, ⟨hs0.step hbc, fun hpos g o m c e hk => by
      obtain ⟨g', o', c', e', hg'⟩ := hs0.block hpos
      rw [e'] at e
      injection e with e
      injection e with e
      injection e with e
      subst e
      have := hLC g' hk
      omega⟩, hb0.trans (hbc.mono hb0.size)⟩
  obtain ⟨g, hg⟩ : ∃ g, LC.g = g := ⟨_, rfl⟩
  obtain ⟨g0, hg0⟩ : ∃ g, L0.g = g := ⟨_, rfl⟩
  rw [hg] at hC ⊢
  rw [hg0]
  have HG0 := Lib.hid hg0
  clear hd0 hL0 hv0 hb0 hs0 hdc hbc hLC hg hg0
  go_wp2_with fail
  go_loopw [10] (fun i wr => ∃ (k : Nat) (q : Dv), k ≤ n ∧ k ≤ 40 ∧ i = .int .i64 k ∧ q.pend.length ≤ 40 + k ∧ HeldC w wr g q L0 d (.slice Aa 2048 ca) d.seen) (fun i _ => 40 - (intOf i).toNat)
  case atStart => exact ⟨0, d, by omega, by omega, rfl, by omega, hC⟩
  case round =>
    clear hC
    obtain ⟨k, q, hk, hk40, rfl, hpl, hC⟩ := hrel
    by_cases hlt : k < n
    · have hk0 : (0 : Int) ≤ k := by omega
      have hk1 : (k : Int) < n := by omega
      by_cases hlt40 : k < 40
      · have hk2 : (k : Int) < 40 := by omega
        obtain ⟨L, rfl, hq, hL, hs, h0, hv, hb⟩ := hC
        obtain ⟨o, go, rfl, hgo, hat⟩ := HR.out (by rw [HN.out]; omega)
        have hx := (hat k (by rw [HN.out]; exact hlt)).step hb hgo
        obtain ⟨x, hxx⟩ : ∃ x, x = ys.getD k op0 := ⟨_, rfl⟩
        rw [← hxx] at hx
        have e1 := hx.k
        have e2 := hx.n
        have e3 := hx.b
        have e4 := hx.t
        have hsz := hb.size
        have HX := Lib.hid hx
        clear hat hxx hx
        have hend : ∀ (q' : Dv) w', q'.pend.length ≤ q.pend.length + 1 → HeldC w w' L.g q' L0 d (.slice Aa 2048 ca) d.seen → (∃ (j : Nat) (y : Dv), j ≤ n ∧ j ≤ 40 ∧ Value.int .i64 ((k : Int) + 1) = .int .i64 j ∧ y.pend.length ≤ 40 + j ∧ HeldC w w' L.g y L0 d (.slice Aa 2048 ca) d.seen) ∧ 40 - (intOf (Value.int .i64 ((k : Int) + 1))).toNat < 40 - (intOf (Value.int .i64 k)).toNat := fun q' w2 hp hM => ⟨⟨k + 1, q', by omega, by omega, by go_num, by omega, hM⟩, by simp [intOf]; omega⟩
        have HEND := Lib.hid hend
        clear hend
        by_cases h1 : x.k = 1
        · rw [h1] at e1
          clear h1
          go_wp2_with fail
          go_wp2_with (first | (refine wp_region_lex [] (by kernel_rfl) (by decide +kernel) ?_) | (refine wpLex_nil ?_) | (refine wpLex_pure rfl (fun _ _ => ?_); go_simp; try go_bits) | (refine wpLex_read rfl (fun _ _ => ?_); go_simp; try go_bits) | (refine wpLex_loud rfl (fun _ _ => ?_)))
          have hdr : Below wr.heap.size wr wr.drew := (Below.refl _ _).drew
          refine (write_any L q x.n x.bA x.bc x.b _ (hq.step hdr) HX.out.bc ((HX.out.br.more hsz).stepB hdr) (HX.out.br.apart L hL) (by omega)).mono ?_
          rintro e w2 ⟨rfl, L2, ht⟩
          go_wp2_with (first | (refine wp_region_lex [] (by kernel_rfl) (by decide +kernel) ?_) | (refine wpLex_nil ?_) | (refine wpLex_pure rfl (fun _ _ => ?_); go_simp; try go_bits) | (refine wpLex_read rfl (fun _ _ => ?_); go_simp; try go_bits) | (refine wpLex_loud rfl (fun _ _ => ?_)))
          exact HEND.out _ _ (Dv.write_pend _ _) (HeldC.to hL hs (h0.step hdr) (hv.step hdr) hb.drew ht)
        · have n1 : (x.k == 1) = false := by simpa using h1
          by_cases h2 : x.k = 2
          · rw [h2] at e1
            clear h1 n1 h2
            go_wp2_with fail
            refine (sync_any L q _ hq).mono ?_
            rintro e w2 ⟨rfl, L2, ht⟩
            go_wp2_with fail
            exact HEND.out _ _ (Nat.le_succ_of_le Dv.sync_pend) (HeldC.to hL hs h0 hv hb ht)
          · have n2 : (x.k == 2) = false := by simpa using h2
            clear h1 h2
            go_wp2_with fail
            refine (crash_any L q x.tA x.tc x.t _ hq HX.out.tc (HX.out.tr.more hsz) (HX.out.tr.apart L hL) (by omega)).mono ?_
            rintro e w2 ⟨rfl, L2, ht⟩
            go_wp2_with fail
            exact HEND.out _ _ (by simp [Dv.crash]) (HeldC.to hL hs h0 hv hb ht)
      · have hk1 : (k : Int) < n := by omega
        have hk2 : ¬ (k : Int) < 40 := by omega
        go_wp2_with fail
        obtain ⟨L, rfl, hq, hL, hs, h0, hv, hb⟩ := hC
        rw [← HG0.out]
        refine (all_any L0 d wr h0 D8.out).mono ?_
        rintro e w2 ⟨A2, c2, rfl, hown, hb2⟩
        have hbs := hown.bs (by rw [HL.out]; omega)
        rw [HL.out] at hbs ⊢
        have h02 := h0.step hb2
        have hv2 := hv.bs.step hb2
        have hbb := hb.trans (hb2.mono hb.size)
        clear hq hL hs h0 hv hb hown hb2 hk1 hk2
        go_wp2_with fail
        refine (pending_any L0 d w2 h02).mono ?_
        rintro e w3 ⟨rfl, rfl⟩
        rw [HP.out]
        go_wp2_with fail
        refine (refSame_bs hv2 hbs).mono ?_
        rintro e w4 ⟨rfl, hb4⟩
        rw [decide_eq_true (show d.seen = d.seen from rfl)]
        have hb5 := hbb.trans (hb4.mono hbb.size)
        clear hb4 hbb hv2 hbs h02
        go_wp2_with fail
        go_ret
        exact ⟨ret_bool (by simp), hb5⟩
    · have hk2 : ¬ (k : Int) < n := by omega
      go_wp2_with fail
      obtain ⟨L, rfl, hq, hL, hs, h0, hv, hb⟩ := hC
      rw [← HG0.out]
      refine (all_any L0 d wr h0 D8.out).mono ?_
      rintro e w2 ⟨A2, c2, rfl, hown, hb2⟩
      have hbs := hown.bs (by rw [HL.out]; omega)
      rw [HL.out] at hbs ⊢
      have h02 := h0.step hb2
      have hv2 := hv.bs.step hb2
      have hbb := hb.trans (hb2.mono hb.size)
      clear hq hL hs h0 hv hb hown hb2 hk2
      go_wp2_with fail
      refine (pending_any L0 d w2 h02).mono ?_
      rintro e w3 ⟨rfl, rfl⟩
      rw [HP.out]
      go_wp2_with fail
      refine (refSame_bs hv2 hbs).mono ?_
      rintro e w4 ⟨rfl, hb4⟩
      rw [decide_eq_true (show d.seen = d.seen from rfl)]
      have hb5 := hbb.trans (hb4.mono hbb.size)
      clear hb4 hbb hv2 hbs h02
      go_wp2_with fail
      go_ret
      exact ⟨ret_bool (by simp), hb5⟩
end Go.Proofs.Ytbfloejpgjheiaa
