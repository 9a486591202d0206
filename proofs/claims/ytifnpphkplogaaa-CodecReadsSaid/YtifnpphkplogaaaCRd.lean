/- CodecReads: the walk of the statement's function. Printed by gen_crd.py. -/
import Derived.Test.YtifnpphkplogaaaCDec
namespace Go.Proofs.Ytifnpphkplogaaa
open Go.RowKit
def CellS (a : Addr) (v : Value) (w : World) : Prop := w.cell? a = some v
@[irreducible] def nthA (xs : List (Int × Int)) (i : Nat) : Int × Int := xs.getD i (0, 0)
theorem nthA_def (xs : List (Int × Int)) (i : Nat) : nthA xs i = xs.getD i (0, 0) := by unfold nthA; rfl
/-- questions in memory -/
def AsksL (w : World) (v : Value) (xs : List (Int × Int)) : Prop := ∃ A c, v = .slice A xs.length c ∧ xs.length ≤ c ∧ (0 < xs.length → ∃ g o, A = some ⟨g, o, none⟩ ∧ g < w.heap.size ∧ ∀ i, i < xs.length → w.cell? ⟨g, o + i * 2, none⟩ = some (.int .i64 (nthA xs i).1) ∧ w.cell? ⟨g, o + i * 2 + 1, none⟩ = some (.int .i64 (nthA xs i).2))
set_option maxRecDepth 100000 in
set_option maxHeartbeats 6400000 in
theorem codecreads_any (vb v : Value) (b : List UInt8) (xs : List (Int × Int)) (w : World) (hvb : Bs w vb b) (h : AsksL w v xs) (hb5 : b.length ≤ 5000) (hn : xs.length ≤ 20) :
    Calls Try.prog 8 #[vb, v] w (TrueRes' w) := by
  have HVB := Lib.hid hvb
  obtain ⟨Ab, cb, rfl, -⟩ := id hvb
  obtain ⟨A, c, rfl, hc, hel⟩ := h
  obtain ⟨n, hN⟩ : ∃ n, n = xs.length := ⟨_, rfl⟩
  have HN := Lib.hid hN
  rw [← hN] at hc hn ⊢
  have HEL := Lib.hid hel
  have i1 : ¬ (5000 : Int) < b.length := by omega
  have i2 : ¬ (20 : Int) < n := by omega
  clear hel hN hvb
  go_enter Try.func8, Try.ntmps8
  go_wp2_with fail
  refine (awake9_any _).mono ?_
  rintro e w1 ⟨rfl, b1⟩
  go_wp2_with fail
  refine (read_any _ b _ (HVB.out.step b1)).mono ?_
  rintro e w2 ⟨g, rfl, hin, b2⟩
  obtain ⟨B, hB⟩ : ∃ B, B = w1.heap.size := ⟨_, rfl⟩
  rw [← hB] at hin b2
  have hwB : w.heap.size ≤ B := by rw [hB]; exact b1.size
  have hgl := hin.lt
  have hgB := hin.1
  have hb2w : B ≤ w2.heap.size := by omega
  obtain ⟨g2, hg2⟩ : ∃ g2, g2 = w2.heap.size := ⟨_, rfl⟩
  have hq : Below w2.heap.size w2 (w2.alloc (.cells #[.slice Ab b.length cb, .int .i64 0, .int .i64 0] 66)) := (by repeat (first | with_reducible exact Below.refl _ _ | with_reducible assumption | refine Below.drew ?_ | refine below_drewN ?_ | refine Below.alloc ?_ (by first | omega | (simp; done) | (simp; omega)) _ | refine below_setRow ?_ (by omega) _ | refine Below.setCell ?_ (by first | omega | (simp; done) | (simp; omega)) _))
  have hrin : RInIs (w2.alloc (.cells #[.slice Ab b.length cb, .int .i64 0, .int .i64 0] 66)) B g2 ⟨b, 0⟩ :=
    ⟨by omega, _, b, 0, RowIs.new' hg2, by
      have h0 := (HVB.out.step b1).bsB
      rw [← hB] at h0
      exact (h0.keep b2).keep (hq.mono (by omega)), Nat.zero_le _, fun _ => rfl, fun e => absurd rfl e⟩
  have hin2 := hin.step hq
  have hne : g ≠ g2 := by omega
  have hg2B : B ≤ g2 := by omega
  have hbw : Below w.heap.size w (w2.alloc (.cells #[.slice Ab b.length cb, .int .i64 0, .int .i64 0] 66)) := (b1.trans (b2.mono hwB)).trans (hq.mono (by omega))
  have HB := Lib.hid hB
  have HG2 := Lib.hid hg2
  clear hB hg2
  go_wp2_with fail
  rw [← HG2.out]
  go_loopw [8] (fun i wr => ∃ (k : Nat) (I : InP), k ≤ n ∧ i = .int .i64 k ∧ InIs wr B g I ∧ RInIs wr B g2 I ∧ Below w.heap.size w wr) (fun i _ => n - (intOf i).toNat)
  case atStart => exact ⟨0, _, Nat.zero_le _, rfl, hin2, hrin, hbw⟩
  case round =>
    clear hin2 hrin hbw hin
    obtain ⟨k, I, hk, rfl, hi, hr, hb⟩ := hrel
    by_cases hlt : k < n
    · have hlt' : k < xs.length := by rw [← HN.out]; exact hlt
      obtain ⟨ga, oa, rfl, hga, hit⟩ := HEL.out (by omega)
      obtain ⟨h0, h1⟩ := hit k hlt'
      obtain ⟨D, hD⟩ : ∃ D, D = (nthA xs k).1 := ⟨_, rfl⟩
      obtain ⟨N, hNN⟩ : ∃ N, N = (nthA xs k).2 := ⟨_, rfl⟩
      rw [← hD] at h0
      rw [← hNN] at h1
      have q0 := (hb.cell (p := ⟨ga, oa + k * 2, none⟩) hga).trans h0
      have q1 := (hb.cell (p := ⟨ga, oa + k * 2 + 1, none⟩) hga).trans h1
      have q0r : ∀ _ : Unit, w.cell? ⟨ga, oa + k * 2 + 1, none⟩ = some (.int .i64 N) := fun _ => h1
      have hk0 : (0 : Int) ≤ (k : Int) := by omega
      have hk1 : (k : Int) < (n : Int) := by omega
      clear hit hD hNN h0 h1
      by_cases d1 : D = 1
      · rw [d1] at q0
        clear d1
        have hS0 : CellS ⟨ga, oa + k * 2 + 1, none⟩ (.int .i64 N) wr.drew := q1
        have hdr : Below wr.heap.size wr wr.drew := (by repeat (first | with_reducible exact Below.refl _ _ | with_reducible assumption | refine Below.drew ?_ | refine below_drewN ?_ | refine Below.alloc ?_ (by first | omega | (simp; done) | (simp; omega)) _ | refine below_setRow ?_ (by omega) _ | refine Below.setCell ?_ (by first | omega | (simp; done) | (simp; omega)) _))
        have hi1 := hi.step hdr
        have hr1 := hr.step hdr
        go_wp2_with fail
        refine wp_region_lexS [] [5, 12] (CellS ⟨ga, oa + k * 2 + 1, none⟩ (.int .i64 N)) (by kernel_rfl) (by decide +kernel) hS0 (fun hS => ?_)
        (go_wp2_with (first | (refine wpLexS_nil ?_) | (refine wpLexS_pure rfl (fun _ _ => ?_); go_simp; refine ⟨_, fun w9 hw9 => (by have s1 : w9.cell? ⟨ga, oa + k * 2 + 1, none⟩ = some (.int .i64 N) := hw9; go_simp; rfl), ?_⟩) | (refine wpLexS_pure0 rfl (fun _ _ => ?_); go_simp; try go_bits) | (refine wpLexS_read rfl (fun _ _ => ?_); go_simp; try go_bits) | (refine wpLexS_loud rfl (fun KL hKL => ?_))))
        refine (innum_any B g I N _ hi1).mono ?_
        rintro e w3 ⟨rfl, hi3, hu3⟩
        have hr2 := hr1.upd hu3 hgB hne.symm
        have hb3 := hu3.below (hb.drew) (by omega) (Nat.le_trans hb.size hdr.size)
        go_wp2_with fail
        refine hKL _ _ ((hb3.cell (p := ⟨ga, oa + k * 2 + 1, none⟩) hga).trans (q0r ())) (fun hS3 => ?_)
        clear hKL
        (go_wp2_with (first | (refine wpLexS_nil ?_) | (refine wpLexS_pure rfl (fun _ _ => ?_); go_simp; refine ⟨_, fun w9 hw9 => (by have s1 : w9.cell? ⟨ga, oa + k * 2 + 1, none⟩ = some (.int .i64 N) := hw9; go_simp; rfl), ?_⟩) | (refine wpLexS_pure0 rfl (fun _ _ => ?_); go_simp; try go_bits) | (refine wpLexS_read rfl (fun _ _ => ?_); go_simp; try go_bits) | (refine wpLexS_loud rfl (fun KL hKL => ?_))))
        refine (rnum_any B g2 I N _ hr2).mono ?_
        rintro e w4 ⟨rfl, hr5, hu4⟩
        have hi5 := hi3.upd hu4 hg2B hne
        have hb5 := hu4.below hb3 (by omega) hb3.size
        go_wp2_with fail
        refine hKL _ _ ((hb5.cell (p := ⟨ga, oa + k * 2 + 1, none⟩) hga).trans (q0r ())) (fun hS5 => ?_)
        clear hKL
        obtain ⟨J, hJ⟩ : ∃ J, J = (inumP I N).2 := ⟨_, rfl⟩
        rw [← hJ] at hi5 hr5
        clear hJ
        (go_wp2_with (first | (refine wpLexS_nil ?_) | (refine wpLexS_pure rfl (fun _ _ => ?_); go_simp; refine ⟨_, fun w9 hw9 => (by skip; go_simp; rfl), ?_⟩) | (refine wpLexS_pure0 rfl (fun _ _ => ?_); go_simp; try go_bits) | (refine wpLexS_read rfl (fun _ _ => ?_); go_simp; try go_bits) | (refine wpLexS_loud rfl (fun KL hKL => ?_))))
        obtain ⟨E, hE⟩ : ∃ E, E = endP J := ⟨_, rfl⟩
        have EN := inend_any B g J _ hi5
        have REN := fun W h => rend_any B g2 J W h
        rw [← hE] at EN
        simp only [← hE] at REN
        have hEE := bne_self_int E
        have HREN := Lib.hid REN
        clear hE REN
        go_wp2_with fail
        refine EN.mono ?_
        rintro e w6 ⟨rfl, rfl⟩
        go_wp2_with fail
        refine (HREN.out _ hr5).mono ?_
        rintro e w7 ⟨rfl, rfl⟩
        have hd7 : ∀ W : World, Below W.heap.size W W.drew := fun W => (by repeat (first | with_reducible exact Below.refl _ _ | with_reducible assumption | refine Below.drew ?_ | refine below_drewN ?_ | refine Below.alloc ?_ (by first | omega | (simp; done) | (simp; omega)) _ | refine below_setRow ?_ (by omega) _ | refine Below.setCell ?_ (by first | omega | (simp; done) | (simp; omega)) _))
        have hi7 := hi5.step (hd7 _)
        have hr7 := hr5.step (hd7 _)
        have hb7 := hb5.trans ((hd7 _).mono hb5.size)
        go_wp2_with fail
        exact ⟨⟨k + 1, J, by omega, by go_num, hi7, hr7, hb7⟩, by simp [intOf]; omega⟩
      · have f1 : (D == (1 : Int)) = false := by simpa using d1
        by_cases d2 : D = 2
        · rw [d2] at q0 f1
          clear d2 d1
          have hS0 : CellS ⟨ga, oa + k * 2 + 1, none⟩ (.int .i64 N) wr.drew := q1
          have hdr : Below wr.heap.size wr wr.drew := (by repeat (first | with_reducible exact Below.refl _ _ | with_reducible assumption | refine Below.drew ?_ | refine below_drewN ?_ | refine Below.alloc ?_ (by first | omega | (simp; done) | (simp; omega)) _ | refine below_setRow ?_ (by omega) _ | refine Below.setCell ?_ (by first | omega | (simp; done) | (simp; omega)) _))
          have hi1 := hi.step hdr
          have hr1 := hr.step hdr
          go_wp2_with fail
          refine wp_region_lexS [] [5, 12] (CellS ⟨ga, oa + k * 2 + 1, none⟩ (.int .i64 N)) (by kernel_rfl) (by decide +kernel) hS0 (fun hS => ?_)
          (go_wp2_with (first | (refine wpLexS_nil ?_) | (refine wpLexS_pure rfl (fun _ _ => ?_); go_simp; refine ⟨_, fun w9 hw9 => (by have s1 : w9.cell? ⟨ga, oa + k * 2 + 1, none⟩ = some (.int .i64 N) := hw9; go_simp; rfl), ?_⟩) | (refine wpLexS_pure0 rfl (fun _ _ => ?_); go_simp; try go_bits) | (refine wpLexS_read rfl (fun _ _ => ?_); go_simp; try go_bits) | (refine wpLexS_loud rfl (fun KL hKL => ?_))))
          refine (inbytes_any B g I N _ hi1).mono ?_
          rintro e w3 ⟨v3, rfl, hv3, hi3, hu3⟩
          have hr2 := hr1.upd hu3 hgB hne.symm
          have hb3 := hu3.below (hb.drew) (by omega) (Nat.le_trans hb.size hdr.size)
          go_wp2_with fail
          refine hKL _ _ ((hb3.cell (p := ⟨ga, oa + k * 2 + 1, none⟩) hga).trans (q0r ())) (fun hS3 => ?_)
          clear hKL
          (go_wp2_with (first | (refine wpLexS_nil ?_) | (refine wpLexS_pure rfl (fun _ _ => ?_); go_simp; refine ⟨_, fun w9 hw9 => (by have s1 : w9.cell? ⟨ga, oa + k * 2 + 1, none⟩ = some (.int .i64 N) := hw9; go_simp; rfl), ?_⟩) | (refine wpLexS_pure0 rfl (fun _ _ => ?_); go_simp; try go_bits) | (refine wpLexS_read rfl (fun _ _ => ?_); go_simp; try go_bits) | (refine wpLexS_loud rfl (fun KL hKL => ?_))))
          refine (rbytes_any B g2 I N _ hr2).mono ?_
          rintro e w4 ⟨v4, rfl, hv4, hr5, hu4⟩
          have hi5 := hi3.upd hu4 hg2B hne
          have hb5 := hu4.below hb3 (by omega) hb3.size
          go_wp2_with fail
          refine hKL _ _ ((hb5.cell (p := ⟨ga, oa + k * 2 + 1, none⟩) hga).trans (q0r ())) (fun hS5 => ?_)
          clear hKL
          obtain ⟨J, hJ⟩ : ∃ J, J = (ibytesP I N).2 := ⟨_, rfl⟩
          rw [← hJ] at hi5 hr5
          clear hJ
          (go_wp2_with (first | (refine wpLexS_nil ?_) | (refine wpLexS_pure rfl (fun _ _ => ?_); go_simp; refine ⟨_, fun w9 hw9 => (by skip; go_simp; rfl), ?_⟩) | (refine wpLexS_pure0 rfl (fun _ _ => ?_); go_simp; try go_bits) | (refine wpLexS_read rfl (fun _ _ => ?_); go_simp; try go_bits) | (refine wpLexS_loud rfl (fun KL hKL => ?_))))
          have hv3' := hv3.upd hu4 hr2.no8
          have hsz4 := hr5.lt
          refine (refSame_bs hv3' (hv4.bs (by omega))).mono ?_
          rintro e w5 ⟨rfl, hbs⟩
          replace hi5 := hi5.step hbs
          replace hr5 := hr5.step hbs
          replace hb5 := hb5.trans (hbs.mono hb5.size)
          rw [decide_eq_true rfl]
          go_wp2_with fail
          refine hKL _ _ ((hb5.cell (p := ⟨ga, oa + k * 2 + 1, none⟩) hga).trans (q0r ())) (fun hS6 => ?_)
          clear hKL
          (go_wp2_with (first | (refine wpLexS_nil ?_) | (refine wpLexS_pure rfl (fun _ _ => ?_); go_simp; refine ⟨_, fun w9 hw9 => (by skip; go_simp; rfl), ?_⟩) | (refine wpLexS_pure0 rfl (fun _ _ => ?_); go_simp; try go_bits) | (refine wpLexS_read rfl (fun _ _ => ?_); go_simp; try go_bits) | (refine wpLexS_loud rfl (fun KL hKL => ?_))))
          obtain ⟨E, hE⟩ : ∃ E, E = endP J := ⟨_, rfl⟩
          have EN := inend_any B g J _ hi5
          have REN := fun W h => rend_any B g2 J W h
          rw [← hE] at EN
          simp only [← hE] at REN
          have hEE := bne_self_int E
          have HREN := Lib.hid REN
          clear hE REN
          go_wp2_with fail
          refine EN.mono ?_
          rintro e w6 ⟨rfl, rfl⟩
          go_wp2_with fail
          refine (HREN.out _ hr5).mono ?_
          rintro e w7 ⟨rfl, rfl⟩
          have hd7 : ∀ W : World, Below W.heap.size W W.drew := fun W => (by repeat (first | with_reducible exact Below.refl _ _ | with_reducible assumption | refine Below.drew ?_ | refine below_drewN ?_ | refine Below.alloc ?_ (by first | omega | (simp; done) | (simp; omega)) _ | refine below_setRow ?_ (by omega) _ | refine Below.setCell ?_ (by first | omega | (simp; done) | (simp; omega)) _))
          have hi7 := hi5.step (hd7 _)
          have hr7 := hr5.step (hd7 _)
          have hb7 := hb5.trans ((hd7 _).mono hb5.size)
          go_wp2_with fail
          exact ⟨⟨k + 1, J, by omega, by go_num, hi7, hr7, hb7⟩, by simp [intOf]; omega⟩
        · have f2 : (D == (2 : Int)) = false := by simpa using d2
          by_cases d3 : D = 3
          · rw [d3] at q0 f1 f2
            clear d3 d1 d2
            have hkl := keyOfB_length (takeP I 32).1
            go_wp2_with fail
            refine (inkey_any B g I _ hi).mono ?_
            rintro e w3 ⟨rfl, hi3, hu3⟩
            have hr2 := hr.upd hu3 hgB hne.symm
            have hb3 := hu3.below hb (by omega) hb.size
            go_wp2_with fail
            refine (rkey_any B g2 I _ hr2).mono ?_
            rintro e w4 ⟨rfl, hr5, hu4⟩
            have hi5 := hi3.upd hu4 hg2B hne
            have hb5 := hu4.below hb3 (by omega) hb3.size
            obtain ⟨K, hK⟩ : ∃ K, K = (ikeyP I).1 := ⟨_, rfl⟩
            have hKl : K.length = 32 := by rw [hK]; exact hkl
            obtain ⟨J, hJ⟩ : ∃ J, J = (ikeyP I).2 := ⟨_, rfl⟩
            rw [← hJ] at hi5 hr5
            rw [← hK]
            clear hJ hK hkl
            obtain ⟨E, hE⟩ : ∃ E, E = endP J := ⟨_, rfl⟩
            have EN := inend_any B g J _ hi5
            have REN := fun W h => rend_any B g2 J W h
            rw [← hE] at EN
            simp only [← hE] at REN
            have hEE := bne_self_int E
            have HREN := Lib.hid REN
            clear hE REN
            go_wp2_with fail
            refine EN.mono ?_
            rintro e w6 ⟨rfl, rfl⟩
            go_wp2_with fail
            refine (HREN.out _ hr5).mono ?_
            rintro e w7 ⟨rfl, rfl⟩
            have hd7 : ∀ W : World, Below W.heap.size W W.drew := fun W => (by repeat (first | with_reducible exact Below.refl _ _ | with_reducible assumption | refine Below.drew ?_ | refine below_drewN ?_ | refine Below.alloc ?_ (by first | omega | (simp; done) | (simp; omega)) _ | refine below_setRow ?_ (by omega) _ | refine Below.setCell ?_ (by first | omega | (simp; done) | (simp; omega)) _))
            have hi7 := hi5.step (hd7 _)
            have hr7 := hr5.step (hd7 _)
            have hb7 := hb5.trans ((hd7 _).mono hb5.size)
            go_wp2_with fail
            exact ⟨⟨k + 1, J, by omega, by go_num, hi7, hr7, hb7⟩, by simp [intOf]; omega⟩
          · have f3 : (D == (3 : Int)) = false := by simpa using d3
            by_cases d4 : D = 4
            · rw [d4] at q0 f1 f2 f3
              clear d4 d1 d2 d3
              have hS0 : CellS ⟨ga, oa + k * 2 + 1, none⟩ (.int .i64 N) wr.drew := q1
              have hdr : Below wr.heap.size wr wr.drew := (by repeat (first | with_reducible exact Below.refl _ _ | with_reducible assumption | refine Below.drew ?_ | refine below_drewN ?_ | refine Below.alloc ?_ (by first | omega | (simp; done) | (simp; omega)) _ | refine below_setRow ?_ (by omega) _ | refine Below.setCell ?_ (by first | omega | (simp; done) | (simp; omega)) _))
              have hi1 := hi.step hdr
              have hr1 := hr.step hdr
              go_wp2_with fail
              refine wp_region_lexS [] [5, 12] (CellS ⟨ga, oa + k * 2 + 1, none⟩ (.int .i64 N)) (by kernel_rfl) (by decide +kernel) hS0 (fun hS => ?_)
              (go_wp2_with (first | (refine wpLexS_nil ?_) | (refine wpLexS_pure rfl (fun _ _ => ?_); go_simp; refine ⟨_, fun w9 hw9 => (by have s1 : w9.cell? ⟨ga, oa + k * 2 + 1, none⟩ = some (.int .i64 N) := hw9; go_simp; rfl), ?_⟩) | (refine wpLexS_pure0 rfl (fun _ _ => ?_); go_simp; try go_bits) | (refine wpLexS_read rfl (fun _ _ => ?_); go_simp; try go_bits) | (refine wpLexS_loud rfl (fun KL hKL => ?_))))
              refine (inkeys_any B g I N _ hi1).mono ?_
              rintro e w3 ⟨v3, rfl, hv3, hi3, hu3⟩
              have hr2 := hr1.upd hu3 hgB hne.symm
              have hb3 := hu3.below (hb.drew) (by omega) (Nat.le_trans hb.size hdr.size)
              go_wp2_with fail
              refine hKL _ _ ((hb3.cell (p := ⟨ga, oa + k * 2 + 1, none⟩) hga).trans (q0r ())) (fun hS3 => ?_)
              clear hKL
              (go_wp2_with (first | (refine wpLexS_nil ?_) | (refine wpLexS_pure rfl (fun _ _ => ?_); go_simp; refine ⟨_, fun w9 hw9 => (by have s1 : w9.cell? ⟨ga, oa + k * 2 + 1, none⟩ = some (.int .i64 N) := hw9; go_simp; rfl), ?_⟩) | (refine wpLexS_pure0 rfl (fun _ _ => ?_); go_simp; try go_bits) | (refine wpLexS_read rfl (fun _ _ => ?_); go_simp; try go_bits) | (refine wpLexS_loud rfl (fun KL hKL => ?_))))
              refine (rkeys_any B g2 I N _ hr2).mono ?_
              rintro e w4 ⟨v4, rfl, hv4, hr5, hu4⟩
              have hi5 := hi3.upd hu4 hg2B hne
              have hb5 := hu4.below hb3 (by omega) hb3.size
              go_wp2_with fail
              refine hKL _ _ ((hb5.cell (p := ⟨ga, oa + k * 2 + 1, none⟩) hga).trans (q0r ())) (fun hS5 => ?_)
              clear hKL
              have hks : ∀ y ∈ (ikeysP I N).1, y.length = 32 := by unfold ikeysP; exact cutK_all _ _ (Nat.mul_div_le _ _)
              have hkn : (ikeysP I N).1.length ≤ 1000000 := ikeysP_len I N
              obtain ⟨J, hJ⟩ : ∃ J, J = (ikeysP I N).2 := ⟨_, rfl⟩
              rw [← hJ] at hi5 hr5
              clear hJ
              (go_wp2_with (first | (refine wpLexS_nil ?_) | (refine wpLexS_pure rfl (fun _ _ => ?_); go_simp; refine ⟨_, fun w9 hw9 => (by skip; go_simp; rfl), ?_⟩) | (refine wpLexS_pure0 rfl (fun _ _ => ?_); go_simp; try go_bits) | (refine wpLexS_read rfl (fun _ _ => ?_); go_simp; try go_bits) | (refine wpLexS_loud rfl (fun KL hKL => ?_))))
              have hv3' := hv3.upd hks hu4 hr2.no8
              refine (keys_cmp _ _ _ _ hks hks hkn hkn _ hv3' hv4).mono ?_
              rintro e w5 ⟨rfl, hbs⟩
              replace hi5 := hi5.step hbs
              replace hr5 := hr5.step hbs
              replace hb5 := hb5.trans (hbs.mono hb5.size)
              rw [decide_eq_true rfl]
              go_wp2_with fail
              refine hKL _ _ ((hb5.cell (p := ⟨ga, oa + k * 2 + 1, none⟩) hga).trans (q0r ())) (fun hS6 => ?_)
              clear hKL
              (go_wp2_with (first | (refine wpLexS_nil ?_) | (refine wpLexS_pure rfl (fun _ _ => ?_); go_simp; refine ⟨_, fun w9 hw9 => (by skip; go_simp; rfl), ?_⟩) | (refine wpLexS_pure0 rfl (fun _ _ => ?_); go_simp; try go_bits) | (refine wpLexS_read rfl (fun _ _ => ?_); go_simp; try go_bits) | (refine wpLexS_loud rfl (fun KL hKL => ?_))))
              obtain ⟨E, hE⟩ : ∃ E, E = endP J := ⟨_, rfl⟩
              have EN := inend_any B g J _ hi5
              have REN := fun W h => rend_any B g2 J W h
              rw [← hE] at EN
              simp only [← hE] at REN
              have hEE := bne_self_int E
              have HREN := Lib.hid REN
              clear hE REN
              go_wp2_with fail
              refine EN.mono ?_
              rintro e w6 ⟨rfl, rfl⟩
              go_wp2_with fail
              refine (HREN.out _ hr5).mono ?_
              rintro e w7 ⟨rfl, rfl⟩
              have hd7 : ∀ W : World, Below W.heap.size W W.drew := fun W => (by repeat (first | with_reducible exact Below.refl _ _ | with_reducible assumption | refine Below.drew ?_ | refine below_drewN ?_ | refine Below.alloc ?_ (by first | omega | (simp; done) | (simp; omega)) _ | refine below_setRow ?_ (by omega) _ | refine Below.setCell ?_ (by first | omega | (simp; done) | (simp; omega)) _))
              have hi7 := hi5.step (hd7 _)
              have hr7 := hr5.step (hd7 _)
              have hb7 := hb5.trans ((hd7 _).mono hb5.size)
              go_wp2_with fail
              exact ⟨⟨k + 1, J, by omega, by go_num, hi7, hr7, hb7⟩, by simp [intOf]; omega⟩
            · have f4 : (D == (4 : Int)) = false := by simpa using d4
              clear d1 d2 d3 d4
              have hi5 := hi
              have hr5 := hr
              have hb5 := hb
              obtain ⟨J, hJ⟩ : ∃ J, J = I := ⟨_, rfl⟩
              rw [← hJ] at hi5 hr5
              clear hJ
              obtain ⟨E, hE⟩ : ∃ E, E = endP J := ⟨_, rfl⟩
              have EN := inend_any B g J _ hi5
              have REN := fun W h => rend_any B g2 J W h
              rw [← hE] at EN
              simp only [← hE] at REN
              have hEE := bne_self_int E
              have HREN := Lib.hid REN
              clear hE REN
              go_wp2_with fail
              refine EN.mono ?_
              rintro e w6 ⟨rfl, rfl⟩
              go_wp2_with fail
              refine (HREN.out _ hr5).mono ?_
              rintro e w7 ⟨rfl, rfl⟩
              have hd7 : ∀ W : World, Below W.heap.size W W.drew := fun W => (by repeat (first | with_reducible exact Below.refl _ _ | with_reducible assumption | refine Below.drew ?_ | refine below_drewN ?_ | refine Below.alloc ?_ (by first | omega | (simp; done) | (simp; omega)) _ | refine below_setRow ?_ (by omega) _ | refine Below.setCell ?_ (by first | omega | (simp; done) | (simp; omega)) _))
              have hi7 := hi5.step (hd7 _)
              have hr7 := hr5.step (hd7 _)
              have hb7 := hb5.trans ((hd7 _).mono hb5.size)
              go_wp2_with fail
              exact ⟨⟨k + 1, J, by omega, by go_num, hi7, hr7, hb7⟩, by simp [intOf]; omega⟩
    · have e : k = n := by omega
      subst e
      go_wp2_with fail
      go_ret
      exact ⟨rfl, hb⟩
theorem walk_CodecReads (Ab : Option Addr) (cb : Nat) (b : List UInt8) (v : Value) (xs : List (Int × Int)) (w : World) (hc : b.length ≤ cb) (hr : Rd8 w w.heap.size Ab b) (h : AsksL w v xs) :
    Calls Try.prog 8 #[.slice Ab b.length cb, v] w (TrueRes' w) := by
  by_cases h5 : 5000 < b.length
  · obtain ⟨A, c, rfl, -⟩ := h
    have i1 : (5000 : Int) < b.length := by omega
    go_enter Try.func8, Try.ntmps8
    go_wp2_with fail
    refine (awake9_any _).mono ?_
    rintro e w1 ⟨rfl, b1⟩
    go_wp2_with fail
    go_ret
    exact ⟨rfl, b1⟩
  · by_cases h20 : 20 < xs.length
    · obtain ⟨A, c, rfl, -⟩ := h
      have i1 : ¬ (5000 : Int) < b.length := by omega
      have i2 : (20 : Int) < xs.length := by omega
      go_enter Try.func8, Try.ntmps8
      go_wp2_with fail
      refine (awake9_any _).mono ?_
      rintro e w1 ⟨rfl, b1⟩
      go_wp2_with fail
      go_ret
      exact ⟨rfl, b1⟩
    · exact codecreads_any _ v b xs w (Bs.of hc (by omega) hr) h (by omega) (by omega)
section
open Go.ChangeShapes Go.WideShapes Go.ChangeAt
variable {H : Type} {enc : TypeId × Value → H} {w : World} {base : Nat} {spare : Nat → Bool} {held : Bool} {r : Reach} {b0 fuel : Nat} {v : Value} {d : DataW H} {ps : List MemPlace}
theorem list2 {α : Type} {l : List α} (h : l.length = 2) : ∃ a b, l = [a, b] := by
  match l, h with
  | [a, b], _ => exact ⟨a, b, rfl⟩
theorem trod_ask {cs : List Value} {x : DataW H × List MemPlace} (hl : cs.length = 2) (h : DataW.trod enc Try.prog w base spare held fuel 68 cs = some x) : ∃ a b : Int, cs = [.int .i64 a, .int .i64 b] := by
  obtain ⟨xs, n, _, _, _, hlen, hf⟩ := DataW.trod_struct Try.underlying68 h
  obtain ⟨a, b, rfl⟩ := list2 hl
  have c1 : Try.prog.cellsOf 3 = 1 := by kernel_rfl
  have x2 : xs.length = 2 := hlen
  obtain ⟨y0, y1, rfl⟩ := list2 x2
  have f0 := hf 0 _ rfl
  have f1 := hf 1 _ rfl
  change DataW.trod enc Try.prog w base spare held n 3 (([a, b].drop 0).take (Try.prog.cellsOf 3)) = some y0 at f0
  change DataW.trod enc Try.prog w base spare held n 3 (([a, b].drop 1).take (Try.prog.cellsOf 3)) = some y1 at f1
  rw [c1] at f0 f1
  obtain ⟨z0, h0, _, _⟩ := DataW.trod_int Try.underlying3 f0
  obtain ⟨z1, h1, _, _⟩ := DataW.trod_int Try.underlying3 f1
  simp at h0 h1
  exact ⟨z0, z1, by rw [h0, h1]⟩
set_option maxRecDepth 100000 in
theorem arg_asks (hval : Value.okWide Try.prog w r b0 61 v) (hd : DataW.Trod enc Try.prog w base spare held 61 v d ps) :
    ∃ xs, AsksL w v xs := by
  obtain ⟨a, n, c, rfl⟩ := okWide_slice Try.underlying61 hval
  obtain ⟨fuel, hf⟩ := hd
  obtain ⟨hnc, hel⟩ := elems_of (k := 2) Try.underlying61 (by kernel_rfl) (by omega) (by simpa [Value.cells] using hf)
  by_cases hn : 0 < n
  · obtain ⟨g, o, rfl, hg, hcs⟩ := hel hn
    have hex : ∀ i, ∃ u : Int × Int, i < n → w.cell? ⟨g, o + i * 2, none⟩ = some (.int .i64 u.1) ∧ w.cell? ⟨g, o + i * 2 + 1, none⟩ = some (.int .i64 u.2) := fun i => by
      by_cases hi : i < n
      · obtain ⟨cs, y, fu, hl, hc1, hy⟩ := hcs i hi
        obtain ⟨a, b, rfl⟩ := trod_ask hl hy
        refine ⟨(a, b), fun _ => ⟨?_, ?_⟩⟩
        · have := hc1 0 (by omega); simpa using this
        · have := hc1 1 (by omega); rw [← Nat.add_assoc] at this; simpa using this
      · exact ⟨(0, 0), fun h => absurd h hi⟩
    let f : Nat → Int × Int := fun i => Classical.choose (hex i)
    refine ⟨(List.range n).map f, _, c, by simp, by simpa using hnc, fun _ => ⟨g, o, rfl, hg, fun i hi => ?_⟩⟩
    have hi' : i < n := by simpa using hi
    have e1 : nthA ((List.range n).map f) i = f i := by rw [nthA_def]; simp [List.getD, hi']
    rw [e1]
    exact Classical.choose_spec (hex i) hi'
  · obtain rfl : n = 0 := by omega
    exact ⟨[], a, c, rfl, by simp, fun h => by simp at h⟩
end
end Go.Proofs.Ytifnpphkplogaaa
