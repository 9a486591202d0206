/- Layer 9: an In: the document's. | Layer 9: an In's keys, the document's. Printed by gen_cod6.py. -/
import Derived.Test.YtifnpphkplogaaaInW
namespace Go.Proofs.Ytifnpphkplogaaa
section
open Go.RowKit
/-- the document's In: its bytes stay, its place goes on -/
def RInIs (w : World) (B g : Nat) (i : InP) : Prop := B ≤ g ∧ ∃ (v : Value) (L : List UInt8) (at' : Nat), RowIs w g #[v, .int .i64 at', .int .i64 i.e] ∧ BsB w B v L ∧ at' ≤ L.length ∧ (i.e = 0 → i.b = L.drop at') ∧ (i.e ≠ 0 → i.b = [])
theorem RInIs.lt {w : World} {B g : Nat} {i : InP} (h : RInIs w B g i) : g < w.heap.size := by obtain ⟨_, v, L, k, h1, _⟩ := h; exact h1.lt
theorem RInIs.step {w w' : World} {B g : Nat} {i : InP} (h : RInIs w B g i) (hb : Below w.heap.size w w') : RInIs w' B g i := by
  have hl := h.lt
  obtain ⟨h0, v, L, k, h1, h2, h3⟩ := h; exact ⟨h0, v, L, k, h1.step hb, h2.keep (hb.mono (by omega)), h3⟩
theorem RInIs.upd {w w' : World} {B g x : Nat} {i : InP} (h : RInIs w B g i) (hu : Upd x w w') (hx : B ≤ x) (hg : g ≠ x) : RInIs w' B g i := by
  have hl := h.lt
  obtain ⟨h0, v, L, k, h1, h2, h3⟩ := h; exact ⟨h0, v, L, k, h1.upd hu hg, h2.keep (upd_below hu hx (by omega)), h3⟩
theorem RInIs.setRow {w : World} {B g r : Nat} {i : InP} (h : RInIs w B g i) (hr : B ≤ r) (hg : g ≠ r) (cs : Array Value) : RInIs (w.setRow r cs) B g i := by
  obtain ⟨h0, v, L, k, h1, h2, h3⟩ := h; exact ⟨h0, v, L, k, h1.set_ne hg cs, h2.keep (below_setRow (Below.refl _ _) hr cs), h3⟩
theorem row3_cells {w : World} {g : Nat} {v u x : Value} (h : RowIs w g #[v, u, x]) : w.cell? ⟨g, 0, none⟩ = some v ∧ w.cell? ⟨g, 1, none⟩ = some u ∧ w.cell? ⟨g, 2, none⟩ = some x := by
  obtain ⟨t, ht⟩ := h.row.heap
  rw [h.has] at ht
  exact ⟨by rw [cell_of_row w g 0 _ t (0, 0) ht]; rfl, by rw [cell_of_row w g 1 _ t (0, 0) ht]; rfl, by rw [cell_of_row w g 2 _ t (0, 0) ht]; rfl⟩
theorem row3_put1 {w : World} {g : Nat} {v u x y : Value} (h : RowIs w g #[v, u, x]) : RowIs (w.setCell ⟨g, 1, none⟩ y) g #[v, y, x] := by simpa using h.put 1 y
theorem row3_put2 {w : World} {g : Nat} {v u x y : Value} (h : RowIs w g #[v, u, x]) : RowIs (w.setCell ⟨g, 2, none⟩ y) g #[v, u, y] := by simpa using h.put 2 y
def RInTo (B g : Nat) (i' : InP) (w : World) (e : Ending) (w' : World) : Prop := e = .returned (.tuple #[]) ∧ RInIs w' B g i' ∧ Upd g w w'
theorem rfail_any (B g : Nat) (i : InP) (er : Int) (hne : er ≠ 0) (w : World) (h : RInIs w B g i) :
    Calls Try.prog 77 #[.pointer (some ⟨g, 0, none⟩), .int .i64 er] w (RInTo B g (failP i er) w) := by
  have hgl := h.lt
  obtain ⟨hBg, v, L, k, hr, hv, hk, h0b, h1b⟩ := h
  obtain ⟨c0, c1, c2⟩ := row3_cells hr
  have f2 := hr.fz 2
  by_cases h0 : i.e = 0
  · have e0 : ((i.e : Int) == 0) = true := by simpa using h0
    have ep : failP i er = ⟨[], er⟩ := by unfold failP; rw [if_pos h0]
    rw [ep]
    clear h0b h1b
    go_enter Try.func77, Try.ntmps77
    go_wp2_with fail
    go_end0
    have hu := (Upd.refl g w).put 2 (.int .i64 er)
    exact ⟨rfl, ⟨hBg, v, L, k, row3_put2 hr, hv.keep (upd_below hu hBg (by omega)), hk, fun e => absurd e hne, fun _ => rfl⟩, hu⟩
  · have e0 : ((i.e : Int) == 0) = false := by simpa using h0
    have ep : failP i er = i := by unfold failP; rw [if_neg h0]
    rw [ep]
    have H0 := Lib.hid h0b; have H1 := Lib.hid h1b
    clear h0b h1b
    go_enter Try.func77, Try.ntmps77
    go_wp2_with fail
    go_end0
    exact ⟨rfl, ⟨hBg, v, L, k, hr, hv, hk, H0.out, H1.out⟩, Upd.refl g w⟩
def RTakeIn (B g : Nat) (l : List UInt8) (i' : InP) (w : World) (e : Ending) (w' : World) : Prop := ∃ v, e = .returned v ∧ BsB w' B v l ∧ RInIs w' B g i' ∧ Upd g w w'
set_option maxRecDepth 100000 in
set_option maxHeartbeats 1600000 in
theorem rtake_any (B g : Nat) (i : InP) (n : Nat) (hn6 : n ≤ 10000000) (w : World) (h : RInIs w B g i) :
    Calls Try.prog 78 #[.pointer (some ⟨g, 0, none⟩), .int .i64 n] w (RTakeIn B g (takeP i n).1 (takeP i n).2 w) := by
  have hgl := h.lt
  obtain ⟨hBg, v, L, k, hr, hv, hk, h0b, h1b⟩ := h
  obtain ⟨c0, c1, c2⟩ := row3_cells hr
  have f1 := hr.fz 1
  have f2 := hr.fz 2
  obtain ⟨A, c, rfl, hcc, hL47, -⟩ := id hv
  have H0 := Lib.hid h0b; have H1 := Lib.hid h1b
  obtain ⟨N, hN⟩ : ∃ N, N = L.length := ⟨_, rfl⟩
  by_cases h0 : i.e = 0
  · have e0 : ((i.e : Int) == 0) = true := by simpa using h0
    have e1 : ((i.e : Int) != 0) = false := by simpa using h0
    have hb := h0b h0
    by_cases hn : n ≤ i.b.length
    · have ep : takeP i n = (i.b.take n, ⟨i.b.drop n, 0⟩) := by unfold takeP; rw [if_pos h0, if_pos hn]
      rw [ep]
      rw [hb, List.length_drop] at hn
      have hkn : k + n ≤ L.length := by omega
      have i1 : ¬ (L.length : Int) < (k : Int) + n := by omega
      have hmid : ∀ w, (Instr.sliceAt 25 (.slice A L.length c) (some (.int .i64 k)) (some (.int .i64 ((k : Int) + n))) none).run Try.prog w = .ok (.slice (subA A c k) n (c - k)) w := fun w => by
        have := run_mid Try.underlying25 (by kernel_rfl) A L.length c k (k + n) (by omega) (by omega) w
        rw [show ((k + n : Nat) : Int) = (k : Int) + n by omega, show k + n - k = n by omega] at this
        exact this
      have j1 : (k : Int) + n - n = k := by omega
      have j2 : (k : Int) + n ≤ 9223372036854775807 := by omega
      have hu := (Upd.refl g w).put 1 (.int .i64 ((k : Int) + n))
      have hbb := upd_below hu hBg (by omega)
      have hpart := (hv.midB k n hkn).keep hbb
      clear h0b h1b hN
      rw [hb]
      clear hb
      go_enter Try.func78, Try.ntmps78
      go_wp2_with (first | (refine wp_region_lex [] (by kernel_rfl) (by decide +kernel) ?_) | (refine wpLex_nil ?_) | (refine wpLex_pure rfl (fun _ _ => ?_); go_simp; try go_bits) | (refine wpLex_read rfl (fun _ _ => ?_); go_simp; try go_bits) | (refine wpLex_loud rfl (fun _ _ => ?_)))
      go_ret
      have hq : ∀ W : World, Below W.heap.size W W.drew.drew := fun W => (by repeat (first | with_reducible exact Below.refl _ _ | with_reducible assumption | refine Below.drew ?_ | refine below_drewN ?_ | refine Below.alloc ?_ (by first | omega | (simp; done) | (simp; omega)) _ | refine below_setRow ?_ (by omega) _ | refine Below.setCell ?_ (by first | omega | (simp; done) | (simp; omega)) _))
      refine ⟨_, rfl, hpart.keep ((hq _).mono (by simp [World.setCell]; omega)), RInIs.step (w := w.setCell ⟨g, 1, none⟩ (.int .i64 ((k : Int) + n))) ⟨hBg, _, L, k + n, by rw [h0] at hr; exact row3_put1 hr, hv.keep hbb, hkn, fun _ => rfl, fun e => absurd rfl e⟩ (hq _), hu.then (hq _)⟩
    · have ep : takeP i n = ([], ⟨[], 3⟩) := by unfold takeP; rw [if_pos h0, if_neg hn]
      rw [ep]
      rw [hb, List.length_drop] at hn
      have i1 : (L.length : Int) < (k : Int) + n := by omega
      have j2 : (k : Int) + n ≤ 9223372036854775807 := by omega
      have hu := (Upd.refl g w).put 2 (.int .i64 3)
      have hbb := upd_below hu hBg (by omega)
      clear h0b h1b hN hb
      go_enter Try.func78, Try.ntmps78
      go_wp2_with (first | (refine wp_region_lex [] (by kernel_rfl) (by decide +kernel) ?_) | (refine wpLex_nil ?_) | (refine wpLex_pure rfl (fun _ _ => ?_); go_simp; try go_bits) | (refine wpLex_read rfl (fun _ _ => ?_); go_simp; try go_bits) | (refine wpLex_loud rfl (fun _ _ => ?_)))
      go_ret
      have hq : ∀ W : World, Below W.heap.size W W.drew := fun W => (by repeat (first | with_reducible exact Below.refl _ _ | with_reducible assumption | refine Below.drew ?_ | refine below_drewN ?_ | refine Below.alloc ?_ (by first | omega | (simp; done) | (simp; omega)) _ | refine below_setRow ?_ (by omega) _ | refine Below.setCell ?_ (by first | omega | (simp; done) | (simp; omega)) _))
      exact ⟨_, rfl, BsB.nil _ _, RInIs.step (w := w.setCell ⟨g, 2, none⟩ (.int .i64 3)) ⟨hBg, _, L, k, row3_put2 hr, hv.keep hbb, hk, fun e => absurd e (by decide), fun _ => rfl⟩ (hq _), hu.then (hq _)⟩
  · have e0 : ((i.e : Int) == 0) = false := by simpa using h0
    have e1 : ((i.e : Int) != 0) = true := by simpa using h0
    have ep : takeP i n = ([], i) := by unfold takeP; rw [if_neg h0]
    rw [ep]
    clear h0b h1b hN
    go_enter Try.func78, Try.ntmps78
    go_wp2_with (first | (refine wp_region_lex [] (by kernel_rfl) (by decide +kernel) ?_) | (refine wpLex_nil ?_) | (refine wpLex_pure rfl (fun _ _ => ?_); go_simp; try go_bits) | (refine wpLex_read rfl (fun _ _ => ?_); go_simp; try go_bits) | (refine wpLex_loud rfl (fun _ _ => ?_)))
    go_ret
    have hq : Below w.heap.size w w.drew := (by repeat (first | with_reducible exact Below.refl _ _ | with_reducible assumption | refine Below.drew ?_ | refine below_drewN ?_ | refine Below.alloc ?_ (by first | omega | (simp; done) | (simp; omega)) _ | refine below_setRow ?_ (by omega) _ | refine Below.setCell ?_ (by first | omega | (simp; done) | (simp; omega)) _))
    exact ⟨_, rfl, BsB.nil _ _, RInIs.step (w := w) ⟨hBg, _, L, k, hr, hv, hk, H0.out, H1.out⟩ hq, Upd.of hq⟩
def RNumIn (B g : Nat) (n : UInt64) (i' : InP) (w : World) (e : Ending) (w' : World) : Prop := e = .returned (.int .u64 (n64 n)) ∧ RInIs w' B g i' ∧ Upd g w w'
set_option maxRecDepth 100000 in
theorem rnum_any (B g : Nat) (i : InP) (k : Int) (w : World) (h : RInIs w B g i) :
    Calls Try.prog 34 #[.pointer (some ⟨g, 0, none⟩), .int .i64 k] w (RNumIn B g (inumP i k).1 (inumP i k).2 w) := by
  by_cases hk : sizeOk k = true
  · have ep : inumP i k = (ofHighB (takeP i k.toNat).1, (takeP i k.toNat).2) := by unfold inumP; rw [if_pos hk]
    rw [ep]
    have hk8 : k ≤ 8 ∧ 0 ≤ k := by unfold sizeOk at hk; rw [decide_eq_true_eq] at hk; omega
    obtain ⟨m, rfl⟩ : ∃ m : Nat, k = m := ⟨k.toNat, by omega⟩
    rw [Int.toNat_natCast]
    have HT := Lib.hid (rtake_any B g i m (by omega))
    clear ep
    go_enter Try.func34, Try.ntmps34
    go_wp2_with fail
    refine (refsize_any m _).mono ?_
    rintro e w1 ⟨rfl, rfl⟩
    rw [hk]
    go_wp2_with fail
    refine (HT.out _ h).mono ?_
    rintro e w2 ⟨v2, rfl, hv2, hi2, hu2⟩
    have hsz := hi2.lt; have hBg := hi2.1
    go_wp2_with fail
    refine (refOfHigh_b (hv2.bs (by omega))).mono ?_
    rintro e w3 ⟨rfl, rfl⟩
    go_wp2_with fail
    go_ret
    exact ⟨rfl, hi2, hu2⟩
  · have hkf : sizeOk k = false := by simpa using hk
    have ep : inumP i k = (0, failP i 51) := by unfold inumP; rw [if_neg hk]
    rw [ep]
    clear ep
    go_enter Try.func34, Try.ntmps34
    go_wp2_with fail
    refine (refsize_any k _).mono ?_
    rintro e w1 ⟨rfl, rfl⟩
    rw [hkf]
    go_wp2_with fail
    refine (rfail_any B g i 51 (by decide) _ h).mono ?_
    rintro e w2 ⟨rfl, hi2, hu2⟩
    go_wp2_with fail
    go_ret
    exact ⟨by rw [n64_def]; rfl, hi2, hu2⟩
set_option maxRecDepth 100000 in
set_option maxHeartbeats 1600000 in
theorem rbytes_any (B g : Nat) (i : InP) (most : Int) (w : World) (h : RInIs w B g i) :
    Calls Try.prog 36 #[.pointer (some ⟨g, 0, none⟩), .int .i64 most] w (RTakeIn B g (ibytesP i most).1 (ibytesP i most).2 w) := by
  have HN := Lib.hid (rnum_any B g i 2)
  have hm := inum2_lt i
  have hnn : n64 (inumP i 2).1 = ((inumP i 2).1.toNat : Int) := n64_def _
  unfold ibytesP ilimP
  obtain ⟨m, hmm⟩ : ∃ m, m = (inumP i 2).1.toNat := ⟨_, rfl⟩
  unfold RNumIn at HN
  rw [hnn] at HN
  simp only [← hmm] at hm HN ⊢
  obtain ⟨j, hj⟩ : ∃ j, j = (inumP i 2).2 := ⟨_, rfl⟩
  simp only [← hj] at HN ⊢
  clear hmm hj hnn
  have i1 : (m : Int) ≤ 9223372036854775807 := by omega
  by_cases hlim : min most 4000 < (m : Int)
  · rw [if_pos hlim]
    by_cases hl1 : most < (m : Int)
    · clear hlim
      go_enter Try.func36, Try.ntmps36
      go_wp2_with fail
      refine (HN.out _ h).mono ?_
      rintro e w1 ⟨rfl, hi1, hu1⟩
      go_wp2_with fail
      refine (rfail_any B g j 2 (by decide) _ hi1).mono ?_
      rintro e w2 ⟨rfl, hi2, hu2⟩
      go_wp2_with fail
      refine (rtake_any B g _ m (by omega) _ hi2).mono ?_
      rintro e w3 ⟨v3, rfl, hv3, hi3, hu3⟩
      go_wp2_with fail
      go_ret
      exact ⟨v3, rfl, hv3, hi3, (hu1.trans hu2).trans hu3⟩
    · have hl2 : (4000 : Int) < m := by omega
      clear hlim
      go_enter Try.func36, Try.ntmps36
      go_wp2_with fail
      refine (HN.out _ h).mono ?_
      rintro e w1 ⟨rfl, hi1, hu1⟩
      go_wp2_with fail
      refine (rfail_any B g j 2 (by decide) _ hi1).mono ?_
      rintro e w2 ⟨rfl, hi2, hu2⟩
      go_wp2_with fail
      refine (rtake_any B g _ m (by omega) _ hi2).mono ?_
      rintro e w3 ⟨v3, rfl, hv3, hi3, hu3⟩
      go_wp2_with fail
      go_ret
      exact ⟨v3, rfl, hv3, hi3, (hu1.trans hu2).trans hu3⟩
  · rw [if_neg hlim]
    have hl1 : ¬ most < (m : Int) := by omega
    have hl2 : ¬ (4000 : Int) < m := by omega
    clear hlim
    go_enter Try.func36, Try.ntmps36
    go_wp2_with fail
    refine (HN.out _ h).mono ?_
    rintro e w1 ⟨rfl, hi1, hu1⟩
    go_wp2_with fail
    refine (rtake_any B g _ m (by omega) _ hi1).mono ?_
    rintro e w3 ⟨v3, rfl, hv3, hi3, hu3⟩
    go_wp2_with fail
    go_ret
    exact ⟨v3, rfl, hv3, hi3, hu1.trans hu3⟩
def RKeyIn (B g : Nat) (K : List UInt8) (i' : InP) (w : World) (e : Ending) (w' : World) : Prop := e = .returned (.agg (u8s K)) ∧ RInIs w' B g i' ∧ Upd g w w'
set_option maxRecDepth 100000 in
set_option maxHeartbeats 1600000 in
theorem rkey_any (B g : Nat) (i : InP) (w : World) (h : RInIs w B g i) :
    Calls Try.prog 38 #[.pointer (some ⟨g, 0, none⟩)] w (RKeyIn B g (ikeyP i).1 (ikeyP i).2 w) := by
  have HT := Lib.hid (rtake_any B g i 32 (by omega))
  unfold ikeyP
  obtain ⟨l, hl⟩ : ∃ l, l = (takeP i 32).1 := ⟨_, rfl⟩
  obtain ⟨j, hj⟩ : ∃ j, j = (takeP i 32).2 := ⟨_, rfl⟩
  rw [← hl, ← hj] at HT ⊢
  clear hl hj
  have hkl := keyOfB_length l
  obtain ⟨K, hK⟩ : ∃ K, K = keyOfB l := ⟨_, rfl⟩
  rw [← hK] at hkl ⊢
  have HK := Lib.hid hK
  have hgl := h.lt
  have hBg := h.1
  have hq : Below w.heap.size w (w.alloc (.cells (u8s (zeros 32)) 72)) := (by repeat (first | with_reducible exact Below.refl _ _ | with_reducible assumption | refine Below.drew ?_ | refine below_drewN ?_ | refine Below.alloc ?_ (by first | omega | (simp; done) | (simp; omega)) _ | refine below_setRow ?_ (by omega) _ | refine Below.setCell ?_ (by first | omega | (simp; done) | (simp; omega)) _))
  clear hK
  go_enter Try.func38, Try.ntmps38
  go_wp2_with fail
  refine (HT.out _ (h.step hq)).mono ?_
  rintro e w1 ⟨v1, rfl, hv1, hi1, hu1⟩
  have hl1 := hi1.lt
  go_wp2_with fail
  refine (refToKey_bs (hv1.bs (by omega))).mono ?_
  rintro e w2 ⟨rfl, hb2⟩
  rw [keyOf_B, ← HK.out]
  have R0 : RowIs w2 w.heap.size (u8s (zeros 32)) := ((RowIs.new _ _ _).upd hu1 (by omega)).step hb2
  have hz2 := R0.lt
  have hi2 := hi1.step hb2
  have hu2 := (Upd.of hq).trans (hu1.then hb2)
  have R0h := R0.has; have R0r := R0.row; have R0l := R0.lt
  go_wp2_with fail
  refine bodyPost_retRow 2 _ w.heap.size 32 rfl rfl (by omega) (by kernel_rfl) (by kernel_rfl) ?_ rfl ?_
  · go_simp
  · go_simp
    have hi3 := hi2.setRow (r := w.heap.size) (by omega) (by omega) (u8s K)
    exact ⟨rfl, hi3.step (by repeat (first | with_reducible exact Below.refl _ _ | with_reducible assumption | refine Below.drew ?_ | refine below_drewN ?_ | refine Below.alloc ?_ (by first | omega | (simp; done) | (simp; omega)) _ | refine below_setRow ?_ (by omega) _ | refine Below.setCell ?_ (by first | omega | (simp; done) | (simp; omega)) _)), (hu2.setRow (Nat.le_refl _) _).then (by repeat (first | with_reducible exact Below.refl _ _ | with_reducible assumption | refine Below.drew ?_ | refine below_drewN ?_ | refine Below.alloc ?_ (by first | omega | (simp; done) | (simp; omega)) _ | refine below_setRow ?_ (by omega) _ | refine Below.setCell ?_ (by first | omega | (simp; done) | (simp; omega)) _))⟩
set_option maxRecDepth 100000 in
theorem rend_any (B g : Nat) (i : InP) (w : World) (h : RInIs w B g i) :
    Calls Try.prog 43 #[.pointer (some ⟨g, 0, none⟩)] w fun e w' => e = .returned (.int .i64 (endP i)) ∧ w' = w.drew := by
  obtain ⟨hBg, v, L, k, hr, hv, hk, h0b, h1b⟩ := h
  obtain ⟨c0, c1, c2⟩ := row3_cells hr
  obtain ⟨A, c, rfl, -⟩ := id hv
  by_cases h0 : i.e = 0
  · have e0 : ((i.e : Int) == 0) = true := by simpa using h0
    have hb := h0b h0
    by_cases hbn : i.b = []
    · have ep : endP i = 0 := by unfold endP; rw [if_neg (by simp [hbn])]; exact h0
      have i1 : ¬ (k : Int) < L.length := by
        have := congrArg List.length hb
        rw [hbn, List.length_drop] at this
        simp at this; omega
      rw [ep]
      clear h0b h1b hb hbn
      go_enter Try.func43, Try.ntmps43
      go_wp2_with (first | (refine wp_region_lex [] (by kernel_rfl) (by decide +kernel) ?_) | (refine wpLex_nil ?_) | (refine wpLex_pure rfl (fun _ _ => ?_); go_simp; try go_bits) | (refine wpLex_read rfl (fun _ _ => ?_); go_simp; try go_bits) | (refine wpLex_loud rfl (fun _ _ => ?_)))
      go_ret
      exact ⟨rfl, rfl⟩
    · have ep : endP i = 50 := by unfold endP; rw [if_pos ⟨h0, hbn⟩]
      have i1 : (k : Int) < L.length := by
        have := List.length_pos_iff.2 hbn
        rw [hb, List.length_drop] at this; omega
      rw [ep]
      clear h0b h1b hb hbn
      go_enter Try.func43, Try.ntmps43
      go_wp2_with (first | (refine wp_region_lex [] (by kernel_rfl) (by decide +kernel) ?_) | (refine wpLex_nil ?_) | (refine wpLex_pure rfl (fun _ _ => ?_); go_simp; try go_bits) | (refine wpLex_read rfl (fun _ _ => ?_); go_simp; try go_bits) | (refine wpLex_loud rfl (fun _ _ => ?_)))
      go_ret
      exact ⟨rfl, rfl⟩
  · have e0 : ((i.e : Int) == 0) = false := by simpa using h0
    have ep : endP i = i.e := by unfold endP; rw [if_neg (by simp [h0])]
    rw [ep]
    clear h0b h1b
    go_enter Try.func43, Try.ntmps43
    go_wp2_with (first | (refine wp_region_lex [] (by kernel_rfl) (by decide +kernel) ?_) | (refine wpLex_nil ?_) | (refine wpLex_pure rfl (fun _ _ => ?_); go_simp; try go_bits) | (refine wpLex_read rfl (fun _ _ => ?_); go_simp; try go_bits) | (refine wpLex_loud rfl (fun _ _ => ?_)))
    go_ret
    exact ⟨rfl, rfl⟩
end
section
open Go.RowKit
attribute [local go_sem ↓] xbslK
attribute [local go_sem] bslK1
def RKsIn (B g : Nat) (ks : BLs) (i' : InP) (w : World) (e : Ending) (w' : World) : Prop := ∃ v, e = .returned v ∧ KsL w' v ks ∧ RInIs w' B g i' ∧ Upd g w w'
set_option maxRecDepth 100000 in
set_option maxHeartbeats 3200000 in
theorem rkeys_any (B g : Nat) (i : InP) (most : Int) (w : World) (h : RInIs w B g i) :
    Calls Try.prog 41 #[.pointer (some ⟨g, 0, none⟩), .int .i64 most] w (RKsIn B g (ikeysP i most).1 (ikeysP i most).2 w) := by
  have HN := Lib.hid (rnum_any B g i 2)
  have hm := inum2_lt i
  have hnn : n64 (inumP i 2).1 = ((inumP i 2).1.toNat : Int) := n64_def _
  unfold ikeysP ilimP
  obtain ⟨m, hmm⟩ : ∃ m, m = (inumP i 2).1.toNat := ⟨_, rfl⟩
  unfold RNumIn at HN
  rw [hnn] at HN
  simp only [← hmm] at hm HN ⊢
  obtain ⟨j, hj⟩ : ∃ j, j = (inumP i 2).2 := ⟨_, rfl⟩
  simp only [← hj] at HN ⊢
  clear hmm hj hnn
  have i1 : (m : Int) ≤ 9223372036854775807 := by omega
  have hlen : ∀ j2 : InP, ∃ N, (takeP j2 (32 * m)).1.length = 32 * N ∧ N ≤ m := fun j2 => by
    unfold takeP
    split
    · split
      · exact ⟨m, by simp; omega, Nat.le_refl _⟩
      · exact ⟨0, rfl, Nat.zero_le _⟩
    · exact ⟨0, rfl, Nat.zero_le _⟩
  by_cases hlim : min most 100 < (m : Int)
  · rw [if_pos hlim]
    obtain ⟨N, hN, hNm⟩ := hlen (failP j 2)
    obtain ⟨all, hall⟩ : ∃ all, all = (takeP (failP j 2) (32 * m)).1 := ⟨_, rfl⟩
    obtain ⟨j3, hj3⟩ : ∃ j3, j3 = (takeP (failP j 2) (32 * m)).2 := ⟨_, rfl⟩
    rw [← hall] at hN
    rw [← hall, ← hj3]
    rw [show all.length / 32 = N by omega]
    have HALL := Lib.hid hN
    have HA := Lib.hid hall; have HJ3 := Lib.hid hj3
    clear hN hlen hall hj3
    by_cases hl1 : most < (m : Int)
    · clear hlim
      go_enter Try.func41, Try.ntmps41
      go_wp2_with fail
      refine (HN.out _ h).mono ?_
      rintro e w1 ⟨rfl, hi1, hu1⟩
      go_wp2_with fail
      refine (rfail_any B g j 2 (by decide) _ hi1).mono ?_
      rintro e w2 ⟨rfl, hi2, hu2⟩
      replace hu2 := hu1.trans hu2
      have hl2 := hi2.lt
      have hBg := hi2.1
      go_wp2_with fail
      refine (rtake_any B g _ (32 * m) (by omega) _ hi2).mono ?_
      rw [← HA.out, ← HJ3.out]
      rintro e w3 ⟨v3, rfl, hv3, hi3, hu3⟩
      have hl3 := hi3.lt
      obtain ⟨A3, c3, rfl, hc3, -⟩ := id hv3
      rw [HALL.out] at hc3 hv3 ⊢
      go_wp2_with fail
      go_loopw [7, 8] (fun v a wr => ∃ k : Nat, k ≤ N ∧ a = .int .i64 ((32 * k : Nat) : Int) ∧ OwnK wr w3.heap.size v (cutK all k) ∧ Below w3.heap.size w3 wr) (fun _ a _ => 32 * N - (intOf a).toNat)
      case atStart => exact ⟨0, Nat.zero_le _, rfl, OwnK.nil _ _, Below.refl _ _⟩
      case round =>
        obtain ⟨k, hk, rfl, own, hb⟩ := hrel
        obtain ⟨x, hx⟩ : ∃ x, x = 32 * k := ⟨_, rfl⟩
        rw [← hx]
        have HX := Lib.hid hx
        have hck := cutK_length all k
        by_cases hlt : k < N
        · have i4 : (x : Int) + 32 ≤ 32 * (N : Int) := by omega
          have i5 : (x : Int) + 32 ≤ 9223372036854775807 := by omega
          have hmid : ∀ w, (Instr.sliceAt 25 (.slice A3 (32 * N) c3) (some (.int .i64 x)) (some (.int .i64 ((x : Int) + 32))) none).run Try.prog w = .ok (.slice (subA A3 c3 x) 32 (c3 - x)) w := fun w => by
            have := run_mid Try.underlying25 (by kernel_rfl) A3 (32 * N) c3 x (x + 32) (by omega) (by omega) w
            rw [show ((x + 32 : Nat) : Int) = (x : Int) + 32 by omega, show x + 32 - x = 32 by omega] at this
            exact this
          have hpart : BsB wr B (.slice (subA A3 c3 x) 32 (c3 - x)) ((all.drop x).take 32) := (hv3.midB x 32 (by rw [HALL.out]; omega)).keep (hb.mono (by omega))
          have hKl : ((all.drop x).take 32).length = 32 := by have := HALL.out; simp; omega
          have hcut : cutK all (k + 1) = cutK all k ++ [(all.drop x).take 32] := by rw [hx]; rfl
          obtain ⟨K, hK⟩ : ∃ K, K = (all.drop x).take 32 := ⟨_, rfl⟩
          rw [← hK] at hpart hKl hcut
          have hzr := hb.size
          have htk := refToKey_bs (hpart.bs (by omega))
          have e1 : keyOf K = K := by unfold keyOf; rw [if_pos hKl]
          have e2 : keyErr K = 0 := by unfold keyErr; rw [hKl]; rfl
          unfold KeyRes at htk
          rw [e1, e2] at htk
          have HTK := Lib.hid htk
          have HCUT := Lib.hid hcut
          have HCK := Lib.hid hck
          obtain ⟨Ao, co, rfl⟩ := own.slice
          rw [hck] at own ⊢
          clear htk e1 e2 hcut hck hK hx
          go_wp2_with fail
          refine HTK.out.mono ?_
          rintro e w5 ⟨rfl, hb5⟩
          have hz5 := zeros_length 32
          have hq5 : Below w5.heap.size w5 ((w5.alloc (.cells (u8s K) 72)).alloc (.cells (u8s K) 72)) := (by repeat (first | with_reducible exact Below.refl _ _ | with_reducible assumption | refine Below.drew ?_ | refine below_drewN ?_ | refine Below.alloc ?_ (by first | omega | (simp; done) | (simp; omega)) _ | refine below_setRow ?_ (by omega) _ | refine Below.setCell ?_ (by first | omega | (simp; done) | (simp; omega)) _))
          have R7 : RowIs ((w5.alloc (.cells (u8s K) 72)).alloc (.cells (u8s K) 72)) (w5.heap.size + 1) (u8s K) := RowIs.new' (by simp)
          have own7 := (own.step hb5).step hq5
          have hz7 := hq5.size
          have hzz := hb5.size
          clear hmid
          go_wp2_with (at_builtin; refine wpList_appendK rfl (.tmp 43) (.tmp 45) rfl w3.heap.size (w5.heap.size + 1) rfl own7 rfl R7 hKl (by rw [HCK.out]) (by omega) (by omega) ?_; intro A8 c8 w8 own8 bel8)
          rw [← HCUT.out] at own8
          exact ⟨⟨k + 1, by omega, by have := HX.out; go_num, own8, ((hb.trans (hb5.mono (by omega))).trans (hq5.mono (by omega))).trans bel8⟩, by have := HX.out; simp [intOf]; omega⟩
        · have e : k = N := by omega
          have i4 : ¬ (x : Int) + 32 ≤ 32 * (N : Int) := by omega
          have i5 : (x : Int) + 32 ≤ 9223372036854775807 := by have := HX.out; omega
          have hka : ∀ y ∈ cutK all k, y.length = 32 := cutK_all all k (by have := HALL.out; have := HX.out; omega)
          subst e
          clear hx hck
          go_wp2_with fail
          go_ret
          exact ⟨_, rfl, own.ks hka, hi3.upd (Upd.of (g := w3.heap.size) hb) (by omega) (by omega), (hu2.trans hu3).then hb⟩
    · have hl0 : (100 : Int) < m := by omega
      clear hlim
      go_enter Try.func41, Try.ntmps41
      go_wp2_with fail
      refine (HN.out _ h).mono ?_
      rintro e w1 ⟨rfl, hi1, hu1⟩
      go_wp2_with fail
      refine (rfail_any B g j 2 (by decide) _ hi1).mono ?_
      rintro e w2 ⟨rfl, hi2, hu2⟩
      replace hu2 := hu1.trans hu2
      have hl2 := hi2.lt
      have hBg := hi2.1
      go_wp2_with fail
      refine (rtake_any B g _ (32 * m) (by omega) _ hi2).mono ?_
      rw [← HA.out, ← HJ3.out]
      rintro e w3 ⟨v3, rfl, hv3, hi3, hu3⟩
      have hl3 := hi3.lt
      obtain ⟨A3, c3, rfl, hc3, -⟩ := id hv3
      rw [HALL.out] at hc3 hv3 ⊢
      go_wp2_with fail
      go_loopw [7, 8] (fun v a wr => ∃ k : Nat, k ≤ N ∧ a = .int .i64 ((32 * k : Nat) : Int) ∧ OwnK wr w3.heap.size v (cutK all k) ∧ Below w3.heap.size w3 wr) (fun _ a _ => 32 * N - (intOf a).toNat)
      case atStart => exact ⟨0, Nat.zero_le _, rfl, OwnK.nil _ _, Below.refl _ _⟩
      case round =>
        obtain ⟨k, hk, rfl, own, hb⟩ := hrel
        obtain ⟨x, hx⟩ : ∃ x, x = 32 * k := ⟨_, rfl⟩
        rw [← hx]
        have HX := Lib.hid hx
        have hck := cutK_length all k
        by_cases hlt : k < N
        · have i4 : (x : Int) + 32 ≤ 32 * (N : Int) := by omega
          have i5 : (x : Int) + 32 ≤ 9223372036854775807 := by omega
          have hmid : ∀ w, (Instr.sliceAt 25 (.slice A3 (32 * N) c3) (some (.int .i64 x)) (some (.int .i64 ((x : Int) + 32))) none).run Try.prog w = .ok (.slice (subA A3 c3 x) 32 (c3 - x)) w := fun w => by
            have := run_mid Try.underlying25 (by kernel_rfl) A3 (32 * N) c3 x (x + 32) (by omega) (by omega) w
            rw [show ((x + 32 : Nat) : Int) = (x : Int) + 32 by omega, show x + 32 - x = 32 by omega] at this
            exact this
          have hpart : BsB wr B (.slice (subA A3 c3 x) 32 (c3 - x)) ((all.drop x).take 32) := (hv3.midB x 32 (by rw [HALL.out]; omega)).keep (hb.mono (by omega))
          have hKl : ((all.drop x).take 32).length = 32 := by have := HALL.out; simp; omega
          have hcut : cutK all (k + 1) = cutK all k ++ [(all.drop x).take 32] := by rw [hx]; rfl
          obtain ⟨K, hK⟩ : ∃ K, K = (all.drop x).take 32 := ⟨_, rfl⟩
          rw [← hK] at hpart hKl hcut
          have hzr := hb.size
          have htk := refToKey_bs (hpart.bs (by omega))
          have e1 : keyOf K = K := by unfold keyOf; rw [if_pos hKl]
          have e2 : keyErr K = 0 := by unfold keyErr; rw [hKl]; rfl
          unfold KeyRes at htk
          rw [e1, e2] at htk
          have HTK := Lib.hid htk
          have HCUT := Lib.hid hcut
          have HCK := Lib.hid hck
          obtain ⟨Ao, co, rfl⟩ := own.slice
          rw [hck] at own ⊢
          clear htk e1 e2 hcut hck hK hx
          go_wp2_with fail
          refine HTK.out.mono ?_
          rintro e w5 ⟨rfl, hb5⟩
          have hz5 := zeros_length 32
          have hq5 : Below w5.heap.size w5 ((w5.alloc (.cells (u8s K) 72)).alloc (.cells (u8s K) 72)) := (by repeat (first | with_reducible exact Below.refl _ _ | with_reducible assumption | refine Below.drew ?_ | refine below_drewN ?_ | refine Below.alloc ?_ (by first | omega | (simp; done) | (simp; omega)) _ | refine below_setRow ?_ (by omega) _ | refine Below.setCell ?_ (by first | omega | (simp; done) | (simp; omega)) _))
          have R7 : RowIs ((w5.alloc (.cells (u8s K) 72)).alloc (.cells (u8s K) 72)) (w5.heap.size + 1) (u8s K) := RowIs.new' (by simp)
          have own7 := (own.step hb5).step hq5
          have hz7 := hq5.size
          have hzz := hb5.size
          clear hmid
          go_wp2_with (at_builtin; refine wpList_appendK rfl (.tmp 43) (.tmp 45) rfl w3.heap.size (w5.heap.size + 1) rfl own7 rfl R7 hKl (by rw [HCK.out]) (by omega) (by omega) ?_; intro A8 c8 w8 own8 bel8)
          rw [← HCUT.out] at own8
          exact ⟨⟨k + 1, by omega, by have := HX.out; go_num, own8, ((hb.trans (hb5.mono (by omega))).trans (hq5.mono (by omega))).trans bel8⟩, by have := HX.out; simp [intOf]; omega⟩
        · have e : k = N := by omega
          have i4 : ¬ (x : Int) + 32 ≤ 32 * (N : Int) := by omega
          have i5 : (x : Int) + 32 ≤ 9223372036854775807 := by have := HX.out; omega
          have hka : ∀ y ∈ cutK all k, y.length = 32 := cutK_all all k (by have := HALL.out; have := HX.out; omega)
          subst e
          clear hx hck
          go_wp2_with fail
          go_ret
          exact ⟨_, rfl, own.ks hka, hi3.upd (Upd.of (g := w3.heap.size) hb) (by omega) (by omega), (hu2.trans hu3).then hb⟩
  · rw [if_neg hlim]
    obtain ⟨N, hN, hNm⟩ := hlen j
    obtain ⟨all, hall⟩ : ∃ all, all = (takeP j (32 * m)).1 := ⟨_, rfl⟩
    obtain ⟨j3, hj3⟩ : ∃ j3, j3 = (takeP j (32 * m)).2 := ⟨_, rfl⟩
    rw [← hall] at hN
    rw [← hall, ← hj3]
    rw [show all.length / 32 = N by omega]
    have HALL := Lib.hid hN
    have HA := Lib.hid hall; have HJ3 := Lib.hid hj3
    clear hN hlen hall hj3
    have hl1 : ¬ most < (m : Int) := by omega
    have hl0 : ¬ (100 : Int) < m := by omega
    clear hlim
    go_enter Try.func41, Try.ntmps41
    go_wp2_with fail
    refine (HN.out _ h).mono ?_
    rintro e w1 ⟨rfl, hi1, hu1⟩
    go_wp2_with fail
    have hi2 := hi1
    have hu2 := hu1
    have hl2 := hi2.lt
    have hBg := hi2.1
    refine (rtake_any B g _ (32 * m) (by omega) _ hi2).mono ?_
    rw [← HA.out, ← HJ3.out]
    rintro e w3 ⟨v3, rfl, hv3, hi3, hu3⟩
    have hl3 := hi3.lt
    obtain ⟨A3, c3, rfl, hc3, -⟩ := id hv3
    rw [HALL.out] at hc3 hv3 ⊢
    go_wp2_with fail
    go_loopw [7, 8] (fun v a wr => ∃ k : Nat, k ≤ N ∧ a = .int .i64 ((32 * k : Nat) : Int) ∧ OwnK wr w3.heap.size v (cutK all k) ∧ Below w3.heap.size w3 wr) (fun _ a _ => 32 * N - (intOf a).toNat)
    case atStart => exact ⟨0, Nat.zero_le _, rfl, OwnK.nil _ _, Below.refl _ _⟩
    case round =>
      obtain ⟨k, hk, rfl, own, hb⟩ := hrel
      obtain ⟨x, hx⟩ : ∃ x, x = 32 * k := ⟨_, rfl⟩
      rw [← hx]
      have HX := Lib.hid hx
      have hck := cutK_length all k
      by_cases hlt : k < N
      · have i4 : (x : Int) + 32 ≤ 32 * (N : Int) := by omega
        have i5 : (x : Int) + 32 ≤ 9223372036854775807 := by omega
        have hmid : ∀ w, (Instr.sliceAt 25 (.slice A3 (32 * N) c3) (some (.int .i64 x)) (some (.int .i64 ((x : Int) + 32))) none).run Try.prog w = .ok (.slice (subA A3 c3 x) 32 (c3 - x)) w := fun w => by
          have := run_mid Try.underlying25 (by kernel_rfl) A3 (32 * N) c3 x (x + 32) (by omega) (by omega) w
          rw [show ((x + 32 : Nat) : Int) = (x : Int) + 32 by omega, show x + 32 - x = 32 by omega] at this
          exact this
        have hpart : BsB wr B (.slice (subA A3 c3 x) 32 (c3 - x)) ((all.drop x).take 32) := (hv3.midB x 32 (by rw [HALL.out]; omega)).keep (hb.mono (by omega))
        have hKl : ((all.drop x).take 32).length = 32 := by have := HALL.out; simp; omega
        have hcut : cutK all (k + 1) = cutK all k ++ [(all.drop x).take 32] := by rw [hx]; rfl
        obtain ⟨K, hK⟩ : ∃ K, K = (all.drop x).take 32 := ⟨_, rfl⟩
        rw [← hK] at hpart hKl hcut
        have hzr := hb.size
        have htk := refToKey_bs (hpart.bs (by omega))
        have e1 : keyOf K = K := by unfold keyOf; rw [if_pos hKl]
        have e2 : keyErr K = 0 := by unfold keyErr; rw [hKl]; rfl
        unfold KeyRes at htk
        rw [e1, e2] at htk
        have HTK := Lib.hid htk
        have HCUT := Lib.hid hcut
        have HCK := Lib.hid hck
        obtain ⟨Ao, co, rfl⟩ := own.slice
        rw [hck] at own ⊢
        clear htk e1 e2 hcut hck hK hx
        go_wp2_with fail
        refine HTK.out.mono ?_
        rintro e w5 ⟨rfl, hb5⟩
        have hz5 := zeros_length 32
        have hq5 : Below w5.heap.size w5 ((w5.alloc (.cells (u8s K) 72)).alloc (.cells (u8s K) 72)) := (by repeat (first | with_reducible exact Below.refl _ _ | with_reducible assumption | refine Below.drew ?_ | refine below_drewN ?_ | refine Below.alloc ?_ (by first | omega | (simp; done) | (simp; omega)) _ | refine below_setRow ?_ (by omega) _ | refine Below.setCell ?_ (by first | omega | (simp; done) | (simp; omega)) _))
        have R7 : RowIs ((w5.alloc (.cells (u8s K) 72)).alloc (.cells (u8s K) 72)) (w5.heap.size + 1) (u8s K) := RowIs.new' (by simp)
        have own7 := (own.step hb5).step hq5
        have hz7 := hq5.size
        have hzz := hb5.size
        clear hmid
        go_wp2_with (at_builtin; refine wpList_appendK rfl (.tmp 43) (.tmp 45) rfl w3.heap.size (w5.heap.size + 1) rfl own7 rfl R7 hKl (by rw [HCK.out]) (by omega) (by omega) ?_; intro A8 c8 w8 own8 bel8)
        rw [← HCUT.out] at own8
        exact ⟨⟨k + 1, by omega, by have := HX.out; go_num, own8, ((hb.trans (hb5.mono (by omega))).trans (hq5.mono (by omega))).trans bel8⟩, by have := HX.out; simp [intOf]; omega⟩
      · have e : k = N := by omega
        have i4 : ¬ (x : Int) + 32 ≤ 32 * (N : Int) := by omega
        have i5 : (x : Int) + 32 ≤ 9223372036854775807 := by have := HX.out; omega
        have hka : ∀ y ∈ cutK all k, y.length = 32 := cutK_all all k (by have := HALL.out; have := HX.out; omega)
        subst e
        clear hx hck
        go_wp2_with fail
        go_ret
        exact ⟨_, rfl, own.ks hka, hi3.upd (Upd.of (g := w3.heap.size) hb) (by omega) (by omega), (hu2.trans hu3).then hb⟩
end
end Go.Proofs.Ytifnpphkplogaaa
