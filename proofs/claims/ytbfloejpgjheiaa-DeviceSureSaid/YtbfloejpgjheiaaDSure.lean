/- Layer 11: what a sync makes sure stays through every crash. -/
import Derived.Test.YtbfloejpgjheiaaDev10
namespace Go.Proofs.Ytbfloejpgjheiaa
open Go.RowKit
theorem crash_sync (d : Dv) (ks : List Bool) (hp : d.pend = []) : (d.crash ks).seen = d.sure ∧ (d.crash ks).sure = d.sure ∧ (d.crash ks).pend = [] := by
  unfold Dv.crash
  rw [hp]
  exact ⟨rfl, rfl, rfl⟩
set_option maxRecDepth 100000 in
set_option maxHeartbeats 1600000 in
theorem walk_DeviceSure (A0 : Option Addr) (c0 : Nat) (xs : List OpV) (A1 : Option Addr) (c1 : Nat) (k1 : List Bool) (A2 : Option Addr) (c2 : Nat) (k2 : List Bool) (w : World)
    (h0 : RdOps w w.heap.size A0 xs) (hc1 : k1.length ≤ c1) (h1 : RdB w w.heap.size A1 k1) (hc2 : k2.length ≤ c2) (h2 : RdB w w.heap.size A2 k2) :
    Calls Try.prog 3 #[.slice A0 xs.length c0, .slice A1 k1.length c1, .slice A2 k2.length c2] w (AwakeRes w) := by
  have HO := Lib.hid h0
  have H1 := Lib.hid h1
  have H2 := Lib.hid h2
  clear h0 h1 h2
  go_enter Try.func3, Try.ntmps3
  go_wp2_with fail
  refine (awake_any w).mono ?_
  rintro e w1 ⟨rfl, hb1⟩
  go_wp2_with fail
  refine (made_any A0 c0 xs w1 ((HO.out.step hb1).more hb1.size)).mono ?_
  rintro e w2 ⟨g, rfl, hM⟩
  have hd8 : ((Dv.new 8).ops xs (min xs.length 40)).n = 8 := by rw [Dv.ops_n _ _ _ (by omega)]; rfl
  have hdp : ((Dv.new 8).ops xs (min xs.length 40)).pend.length ≤ 40 := by have := Dv.ops_pend (Dv.new 8) xs (min xs.length 40) (by omega); have : (Dv.new 8).pend.length = 0 := rfl; omega
  obtain ⟨d, hd⟩ : ∃ d, d = (Dv.new 8).ops xs (min xs.length 40) := ⟨_, rfl⟩
  rw [← hd] at hM hd8 hdp
  have hH : Held w w2 g d [] := by
    obtain ⟨⟨L, e1, e2, e3⟩, e4⟩ := hM
    exact Held.new hb1 e2 e4 e3 e1
  clear hM hd hb1
  go_wp2_with fail
  refine (held_sync hH).mono ?_
  rintro e w3 ⟨rfl, hH3⟩
  by_cases hdn : d.tick.down = true
  · have he : d.errS = 61 := by unfold Dv.errS; rw [if_pos hdn]
    rw [he]
    go_wp2_with fail
    go_ret
    exact ⟨rfl, hH3.bel⟩
  · have he : d.errS = 0 := by unfold Dv.errS; rw [if_neg hdn]
    have hs8 : d.sync.n = 8 := by rw [Dv.sync_n]; exact hd8
    have hsy : d.sync.pend = [] ∧ d.sync.sure = d.sync.seen := by unfold Dv.sync; rw [if_neg hdn]; exact ⟨rfl, rfl⟩
    rw [he]
    obtain ⟨s, hs⟩ : ∃ s, s = d.sync := ⟨_, rfl⟩
    rw [← hs] at hs8 hsy hH3
    have c1' := crash_sync s k1 hsy.1
    have c2' := crash_sync (s.crash k1) k2 c1'.2.2
    have hl : s.seen.length = 2048 := by rw [hH3.ok.seen, hs8]
    have n2 : ((s.crash k1).crash k2).n = 8 := hs8
    have e1 : (s.crash k1).seen = s.seen := by rw [c1'.1, hsy.2]
    have e2 : ((s.crash k1).crash k2).seen = s.seen := by rw [c2'.1, c1'.2.1, hsy.2]
    have p1 : s.pend.length ≤ 100000 := by rw [hsy.1]; simp
    have p2 : (s.crash k1).pend.length ≤ 100000 := by rw [c1'.2.2]; simp
    have S8 := Lib.hid hs8
    have E1 := Lib.hid e1
    have E2 := Lib.hid e2
    have N2 := Lib.hid n2
    have HL := Lib.hid hl
    clear hs c1' c2' hsy he hdn hH hd8 hdp e1 e2 n2 hl hs8
    go_wp2_with fail
    refine (held_all hH3 S8.out).mono ?_
    rintro e w4 ⟨Aa, ca, rfl, hH4, -⟩
    rw [HL.out] at hH4 ⊢
    clear hH3
    go_wp2_with fail
    refine (held_crash hH4 A1 c1 k1 hc1 H1.out p1).mono ?_
    rintro e w5 ⟨rfl, hH5⟩
    clear hH4
    go_wp2_with fail
    refine (held_all hH5 S8.out).mono ?_
    rintro e w6 ⟨Ab, cb, rfl, hH6, -⟩
    rw [E1.out, HL.out] at hH6
    rw [E1.out, HL.out]
    clear hH5
    go_wp2_with fail
    refine (held_crash hH6 A2 c2 k2 hc2 H2.out p2).mono ?_
    rintro e w7 ⟨rfl, hH7⟩
    clear hH6
    go_wp2_with fail
    refine (held_all hH7 N2.out).mono ?_
    rintro e w8 ⟨Ac, cc, rfl, hH8, -⟩
    rw [E2.out, HL.out] at hH8
    rw [E2.out, HL.out]
    clear hH7
    go_wp2_with fail
    refine (held_same hH8 (hH8.bs (v := .slice Aa 2048 ca) (l := s.seen) (by simp)) (hH8.bs (v := .slice Ab 2048 cb) (l := s.seen) (by simp))).mono ?_
    rintro e w9 ⟨rfl, hH9⟩
    rw [decide_eq_true (show s.seen = s.seen from rfl)]
    clear hH8
    go_wp2_with fail
    refine (held_same hH9 (hH9.bs (v := .slice Ab 2048 cb) (l := s.seen) (by simp)) (hH9.bs (v := .slice Ac 2048 cc) (l := s.seen) (by simp))).mono ?_
    rintro e w10 ⟨rfl, hH10⟩
    rw [decide_eq_true (show s.seen = s.seen from rfl)]
    clear hH9
    go_wp2_with fail
    go_ret
    exact ⟨rfl, hH10.bel⟩
end Go.Proofs.Ytbfloejpgjheiaa
