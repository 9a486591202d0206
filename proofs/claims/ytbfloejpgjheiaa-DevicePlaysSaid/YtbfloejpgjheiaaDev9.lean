/- Layer 11, its law's own: whether the law is awake. -/
import Derived.Test.YtbfloejpgjheiaaDev8
namespace Go.Proofs.Ytbfloejpgjheiaa
open Go.RowKit
theorem aw11_1 : (sect ((((Dv.new 2).write 0 [1, 2]).crash []).seen) 0).take 2 = [0, 0] := by decide +kernel
theorem aw11_2 : (sect (((((Dv.new 2).write 0 [1, 2]).write 1 [3]).crash [false, true]).seen) 1).take 2 = [3, 0] := by decide +kernel
theorem aw11_3 : ((Dv.new 2).setFuse 1).errW 0 [1] = 0 := by decide +kernel
theorem aw11_4 : (((Dv.new 2).setFuse 1).write 0 [1]).errW 1 [1] = 61 := by decide +kernel
theorem lit2 (a b : UInt8) : #[Value.int .u8 (n8 a), .int .u8 (n8 b)] = u8s [a, b] := by rw [u8s_def]; simp
theorem lit1 (a : UInt8) : #[Value.int .u8 (n8 a)] = u8s [a] := by rw [u8s_def]; simp
theorem bs_lit {w : World} {vs : Array Value} {l : List UInt8} {t : TypeId} (h : vs = u8s l) (hl : l.length ≤ 1000) : Bs (w.alloc (.cells vs t)) (.slice (some ⟨w.heap.size, 0, none⟩) l.length l.length) l := by
  subst h
  exact Bs.row (RowIs.new w _ t) _ _ rfl (Nat.le_refl _) (by omega)
/-- three devices, apart -/
structure Trio (B : Nat) (w0 w : World) (L M N : DL) (a b c : Dv) : Prop where
  d1 : Dev w L a
  d2 : Dev w M b
  d3 : Dev w N c
  s12 : Sep L M
  s13 : Sep L N
  s23 : Sep M N
  h1 : ∀ k, L.has k → B ≤ k
  h2 : ∀ k, M.has k → B ≤ k
  h3 : ∀ k, N.has k → B ≤ k
  bel : Below B w0 w
  le : B ≤ w.heap.size
theorem Trio.rot {B : Nat} {w0 w : World} {L M N : DL} {a b c : Dv} (h : Trio B w0 w L M N a b c) : Trio B w0 w M N L b c a := ⟨h.d2, h.d3, h.d1, h.s23, h.s12.symm, h.s13.symm, h.h2, h.h3, h.h1, h.bel, h.le⟩
theorem Trio.go1 {B : Nat} {w0 w w' : World} {L L' M N : DL} {a b c a' : Dv} (h : Trio B w0 w L M N a b c) (t : DevTo L L' a' w w') : Trio B w0 w' L' M N a' b c := by
  obtain ⟨e1, e2⟩ := DevTo.at h.bel t h.h1 h.le
  exact ⟨t.dev, (t.sep h.s12 h.d2).2, (t.sep h.s13 h.d3).2, (t.sep h.s12 h.d2).1, (t.sep h.s13 h.d3).1, h.s23, e2, h.h2, h.h3, e1, by have := t.upx.size; have := h.le; omega⟩
theorem Trio.go2 {B : Nat} {w0 w w' : World} {L L' M N : DL} {a b c a' : Dv} (h : Trio B w0 w M L N b a c) (t : DevTo L L' a' w w') : Trio B w0 w' M L' N b a' c := (h.rot.go1 t).rot.rot
theorem Trio.go3 {B : Nat} {w0 w w' : World} {L L' M N : DL} {a b c a' : Dv} (h : Trio B w0 w M N L b c a) (t : DevTo L L' a' w w') : Trio B w0 w' M N L' b c a' := (h.rot.rot.go1 t).rot
theorem Trio.step {B : Nat} {w0 w w' : World} {L M N : DL} {a b c : Dv} (h : Trio B w0 w L M N a b c) (hb : Below w.heap.size w w') : Trio B w0 w' L M N a b c := ⟨h.d1.step hb, h.d2.step hb, h.d3.step hb, h.s12, h.s13, h.s23, h.h1, h.h2, h.h3, h.bel.trans (hb.mono h.le), by have := hb.size; have := h.le; omega⟩
def AwakeRes (w : World) (e : Ending) (w' : World) : Prop := e = .returned (.bool true) ∧ Below w.heap.size w w'
set_option maxRecDepth 100000 in
set_option maxHeartbeats 3200000 in
theorem awake_any (w : World) : Calls Try.prog 8 #[] w (AwakeRes w) := by
  obtain ⟨N, hN⟩ : ∃ N, N = Dv.new 2 := ⟨_, rfl⟩
  have hN2 : N.n = 2 := by rw [hN]; rfl
  have hNp : N.pend.length = 0 := by rw [hN]; rfl
  have a1 := aw11_1
  have a2 := aw11_2
  have a3 := aw11_3
  have a4 := aw11_4
  rw [← hN] at a1 a2 a3 a4
  have l12 : #[Value.int .u8 1, .int .u8 2] = u8s [1, 2] := by rw [u8s_def]; simp [n8_def]
  have l3 : #[Value.int .u8 3] = u8s [3] := by rw [u8s_def]; simp [n8_def]
  have l1 : #[Value.int .u8 1] = u8s [1] := by rw [u8s_def]; simp [n8_def]
  have l00 : #[Value.int .u8 0, .int .u8 0] = u8s [0, 0] := by rw [u8s_def]; simp [n8_def]
  have l30 : #[Value.int .u8 3, .int .u8 0] = u8s [3, 0] := by rw [u8s_def]; simp [n8_def]
  have A1 := Lib.hid a1; have A2 := Lib.hid a2; have A3 := Lib.hid a3; have A4 := Lib.hid a4
  have L12 := Lib.hid l12; have L3 := Lib.hid l3; have L1 := Lib.hid l1; have L00 := Lib.hid l00; have L30 := Lib.hid l30
  have HN := Lib.hid hN; have HN2 := Lib.hid hN2; have HNP := Lib.hid hNp
  have NEW : Hid (∀ w, Calls Try.prog 16 #[.int .i64 2] w fun e w' => ∃ L, e = .returned (.tuple #[.pointer (some ⟨L.g, 0, none⟩), .int .i64 0]) ∧ Dev w' L N ∧ Below w.heap.size w w' ∧ ∀ k, L.has k → w.heap.size ≤ k) := Lib.hid fun w => by rw [hN]; exact new_dev 2 (by omega) (by omega) w
  clear a1 a2 a3 a4 l12 l3 l1 l00 l30 hN hN2 hNp
  go_enter Try.func8, Try.ntmps8
  go_wp2_with fail
  refine (NEW.out w).mono ?_
  rintro e w1 ⟨M1, rfl, D1, B1, H1⟩
  go_wp2_with fail
  refine (NEW.out w1).mono ?_
  rintro e w2 ⟨M2, rfl, D2, B2, H2⟩
  have S21 := Sep.new D1 H2
  replace D1 := D1.step B2
  have H2' : ∀ k, M2.has k → w.heap.size ≤ k := fun k hk => by have := H2 k hk; have := B1.size; omega
  replace B1 := B1.trans (B2.mono B1.size)
  clear B2 H2
  go_wp2_with fail
  refine (NEW.out w2).mono ?_
  rintro e w3 ⟨M3, rfl, D3, B3, H3⟩
  have S31 := Sep.new D1 H3
  have S32 := Sep.new D2 H3
  replace D1 := D1.step B3
  replace D2 := D2.step B3
  have H3' : ∀ k, M3.has k → w.heap.size ≤ k := fun k hk => by have := H3 k hk; have := B1.size; omega
  replace B1 := B1.trans (B3.mono B1.size)
  have TR : Trio w.heap.size w w3 M1 M2 M3 N N N := ⟨D1, D2, D3, S21.symm, S31.symm, S32.symm, H1, H2', H3', B1, B1.size⟩
  clear B3 H3 D1 D2 D3 S21 S31 S32 H1 H2' H3' B1
  go_wp2_with fail
  refine (write_lit M1 N 0 [1, 2] _ _ w3 TR.d1 L12.out (by rw [HNP.out]; omega)).mono ?_
  rintro e w4 ⟨rfl, K1, T⟩
  replace TR := TR.go1 T
  rw [← T.g]
  clear T
  obtain ⟨d1, e1⟩ : ∃ d, d = N.write 0 [1, 2] := ⟨_, rfl⟩
  have P1 : d1.pend.length ≤ 1 := by rw [e1]; have := Dv.write_pend (d := N) 0 [1, 2]; have := HNP.out; omega
  rw [← e1] at TR
  have E1 := Lib.hid e1
  clear e1
  go_wp2_with fail
  refine (crash_nil K1 d1 w4 TR.d1 (by omega)).mono ?_
  rintro e w5 ⟨rfl, J1, T⟩
  replace TR := TR.go1 T
  rw [← T.g]
  clear T
  go_wp2_with fail
  refine (write_lit M2 N 0 [1, 2] _ _ w5 TR.d2 L12.out (by rw [HNP.out]; omega)).mono ?_
  rintro e w6 ⟨rfl, K2, T⟩
  replace TR := TR.go2 T
  rw [← T.g]
  clear T
  rw [← E1.out] at TR
  go_wp2_with fail
  refine (write_lit K2 d1 1 [3] _ _ w6 TR.d2 L3.out (by omega)).mono ?_
  rintro e w7 ⟨rfl, J2, T⟩
  replace TR := TR.go2 T
  rw [← T.g]
  clear T
  obtain ⟨d2, e2⟩ : ∃ d, d = d1.write 1 [3] := ⟨_, rfl⟩
  have P2 : d2.pend.length ≤ 2 := by rw [e2]; have := Dv.write_pend (d := d1) 1 [3]; omega
  rw [← e2] at TR
  have E2 := Lib.hid e2
  clear e2
  go_wp2_with fail
  refine (crash_lit J2 d2 [false, true] _ _ w7 TR.d2 rfl (by omega)).mono ?_
  rintro e w8 ⟨rfl, I2, T⟩
  replace TR := TR.go2 T
  rw [← T.g]
  clear T
  go_wp2_with fail
  refine (fuse_any M3 N 1 w8 TR.d3 (by omega) (by omega)).mono ?_
  rintro e w9 ⟨rfl, T⟩
  replace TR := TR.go3 T
  clear T
  obtain ⟨d3, e3⟩ : ∃ d, d = N.setFuse 1 := ⟨_, rfl⟩
  have P3 : d3.pend.length ≤ 0 := by rw [e3]; have : (N.setFuse 1).pend = N.pend := rfl; rw [this, HNP.out]; omega
  rw [← e3] at TR
  have E3 := Lib.hid e3
  clear e3
  go_wp2_with fail
  refine (write_lit M3 d3 0 [1] _ _ w9 TR.d3 L1.out (by omega)).mono ?_
  rintro e w10 ⟨rfl, K3, T⟩
  replace TR := TR.go3 T
  rw [← T.g]
  clear T
  have x3 : d3.errW 0 [1] = 0 := by rw [E3.out]; exact A3.out
  rw [x3]
  clear x3
  obtain ⟨d4, e4⟩ : ∃ d, d = d3.write 0 [1] := ⟨_, rfl⟩
  have P4 : d4.pend.length ≤ 1 := by rw [e4]; have := Dv.write_pend (d := d3) 0 [1]; omega
  rw [← e4] at TR
  have E4 := Lib.hid e4
  clear e4
  go_wp2_with fail
  refine (write_lit K3 d4 1 [1] _ _ w10 TR.d3 L1.out (by omega)).mono ?_
  rintro e w11 ⟨rfl, J3, T⟩
  replace TR := TR.go3 T
  clear T
  have x4 : d4.errW 1 [1] = 61 := by rw [E4.out, E3.out]; exact A4.out
  rw [x4]
  clear x4
  go_wp2_with fail
  have hn1 : 0 < (d1.crash []).n := by rw [show (d1.crash []).n = d1.n from rfl, E1.out, Dv.write_n, HN2.out]; omega
  refine (peek_any J1 _ 0 w11 TR.d1 hn1).mono ?_
  rintro e w12 ⟨v1, rfl, hv1, hb1⟩
  rw [E1.out, A1.out] at hv1
  replace TR := TR.step hb1
  clear hb1 hn1
  go_wp2_with fail
  have hal : Below w12.heap.size w12 (w12.alloc (.cells #[.int .u8 0, .int .u8 0] 5)) := (by repeat (first | with_reducible exact Below.refl _ _ | with_reducible assumption | refine Below.drew ?_ | refine below_drewN ?_ | refine Below.alloc ?_ (by first | omega | (simp; done) | (simp; omega)) _ | refine below_setRow ?_ (by omega) _ | refine Below.setCell ?_ (by first | omega | (simp; done) | (simp; omega)) _))
  refine (refSame_bs (hv1.step hal) (bs_lit L00.out (by simp))).mono ?_
  replace TR := TR.step hal
  rintro e w13 ⟨rfl, hb1⟩
  replace TR := TR.step hb1
  clear hb1 hal hv1
  go_wp2_with fail
  have hn2 : 1 < (d2.crash [false, true]).n := by rw [show (d2.crash [false, true]).n = d2.n from rfl, E2.out, Dv.write_n, E1.out, Dv.write_n, HN2.out]; omega
  refine (peek_any I2 _ 1 w13 TR.d2 hn2).mono ?_
  rintro e w14 ⟨v2, rfl, hv2, hb2⟩
  rw [E2.out, E1.out, A2.out] at hv2
  replace TR := TR.step hb2
  clear hb2 hn2
  go_wp2_with fail
  have hal2 : Below w14.heap.size w14 (w14.alloc (.cells #[.int .u8 3, .int .u8 0] 5)) := (by repeat (first | with_reducible exact Below.refl _ _ | with_reducible assumption | refine Below.drew ?_ | refine below_drewN ?_ | refine Below.alloc ?_ (by first | omega | (simp; done) | (simp; omega)) _ | refine below_setRow ?_ (by omega) _ | refine Below.setCell ?_ (by first | omega | (simp; done) | (simp; omega)) _))
  refine (refSame_bs (hv2.step hal2) (bs_lit L30.out (by simp))).mono ?_
  replace TR := TR.step hal2
  rintro e w15 ⟨rfl, hb3⟩
  replace TR := TR.step hb3
  clear hb3 hal2 hv2
  go_wp2_with fail
  go_ret
  exact ⟨rfl, TR.bel⟩
end Go.Proofs.Ytbfloejpgjheiaa
