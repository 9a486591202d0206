/- MacDerives: the walk of the statement's function. -/
import Derived.Test.YtopmdbmnlflpgaaDoorRefDer
namespace Go.Proofs.YtopmdbmnlflpgaaDoor
open Go.RowKit
attribute [local go_sem ↓] xlogBuild
attribute [local go_sem] logBuild
attribute [local go_sem ↓] kloadX
def Keys3 (g1 g2 g3 : Nat) (c1 c2 c3 : Array Value) (w : World) : Prop := RowIs w g1 c1 ∧ RowIs w g2 c2 ∧ RowIs w g3 c3
theorem lists3_le (a b c : List UInt8) (M : Nat) (ha : a.length ≤ M) (hb : b.length ≤ M) (hc : c.length ≤ M) : ∀ k, k < [a, b, c].length → (nthL [a, b, c] k).length ≤ M := fun k hk => by
  have hk' : k < 3 := hk
  have : k = 0 ∨ k = 1 ∨ k = 2 := by omega
  rcases this with rfl | rfl | rfl <;> simpa [nthL_def]
set_option maxRecDepth 100000 in
set_option maxHeartbeats 3200000 in
theorem macderives_any (key s : List UInt8) (hkey : key.length = 32) (va vb vc : Value) (a b c : List UInt8) (w : World) (he : ShaEnv w) (ha : Bs w va a) (hb : Bs w vb b) (hc : Bs w vc c) (h0 : s.length ≤ 300) (h1 : a.length ≤ 100) (h2 : b.length ≤ 100) (h3 : c.length ≤ 100) :
    Calls Tryd.prog 17 #[.agg (u8s key), .string ⟨s.toArray⟩, va, vb, vc] w (TrueRes' w) := by
  obtain ⟨X, hX⟩ : ∃ X, X = derB key s [a, b, c] := ⟨_, rfl⟩
  obtain ⟨Y, hY⟩ : ∃ Y, Y = derB key s [] := ⟨_, rfl⟩
  have hXl : X.length = 32 := by rw [hX, derB_length]
  have hYl : Y.length = 32 := by rw [hY, derB_length]
  have m1 := fun g vl (w : World) h1' h2' h3' => derive_any g 0 key s hkey vl [a, b, c] w h1' h2' h3' h0 (by simp) (lists3_le a b c 1000 (by omega) (by omega) (by omega)) (by omega)
  have m2 := fun g vl (w : World) h1' h2' h3' => derive_any g (0 + 4) key s hkey vl [] w h1' h2' h3' h0 (by simp) (fun k hk => absurd hk (by simp)) (by omega)
  have r1 := fun r vl (w : World) h1' h2' => refderive_any r 0 key s hkey vl [a, b, c] w h1' h2' h0 (by simp) (lists3_le a b c 1000 (by omega) (by omega) (by omega)) (by omega)
  have r2 := fun r vl (w : World) h1' h2' => refderive_any r (0 + 3) key s hkey vl [] w h1' h2' h0 (by simp) (fun k hk => absurd hk (by simp)) (by omega)
  unfold MSum at m1 m2
  unfold LSum at r1 r2
  rw [← hX] at m1 r1
  rw [← hY] at m2 r2
  obtain ⟨S, hS⟩ : ∃ S : ByteArray, S = ⟨s.toArray⟩ := ⟨_, rfl⟩
  have hSz : S.size = s.length := by rw [hS]; simp [ByteArray.size]
  rw [← hS] at m1 m2 r1 r2 ⊢
  have M1 := Lib.hid m1; have M2 := Lib.hid m2; have Q1 := Lib.hid r1; have Q2 := Lib.hid r2
  obtain ⟨n0, hn0⟩ : ∃ n, s.length = n := ⟨_, rfl⟩
  rw [hn0] at hSz h0
  clear hX hY m1 m2 r1 r2 hS hn0
  obtain ⟨A1, c1, rfl, -, -, -⟩ := id ha
  obtain ⟨A2, c2, rfl, -, -, -⟩ := id hb
  obtain ⟨A3, c3, rfl, -, -, -⟩ := id hc
  obtain ⟨n1, hn1⟩ : ∃ n, a.length = n := ⟨_, rfl⟩
  obtain ⟨n2, hn2⟩ : ∃ n, b.length = n := ⟨_, rfl⟩
  obtain ⟨n3, hn3⟩ : ∃ n, c.length = n := ⟨_, rfl⟩
  rw [hn1] at ha h1 ⊢
  rw [hn2] at hb h2 ⊢
  rw [hn3] at hc h3 ⊢
  clear hn1 hn2 hn3
  have i0 : ¬ (300 : Int) < n0 := by omega
  have i1 : ¬ (100 : Int) < n1 := by omega
  have i2 : ¬ (100 : Int) < n2 := by omega
  have i3 : ¬ (100 : Int) < n3 := by omega
  have hq0 : Below w.heap.size w (w.alloc (.cells (u8s key) 33)) := (by repeat (first | with_reducible exact Below.refl _ _ | with_reducible assumption | refine Below.drew ?_ | refine below_drewN ?_ | refine Below.alloc ?_ (by first | omega | (simp; done) | (simp; omega)) _ | refine below_setRow ?_ (by omega) _ | refine Below.setCell ?_ (by first | omega | (simp; done) | (simp; omega)) _))
  have R0 : RowIs (w.alloc (.cells (u8s key) 33)) w.heap.size (u8s key) := RowIs.new _ _ _
  go_enter Tryd.func17, Tryd.ntmps17
  go_wp2_with fail
  refine (awake3_any _ (he.step hq0)).mono ?_
  rintro e w1 ⟨rfl, HB⟩
  replace he := he.step hq0; replace ha := ha.step hq0; replace hb := hb.step hq0; replace hc := hc.step hq0
  have hr0 := R0.lt
  replace he := he.step HB; replace ha := ha.step HB; replace hb := hb.step HB; replace hc := hc.step HB; replace R0 := R0.step HB
  replace HB := hq0.trans (HB.mono hq0.size)
  clear hq0
  go_wp2_with fail
  refine (new_any false _).mono ?_
  rintro e w2 ⟨g, rfl, hm0, hg, hb2⟩
  have hr1 := R0.lt
  have hg0 : w.heap.size ≤ g := by have := HB.size; omega
  have hg1 : w.heap.size ≠ g := by omega
  replace he := he.step hb2; replace ha := ha.step hb2; replace hb := hb.step hb2; replace hc := hc.step hb2; replace R0 := R0.step hb2
  replace HB := HB.trans (hb2.mono HB.size)
  have hm := MetB.new hm0
  have hgl := RowIs.lt hm0
  clear hm0 hb2
  have hq : Below w2.heap.size w2 (w2.alloc (.cells (logC 0) 44)) := (by repeat (first | with_reducible exact Below.refl _ _ | with_reducible assumption | refine Below.drew ?_ | refine below_drewN ?_ | refine Below.alloc ?_ (by first | omega | (simp; done) | (simp; omega)) _ | refine below_setRow ?_ (by omega) _ | refine Below.setCell ?_ (by first | omega | (simp; done) | (simp; omega)) _))
  have hl := LogB.new w2 44
  replace he := he.step hq; replace ha := ha.step hq; replace hb := hb.step hq; replace hc := hc.step hq; replace hm := hm.step hq; replace R0 := R0.step hq
  replace HB := HB.trans (hq.mono HB.size)
  have hqq : Below (w2.alloc (.cells (logC 0) 44)).heap.size (w2.alloc (.cells (logC 0) 44)) ((w2.alloc (.cells (logC 0) 44)).alloc (.cells #[.slice A1 n1 c1, .slice A2 n2 c2, .slice A3 n3 c3] 27)) := (by repeat (first | with_reducible exact Below.refl _ _ | with_reducible assumption | refine Below.drew ?_ | refine below_drewN ?_ | refine Below.alloc ?_ (by first | omega | (simp; done) | (simp; omega)) _ | refine below_setRow ?_ (by omega) _ | refine Below.setCell ?_ (by first | omega | (simp; done) | (simp; omega)) _))
  have LL := BsL.lit3 (gg := w2.heap.size + 1) 27 (by simp) ha hb hc
  have K0 := kload R0 hkey
  replace he := he.step hqq; replace ha := ha.step hqq; replace hb := hb.step hqq; replace hc := hc.step hqq; replace hm := hm.step hqq; replace hl := hl.step hqq; replace R0 := R0.step hqq
  replace HB := HB.trans (hqq.mono HB.size)
  have hbz := HB.size
  go_wp2_with fail
  refine (M1.out g _ _ hm he (BsLx.of LL (by omega))).mono ?_
  rintro e w3 ⟨rfl, hm3, hu3⟩
  replace HB := hu3.below HB hg0 HB.size
  replace he := hm.env he hu3
  replace ha := ha.upd hu3 hm.no8
  replace hb := hb.upd hu3 hm.no8
  replace hc := hc.upd hu3 hm.no8
  replace hl := hl.upd hu3 (by omega)
  replace R0 := R0.upd hu3 hg1
  clear hm hu3 LL hq hqq K0
  have hq : Below w3.heap.size w3 (w3.alloc (.cells (u8s X) 33)) := (by repeat (first | with_reducible exact Below.refl _ _ | with_reducible assumption | refine Below.drew ?_ | refine below_drewN ?_ | refine Below.alloc ?_ (by first | omega | (simp; done) | (simp; omega)) _ | refine below_setRow ?_ (by omega) _ | refine Below.setCell ?_ (by first | omega | (simp; done) | (simp; omega)) _))
  have R10 : RowIs (w3.alloc (.cells (u8s X) 33)) w3.heap.size (u8s X) := RowIs.new _ _ _
  have hgl3 := hm3.lt
  have hll3 := hl.lt
  have hr3 := R0.lt
  replace he := he.step hq; replace ha := ha.step hq; replace hb := hb.step hq; replace hc := hc.step hq; replace hl := hl.step hq; replace hm3 := hm3.step hq; replace R0 := R0.step hq
  replace HB := HB.trans (hq.mono HB.size)
  have K0 := kload R0 hkey
  go_wp2_with fail
  refine (M2.out g _ _ hm3 he (BsLx.nil _ _)).mono ?_
  rintro e w4 ⟨rfl, hm4, hu4⟩
  replace HB := hu4.below HB hg0 HB.size
  replace ha := ha.upd hu4 hm3.no8
  replace hb := hb.upd hu4 hm3.no8
  replace hc := hc.upd hu4 hm3.no8
  replace hl := hl.upd hu4 (by omega)
  replace R10 := R10.upd hu4 (by omega)
  replace R0 := R0.upd hu4 hg1
  clear hm3 hm4 hu4 hq he K0
  have hq : Below w4.heap.size w4 (w4.alloc (.cells (u8s Y) 33)) := (by repeat (first | with_reducible exact Below.refl _ _ | with_reducible assumption | refine Below.drew ?_ | refine below_drewN ?_ | refine Below.alloc ?_ (by first | omega | (simp; done) | (simp; omega)) _ | refine below_setRow ?_ (by omega) _ | refine Below.setCell ?_ (by first | omega | (simp; done) | (simp; omega)) _))
  have R11 : RowIs (w4.alloc (.cells (u8s Y) 33)) w4.heap.size (u8s Y) := RowIs.new _ _ _
  have hr10 := R10.lt
  have hll4 := hl.lt
  have hr04 := R0.lt
  replace ha := ha.step hq; replace hb := hb.step hq; replace hc := hc.step hq; replace hl := hl.step hq; replace R10 := R10.step hq; replace R0 := R0.step hq
  replace HB := HB.trans (hq.mono HB.size)
  obtain ⟨w5, hw5⟩ : ∃ w5, w5 = w4.alloc (.cells (u8s Y) 33) := ⟨_, rfl⟩
  rw [← hw5] at ha hb hc hl R10 R11 HB R0
  go_wp2_with fail
  rw [← hw5]
  refine wp_region_lexS [] [2, 4, 14, 16] (Keys3 w3.heap.size w4.heap.size w.heap.size (u8s X) (u8s Y) (u8s key)) (by kernel_rfl) (by decide +kernel) ⟨R10.drew, R11.drew, R0.drew⟩ (fun hS => ?_)
  have hd : Below w5.heap.size w5 w5.drew := (by repeat (first | with_reducible exact Below.refl _ _ | with_reducible assumption | refine Below.drew ?_ | refine below_drewN ?_ | refine Below.alloc ?_ (by first | omega | (simp; done) | (simp; omega)) _ | refine below_setRow ?_ (by omega) _ | refine Below.setCell ?_ (by first | omega | (simp; done) | (simp; omega)) _))
  replace ha := ha.step hd; replace hb := hb.step hd; replace hc := hc.step hd; replace hl := hl.step hd
  replace HB := HB.trans (hd.mono HB.size)
  have hg4 : w.heap.size ≤ w2.heap.size := by omega
  have hne1 : w3.heap.size ≠ w2.heap.size := by omega
  have hne2 : w4.heap.size ≠ w2.heap.size := by omega
  have hne3 : w.heap.size ≠ w2.heap.size := by omega
  generalize w5.drew = w6 at ha hb hc hl HB hS ⊢
  clear hd hw5 R10 R11 R0
  have hs6 := HB.size
  (go_wp2_with (first | (refine wpLexS_nil ?_) | (refine wpLexS_pure rfl (fun _ _ => ?_); go_simp; refine ⟨_, fun w9 hw9 => (by have s1 := kload hw9.1 hXl; have s2 := kload hw9.2.1 hYl; have s3 := kload hw9.2.2 hkey; go_simp; rfl), ?_⟩) | (refine wpLexS_pure0 rfl (fun _ _ => ?_); go_simp; try go_bits) | (refine wpLexS_read rfl (fun _ _ => ?_); go_simp; try go_bits) | (refine wpLexS_loud rfl (fun KL hKL => ?_))))
  have hq : Below w6.heap.size w6 (w6.alloc (.cells #[.slice A1 n1 c1, .slice A2 n2 c2, .slice A3 n3 c3] 27)) := (by repeat (first | with_reducible exact Below.refl _ _ | with_reducible assumption | refine Below.drew ?_ | refine below_drewN ?_ | refine Below.alloc ?_ (by first | omega | (simp; done) | (simp; omega)) _ | refine below_setRow ?_ (by omega) _ | refine Below.setCell ?_ (by first | omega | (simp; done) | (simp; omega)) _))
  have LL := BsL.lit3 (gg := w6.heap.size) 27 rfl ha hb hc
  refine hKL _ _ ⟨hS.1.step hq, hS.2.1.step hq, hS.2.2.step hq⟩ (fun _ => ?_)
  have S7 : Keys3 w3.heap.size w4.heap.size w.heap.size (u8s X) (u8s Y) (u8s key) _ := ⟨hS.1.step hq, hS.2.1.step hq, hS.2.2.step hq⟩
  replace hl := hl.step hq
  replace HB := HB.trans (hq.mono HB.size)
  clear hq ha hb hc hS
  (go_wp2_with (first | (refine wpLexS_nil ?_) | (refine wpLexS_pure rfl (fun _ _ => ?_); go_simp; refine ⟨_, fun w9 hw9 => (by have s1 := kload hw9.1 hXl; have s2 := kload hw9.2.1 hYl; have s3 := kload hw9.2.2 hkey; go_simp; rfl), ?_⟩) | (refine wpLexS_pure0 rfl (fun _ _ => ?_); go_simp; try go_bits) | (refine wpLexS_read rfl (fun _ _ => ?_); go_simp; try go_bits) | (refine wpLexS_loud rfl (fun KL hKL => ?_))))
  refine (Q1.out _ _ _ hl LL).mono ?_
  rintro e w9 ⟨rfl, hl9, hu9⟩
  have S9 : Keys3 w3.heap.size w4.heap.size w.heap.size (u8s X) (u8s Y) (u8s key) w9 := ⟨S7.1.upd hu9 hne1, S7.2.1.upd hu9 hne2, S7.2.2.upd hu9 hne3⟩
  replace HB := hu9.below HB hg4 HB.size
  clear hl LL hu9 S7
  (go_wp2_with (first | (refine wpLexS_nil ?_) | (refine wpLexS_pure rfl (fun _ _ => ?_); go_simp; refine ⟨_, fun w9 hw9 => (by have s1 := kload hw9.1 hXl; have s2 := kload hw9.2.1 hYl; have s3 := kload hw9.2.2 hkey; go_simp; rfl), ?_⟩) | (refine wpLexS_pure0 rfl (fun _ _ => ?_); go_simp; try go_bits) | (refine wpLexS_read rfl (fun _ _ => ?_); go_simp; try go_bits) | (refine wpLexS_loud rfl (fun KL hKL => ?_))))
  refine hKL _ _ S9 (fun _ => ?_)
  (go_wp2_with (first | (refine wpLexS_nil ?_) | (refine wpLexS_pure rfl (fun _ _ => ?_); go_simp; refine ⟨_, fun w9 hw9 => (by have s1 := kload hw9.1 hXl; have s2 := kload hw9.2.1 hYl; have s3 := kload hw9.2.2 hkey; go_simp; rfl), ?_⟩) | (refine wpLexS_pure0 rfl (fun _ _ => ?_); go_simp; try go_bits) | (refine wpLexS_read rfl (fun _ _ => ?_); go_simp; try go_bits) | (refine wpLexS_loud rfl (fun KL hKL => ?_))))
  refine (Q2.out _ _ _ hl9 (BsL.nil _)).mono ?_
  rintro e w10 ⟨rfl, hl10, hu10⟩
  have S10 : Keys3 w3.heap.size w4.heap.size w.heap.size (u8s X) (u8s Y) (u8s key) w10 := ⟨S9.1.upd hu10 hne1, S9.2.1.upd hu10 hne2, S9.2.2.upd hu10 hne3⟩
  replace HB := hu10.below HB hg4 HB.size
  clear hl9 S9 hu10
  (go_wp2_with (first | (refine wpLexS_nil ?_) | (refine wpLexS_pure rfl (fun _ _ => ?_); go_simp; refine ⟨_, fun w9 hw9 => (by have s1 := kload hw9.1 hXl; have s2 := kload hw9.2.1 hYl; have s3 := kload hw9.2.2 hkey; go_simp; rfl), ?_⟩) | (refine wpLexS_pure0 rfl (fun _ _ => ?_); go_simp; try go_bits) | (refine wpLexS_read rfl (fun _ _ => ?_); go_simp; try go_bits) | (refine wpLexS_loud rfl (fun KL hKL => ?_))))
  refine hKL _ _ S10 (fun _ => ?_)
  (go_wp2_with (first | (refine wpLexS_nil ?_) | (refine wpLexS_pure rfl (fun _ _ => ?_); go_simp; refine ⟨_, fun w9 hw9 => (by have s1 := kload hw9.1 hXl; have s2 := kload hw9.2.1 hYl; have s3 := kload hw9.2.2 hkey; go_simp; rfl), ?_⟩) | (refine wpLexS_pure0 rfl (fun _ _ => ?_); go_simp; try go_bits) | (refine wpLexS_read rfl (fun _ _ => ?_); go_simp; try go_bits) | (refine wpLexS_loud rfl (fun KL hKL => ?_))))
  go_wp2_with fail
  go_ret
  exact ⟨by simp, HB⟩
theorem walk_MacDerives (key : List UInt8) (s : List UInt8) (A2 : Option Addr) (c2 : Nat) (a : List UInt8) (A3 : Option Addr) (c3 : Nat) (b : List UInt8) (A4 : Option Addr) (c4 : Nat) (c : List UInt8) (w : World) (he : ShaEnv w) (hl : key.length = 32) (hc2 : a.length ≤ c2) (hr2 : Rd8 w w.heap.size A2 a) (hc3 : b.length ≤ c3) (hr3 : Rd8 w w.heap.size A3 b) (hc4 : c.length ≤ c4) (hr4 : Rd8 w w.heap.size A4 c) :
    Calls Tryd.prog 17 #[.agg (u8s key), .string ⟨s.toArray⟩, .slice A2 a.length c2, .slice A3 b.length c3, .slice A4 c.length c4] w (TrueRes' w) := by
  by_cases h : s.length ≤ 300 ∧ a.length ≤ 100 ∧ b.length ≤ 100 ∧ c.length ≤ 100
  · obtain ⟨h0, h1, h2, h3⟩ := h
    exact macderives_any key s hl _ _ _ a b c w he (Bs.of hc2 (by omega) hr2) (Bs.of hc3 (by omega) hr3) (Bs.of hc4 (by omega) hr4) h0 h1 h2 h3
  · obtain ⟨S, hS⟩ : ∃ S : ByteArray, S = ⟨s.toArray⟩ := ⟨_, rfl⟩
    have hSz : S.size = s.length := by rw [hS]; simp [ByteArray.size]
    rw [← hS]
    obtain ⟨n0, hn0⟩ : ∃ n, s.length = n := ⟨_, rfl⟩
    obtain ⟨n1, hn1⟩ : ∃ n, a.length = n := ⟨_, rfl⟩
    obtain ⟨n2, hn2⟩ : ∃ n, b.length = n := ⟨_, rfl⟩
    obtain ⟨n3, hn3⟩ : ∃ n, c.length = n := ⟨_, rfl⟩
    rw [hn0] at hSz
    rw [hn0, hn1, hn2, hn3] at h
    rw [hn1, hn2, hn3]
    clear hr2 hr3 hr4 hc2 hc3 hc4 hn0 hn1 hn2 hn3 hS
    have hq0 : Below w.heap.size w (w.alloc (.cells (u8s key) 33)) := (by repeat (first | with_reducible exact Below.refl _ _ | with_reducible assumption | refine Below.drew ?_ | refine below_drewN ?_ | refine Below.alloc ?_ (by first | omega | (simp; done) | (simp; omega)) _ | refine below_setRow ?_ (by omega) _ | refine Below.setCell ?_ (by first | omega | (simp; done) | (simp; omega)) _))
    have hd : (decide ((300 : Int) < n0) || decide ((100 : Int) < n1) || decide ((100 : Int) < n2) || decide ((100 : Int) < n3)) = true := by simp; omega
    go_enter Tryd.func17, Tryd.ntmps17
    go_wp2_with (go_at_call 29; refine (awake3_any _ (he.step hq0)).mono ?_; rintro e w1 ⟨rfl, hb1⟩)
    all_goals (go_ret; exact ⟨rfl, hq0.trans (Below.mono (by assumption) hq0.size)⟩)
end Go.Proofs.YtopmdbmnlflpgaaDoor
